/- Proved here: laws.FnExactHuntTry returns true at every input (the tied card), no condition beyond the card. -/
import Derived.Test.YtooajghcoijkaaaGreatDoorC
set_option linter.unusedVariables false
set_option linter.unusedSimpArgs false
set_option linter.unusedSectionVars false
set_option maxRecDepth 100000
namespace Go.Fx.R5
open Go Go.Fx
attribute [go_sem] Option.bind_some cond_true cond_false Bool.false_eq_true Bool.not_true Bool.not_false beq_self_eq_true bne_self_eq_false decide_true decide_false
def Ev(p:Nat→Prop):Prop:=∃ K,∀ k,K≤k→p k
def co(p:Nat→Nat→Prop):Prop:=∃ K,∀ q k,K≤q→K≤k→p q k
section
variable {p r:Nat→Prop} {p2 r2:Nat→Nat→Prop}
theorem Ev.of(h:∀ k,p k):Ev p:=⟨0,fun k _=>h k⟩
theorem Ev.mono(h:Ev p)(g:∀ k,p k→r k):Ev r:=h.imp fun _ h k hk=>g k (h k hk)
theorem Ev.and(h:Ev p)(g:Ev r):Ev fun k=>p k∧r k:=
 let⟨K,h⟩:=h;let⟨L,g⟩:=g;⟨K + L,fun k hk=>⟨h k (by omega),g k (by omega)⟩⟩
theorem Ev.succ(h:Ev fun k=>p (k + 1)):Ev p:=
 let⟨K,h⟩:=h;⟨K + 1,fun k hk=>by obtain⟨j,rfl⟩:∃ j,k=j + 1:=⟨k - 1,by omega⟩;exact h j (by omega)⟩
theorem Ev.Z8(h:Ev p):Ev fun k=>p (k + 1):=let⟨K,h⟩:=h;⟨K,fun k hk=>h (k + 1) (by omega)⟩
theorem Ev.tX(h:Ev p):co fun q _=>p q:=let⟨K,h⟩:=h;⟨K,fun q _ hq _=>h q hq⟩
theorem Ev.afx(h:Ev p):co fun _ k=>p k:=let⟨K,h⟩:=h;⟨K,fun _ k _ hk=>h k hk⟩
theorem co.of(h:∀ q k,p2 q k):co p2:=⟨0,fun q k _ _=>h q k⟩
theorem co.mono(h:co p2)(g:∀ q k,p2 q k→r2 q k):co r2:=h.imp fun _ h q k hq hk=>g q k (h q k hq hk)
theorem co.and(h:co p2)(g:co r2):co fun q k=>p2 q k∧r2 q k:=
 let⟨K,h⟩:=h;let⟨L,g⟩:=g;⟨K + L,fun q k hq hk=>⟨h q k (by omega) (by omega),g q k (by omega) (by omega)⟩⟩
theorem co.succ(h:co fun q k=>p2 q (k + 1)):co p2:=
 let⟨K,h⟩:=h;⟨K + 1,fun q k hq hk=>by obtain⟨j,rfl⟩:∃ j,k=j + 1:=⟨k - 1,by omega⟩;exact h q j (by omega) (by omega)⟩
theorem co.jN(h:co p2):Ev fun k=>p2 k k:=let⟨K,h⟩:=h;⟨K,fun k hk=>h k k hk hk⟩
theorem Ev.wa(h:Ev p):∃ k,p k:=let⟨K,h⟩:=h;⟨K,h K (Nat.le_refl _)⟩
end
theorem eM{x:Int}(h1:-4611686018427387904≤x)(h2:x≤4611686018427387904):dq x=x:=by unfold dq IntKind.wrap;simp [IntKind.bits,IntKind.signed];omega
theorem aeB{n:Nat}(h:n≤4611686018427387904):dq (n:Int)=n:=eM (by omega) (by omega)
theorem af{n:Nat}(h:n < 4611686018427387904):dq ((n:Int) + 1)=((n + 1:Nat):Int):=by rw [eM (by omega) (by omega)];rfl
section
variable {α:Type}
theorem bj{l:List α}{n:Nat}{x:α}(h:l[n]? = some x):bH l (n:Int)=some x:=by simp [bH,h]
theorem cQ{l:List α}{n:Nat}(h:n < l.length):bH l (n:Int)=some l[n]:=bj (by simp [h])
theorem GB{l:List α}{m n:Nat}(h:m≤n)(hn:n≤l.length):sub l (m:Int) (n:Int)=some ((l.take n).drop m):=by simp [sub,h,hn]
theorem p6{l m:List α}(h:l.length + m.length≤4294967296):lq l m=some (l ++ m):=by simp [lq,h]
end
end Go.Fx.R5
namespace Go.Fx.R5
open Go Go.Fx
theorem WZ(b:UInt8)(n:Nat):((b.toNat:Int) == (n:Int))=(b.toNat == n):=by
 by_cases h:b.toNat=n
 ·simp [h]
 ·have:¬ (b.toNat:Int)=(n:Int):=by omega
  rw [beq_eq_false_iff_ne.2 h,beq_eq_false_iff_ne.2 this]
theorem UM(q:Nat):∀ k t a,pw q k t a=jX q k t a
 |0,_,_=>rfl
 |k + 1,t,a=>by simp only [pw,jX,UM q k]
theorem MT(q:Nat):∀ k t a,oz q k t a=kK q k t a
 |0,_,_=>rfl
 |k + 1,t,a=>by simp only [oz,kK,MT q k];rfl
theorem LH(q:Nat):∀ k t a,oA q k t a=iA q k t a
 |0,_,_=>rfl
 |k + 1,t,a=>by simp only [oA,iA,LH q k];rfl
variable {t:an}
theorem Vq(hl:t.length≤3000):∀ m lr,m + lr = t.length→∃ r:Nat,lr≤r∧r≤t.length∧(∀ b,t[lr]? = some b→b.toNat≠10→lr < r)∧
  co fun q k=>jX q k t (lr:Int)=some ((r:Int),())
 |0,lr,h=>by
  refine⟨lr,by omega,by omega,fun b hb=>?_,co.succ (co.of fun q k=>?_)⟩
  ·have:=(List.getElem?_eq_some_iff.1 hb).1;omega
  ·have:¬ lr < t.length:=by omega
   simp [jX,aa,this]
 |m + 1,lr,h=>by
  have bo:lr < t.length:=by omega
  by_cases hb:t[lr].toNat=10
  ·refine⟨lr,by omega,by omega,fun b hb'=>?_,co.succ (co.of fun q k=>?_)⟩
   ·rw [List.getElem?_eq_getElem bo] at hb';cases hb';exact fun h=>absurd hb h
   ·simp [jX,aa,bo,cQ bo,hb]
  ·obtain⟨r,h1,h2,_,h3⟩:=Vq hl m (lr + 1) (by omega)
   refine⟨r,by omega,h2,fun _ _ _=>by omega,co.succ (h3.mono fun q k e=>?_)⟩
   have hb':((t[lr].toNat:Int) == 10)=false:=by rw [show(10:Int)=((10:Nat):Int) from rfl,WZ];simp [hb]
   simp only [go_sem,jX,aa,Int.ofNat_lt,bo,cQ bo,bne,hb',af (show lr < _ by omega),e]
theorem Y4(hl:t.length≤3000):∀ m lr,t.length - lr≤m→lr≤t.length→∃ r:Nat,∃ x,lr≤r∧r≤t.length∧(x = .inl ((r:Int),())∨x = .inr ((r:Int),()))∧
  co fun q k=>iR q k t (lr:Int)=some x∧it q k t (lr:Int)=some x:=by
 intro m;induction m with
 |zero=>
  intro lr hm h;have:¬ lr < t.length:=by omega
  exact⟨lr,.inl ((lr:Int),()),by omega,h,.inl rfl,co.succ (co.of fun q k=>by simp [iR,it,this])⟩
 |succ m ih=>
  intro lr hm h;by_cases bo:lr < t.length
  ·have e32:((t[lr].toNat:Int) == 32)=(t[lr].toNat == 32):=WZ _ 32
   have e10:((t[lr].toNat:Int) == 10)=(t[lr].toNat == 10):=WZ _ 10;have e35:((t[lr].toNat:Int) == 35)=(t[lr].toNat == 35):=WZ _ 35;by_cases h1:t[lr].toNat=32∨t[lr].toNat=10
   ·obtain⟨r,x,a1,a2,a3,a4⟩:=ih (lr + 1) (by omega) (by omega)
    refine⟨r,x,by omega,a2,a3,co.succ (a4.mono fun q k e=>?_)⟩
    simp only [go_sem,iR,it,aa,Int.ofNat_lt,bo,cQ bo,e32,e10,e35,af (show lr < _ by omega),e.1,e.2]
    rcases h1 with h1 | h1<;>simp [h1]
   ·have g1:(t[lr].toNat == 32)=false:=by simp;omega
    have g2:(t[lr].toNat == 10)=false:=by simp;omega
    by_cases h2:t[lr].toNat=35
    ·obtain⟨r1,b1,b2,b3,b4⟩:=Vq hl (t.length - lr) lr (by omega)
     have b5:lr < r1:=b3 t[lr] (by simp [bo]) (by omega)
     obtain⟨r,x,a1,a2,a3,a4⟩:=ih r1 (by omega) (by omega)
     obtain⟨K,b4⟩:=b4;refine⟨r,x,by omega,a2,a3,co.succ ((a4.and (Ev.tX ⟨K,fun q hq=>b4 q q hq hq⟩)).mono fun q k e=>?_)⟩
     simp only [go_sem,iR,it,aa,Int.ofNat_lt,bo,cQ bo,e32,e10,e35,g1,g2,show(t[lr].toNat == 35)=true by simp [h2],UM,e.1.1,e.1.2,e.2,bne,and_self]
    ·have g3:(t[lr].toNat == 35)=false:=by simp;omega
     refine⟨lr,.inr ((lr:Int),()),by omega,by omega,.inr rfl,co.succ (co.of fun q k=>?_)⟩
     simp only [go_sem,iR,it,aa,Int.ofNat_lt,bo,cQ bo,e32,e10,e35,g1,g2,g3,bne,and_self]
  ·exact⟨lr,.inl ((lr:Int),()),by omega,h,.inl rfl,co.succ (co.of fun q k=>by simp [iR,it,bo])⟩
theorem Pc(hl:t.length≤3000)(a:Nat)(h:a≤t.length):∃ r:Nat,a≤r∧r≤t.length∧Ev fun k=>oL k t (a:Int)=some ((r:Int),())∧nB k t (a:Int)=some ((r:Int),()):=by obtain⟨r,x,h1,h2,h3,h4⟩:=Y4 hl _ a (Nat.le_refl _) h;refine⟨r,h1,h2,h4.jN.mono fun k e=>?_⟩;simp only [go_sem,oL,nB,e.1,e.2];rcases h3 with h3 | h3<;>simp [h3]
def NG(b:UInt8):Bool:=decide (97≤b.toNat) && decide (b.toNat≤122)
def EF(b:UInt8):Bool:=decide (48≤b.toNat) && decide (b.toNat≤57)
theorem HL(b:UInt8):rK (b.toNat:Int)=some (NG b,()):=by
 simp only [rK,aa,NG,show decide ((b.toNat:Int)≥97)=decide (97≤b.toNat) from decide_eq_decide.2 (by omega),show decide ((b.toNat:Int)≤122)=decide (b.toNat≤122) from decide_eq_decide.2 (by omega)]
 cases decide (97≤b.toNat)<;>simp
theorem Hj(b:UInt8):qO (b.toNat:Int)=some (EF b,()):=by
 simp only [qO,aa,EF,show decide ((b.toNat:Int)≥48)=decide (48≤b.toNat) from decide_eq_decide.2 (by omega),show decide ((b.toNat:Int)≤57)=decide (b.toNat≤57) from decide_eq_decide.2 (by omega)]
 cases decide (48≤b.toNat)<;>simp
theorem OH(b:UInt8):tj (b.toNat:Int)=some (NG b,()):=HL b
theorem UA(b:UInt8):ru (b.toNat:Int)=some (EF b,()):=Hj b
theorem YX(hl:t.length≤3000):∀ m lr,m + lr = t.length→∃ r:Nat,lr≤r∧r≤t.length∧(∀ b,t[lr]? = some b→NG b=true→lr < r)∧co fun q k=>kK q k t (lr:Int)=some ((r:Int),())
 |0,lr,h=>by
  refine⟨lr,by omega,by omega,fun b hb=>?_,co.succ (co.of fun q k=>?_)⟩
  ·have:=(List.getElem?_eq_some_iff.1 hb).1;omega
  ·have:¬ lr < t.length:=by omega
   simp [kK,aa,this]
 |m + 1,lr,h=>by
  have bo:lr < t.length:=by omega
  by_cases hb:NG t[lr]=true∨EF t[lr]=true
  ·obtain⟨r,h1,h2,_,h3⟩:=YX hl m (lr + 1) (by omega)
   refine⟨r,by omega,h2,fun _ _ _=>by omega,co.succ (h3.mono fun q k e=>?_)⟩
   simp only [go_sem,kK,aa,Int.ofNat_lt,bo,cQ bo,HL,Hj,af (show lr < _ by omega),e]
   rcases hb with hb | hb
   ·simp [hb]
   ·cases NG t[lr]<;>simp [hb]
  ·refine⟨lr,by omega,by omega,fun b hb'=>?_,co.succ (co.of fun q k=>?_)⟩
   ·rw [List.getElem?_eq_getElem bo] at hb';cases hb';exact fun h=>absurd (.inl h) hb
   ·simp only [not_or,Bool.not_eq_true] at hb
    simp [kK,aa,bo,cQ bo,HL,Hj,hb.1,hb.2]
theorem UB(hl:t.length≤3000):∀ m lr,m + lr = t.length→∃ r:Nat,lr≤r∧r≤t.length∧(∀ b,t[lr]? = some b→EF b=true→lr < r)∧((t.take r).drop lr).all EF=true∧co fun q k=>iA q k t (lr:Int)=some ((r:Int),())
 |0,lr,h=>by
  refine⟨lr,by omega,by omega,fun b hb=>?_,?_,co.succ (co.of fun q k=>?_)⟩
  ·have:=(List.getElem?_eq_some_iff.1 hb).1;omega
  ·simp
  ·have:¬ lr < t.length:=by omega
   simp [iA,aa,this]
 |m + 1,lr,h=>by
  have bo:lr < t.length:=by omega
  by_cases hb:EF t[lr]=true
  ·obtain⟨r,h1,h2,_,h4,h3⟩:=UB hl m (lr + 1) (by omega)
   refine⟨r,by omega,h2,fun _ _ _=>by omega,?_,co.succ (h3.mono fun q k e=>?_)⟩
   ·have:(t.take r).drop lr = t[lr] :: (t.take r).drop (lr + 1):=by
     rw [List.drop_eq_getElem_cons (by simp;omega)];simp
    rw [this];simp only [List.all_cons,hb,h4,Bool.and_self]
   ·simp only [go_sem,iA,aa,Int.ofNat_lt,bo,cQ bo,Hj,af (show lr < _ by omega),e,hb]
  ·refine⟨lr,by omega,by omega,fun b hb'=>?_,by simp,co.succ (co.of fun q k=>?_)⟩
   ·rw [List.getElem?_eq_getElem bo] at hb';cases hb';exact fun h=>absurd h hb
   ·simp only [Bool.not_eq_true] at hb
    simp [iA,aa,bo,cQ bo,Hj,hb]
end Go.Fx.R5
namespace Go.Fx.R5
open Go Go.Fx
theorem u8w{x:Int}(h1:0≤x)(h2:x < 256):IntKind.u8.wrap x=x:=by unfold IntKind.wrap;simp [IntKind.bits,IntKind.signed];omega
def Ig(n:Int)(b:UInt8):Int:=n * 10 + ((b.toNat:Int) - 48)
theorem VN{b:UInt8}(h:EF b=true):48≤b.toNat∧b.toNat≤57:=by simpa [EF] using h
theorem S5{s:an}(hs:s.all EF=true)(hl:s.length≤10):∀ m i (v:Int),m + i=s.length→0≤v→v < 10 ^ i→
  0≤(s.drop i).foldl Ig v∧co fun q k=>lC q k s v (i:Int)=some ((s.drop i).foldl Ig v,())
 |0,i,v,h,h0,h1=>by
  have:¬ i < s.length:=by omega
  have e:s.drop i = []:=by simp;omega
  rw [e];exact⟨h0,co.succ (co.of fun q k=>by simp [lC,this])⟩
 |m + 1,i,v,h,h0,h1=>by
  have bo:i < s.length:=by omega
  have hd:=VN (List.all_eq_true.1 hs s[i] (List.getElem_mem bo));have e:s.drop i=s[i] :: s.drop (i + 1):=List.drop_eq_getElem_cons bo;have hp:(10:Int) ^ (i + 1)≤10 ^ 10:=by
   have:(10:Nat) ^ (i + 1)≤10 ^ 10:=Nat.pow_le_pow_right (by omega) (by omega)
   exact_mod_cast this
  have hq:(10:Int) ^ (i + 1)=10 ^ i * 10:=Int.pow_succ ..;have b1:0≤Ig v s[i]:=by unfold Ig;omega
  have b2:Ig v s[i] < 10 ^ (i + 1):=by unfold Ig;omega
  obtain⟨c1,c2⟩:=S5 hs hl m (i + 1) (Ig v s[i]) (by omega) b1 b2
  rw [e];refine⟨c1,co.succ (c2.mono fun q k e=>?_)⟩;have w:dq (dq (v * 10) + dq (IntKind.u8.wrap ((s[i].toNat:Int) - 48)))=Ig v s[i]:=by
   rw [u8w (by omega) (by omega),eM (x:=v * 10) (by omega) (by omega),eM (x:=(s[i].toNat:Int) - 48) (by omega) (by omega),eM (by omega) (by omega)]
   rfl
  simp only [go_sem,lC,Int.ofNat_lt,bo,cQ bo,w,af (show i < _ by omega),e,List.foldl_cons]
theorem Yu{s:an}(hs:s.all EF=true)(h0:0 < s.length):∃(v:Int) (ok:Bool),pd s=some (v,ok,())∧(ok=true→0≤v∧v≤2147483647)∧
  Ev fun k=>pm k s=some (if ok=true then v else -1,()):=by
 have hz:s≠[]:=by intro e;rw [e] at h0;simp at h0
 have hd:RC s=true:=hs;have e0:((s.length:Int) > 10)=(10 < s.length):=by simp only [gt_iff_lt,eq_iff_iff];omega
 have e1:((s.length:Int) > 1)=(1 < s.length):=by simp only [gt_iff_lt,eq_iff_iff];omega
 have hi:s.isEmpty=false:=by simp [hz]
 have hx:bH s 0=some s[0]:=cQ (n:=0) h0;have hh:s.headD 0=s[0]:=by cases s with | nil=>exact absurd rfl hz | cons a b=>rfl
 have e48:((s[0].toNat:Int) == 48)=(s[0] == 48):=by
  rw [show(48:Int)=((48:Nat):Int) from rfl,WZ]
  by_cases h:s[0]=48
  ·simp [h]
  ·rw [beq_eq_false_iff_ne.2 h];simp;exact fun h'=>h (UInt8.toNat_inj.1 h')
 by_cases hl:10 < s.length
 ·exact⟨0,false,by simp [pd,hd,hi,hl],by simp,Ev.of fun k=>by simp only [go_sem,pm,aa,e0,hl];rfl⟩
 ·by_cases h48:1 < s.length∧s[0]=48
  ·exact⟨0,false,by simp only [pd,hd,hi,hh,h48.1,h48.2];rfl,by simp,Ev.of fun k=>by simp only [go_sem,pm,aa,e0,e1,hl,h48.1,hx,h48.2];rfl⟩
  ·obtain⟨c1,c2⟩:=S5 hs (by omega) s.length 0 0 (by omega) (by omega) (by simp)
   have hb:(decide (1 < s.length) && (s[0] == 48))=false:=by
    simp only [Bool.and_eq_false_iff,decide_eq_false_iff_not,beq_eq_false_iff_ne];by_cases h:1 < s.length
    ·exact .inr fun h'=>h48 ⟨h,h'⟩
    ·exact .inl h
   have hv:(s.drop 0).foldl Ig 0=M7 s:=rfl;rw [hv] at c1 c2;have sp:∀ k r,(lC k k s 0 0=some (r,()))→pm k s=some (if decide (r > 2147483647) then -1 else r,()):=fun k r e=>by
    simp only [go_sem,pm,aa,e0,e1,hl,hx,e48,e];cases h:decide (1 < s.length) with
    |false=>simp only [go_sem];cases decide (r > 2147483647)<;>rfl
    |true=>
     have:(s[0] == 48)=false:=by simpa [h] using hb
     rw [this];simp only [go_sem];cases decide (r > 2147483647)<;>rfl
   by_cases hm:2147483647 < M7 s
   ·refine⟨0,false,?_,by simp,c2.jN.mono fun k e=>?_⟩
    ·simp only [pd,hd,hi,hh,hb];simp [hl,hm]
    ·rw [sp k _ e];simp [hm]
   ·refine⟨M7 s,true,?_,fun _=>⟨c1,by omega⟩,c2.jN.mono fun k e=>?_⟩
    ·simp only [pd,hd,hi,hh,hb];simp [hl,hm]
    ·rw [sp k _ e];simp [hm]
def OE:XS:=[[97,114,114,97,121],[118,97,114],[114,101,102],[102,117,110,99],[105,102],[101,108,115,101],[119,104,105,108,101],[102,111,114],[114,101,97,100],[112,114,105,110,116],[97,115,115,101,114,116],[115,116,111,112],[114,101,116,117,114,110],[97,110,100],[111,114],[110,111,116],[110,117,108,108]]
theorem ze{α:Type}{f:Bool→Option α}{b c:Bool}:(aa f fun jx=>bif b then jx true else jx c)=f (b || c):=by cases b<;>rfl
theorem Z4{α:Type}{j:Bool→Option α}{b c:Bool}:(bif b then j b else j c)=j (b || c):=by cases b<;>rfl
theorem Zk(t:an):zj t=some (OE.contains t,()):=by simp only [zj,ze,OE,List.contains_cons,Bool.or_assoc];simp
theorem acT(t:an):yY t=some (OE.contains t,()):=by
 simp only [yY,Z4,OE,List.contains_cons];rw [show ∀ b:Bool,(aa (fun v:Bool=>bif v then some (true,()) else some (false,())) fun jx=>jx b)=some (b,()) from fun b=>by cases b<;>rfl]
 simp
def vT(t:an):an:=(wR.find? (·.isPrefixOf t)).getD []
def MU(o:Option an):Unit⊕(an×Unit):=match o with | none=>.inl () | some s=>.inr (s,())
theorem YJ(s r:an):(decide (s.length≤r.length) && (r.take s.length == s))=s.isPrefixOf r:=by
 have:s.isPrefixOf r=true↔s <+: r:=List.isPrefixOf_iff_prefix;rw [Bool.eq_iff_iff,this,List.prefix_iff_eq_take];simp only [Bool.and_eq_true,decide_eq_true_eq,beq_iff_eq];constructor
 ·rintro⟨_,h⟩;exact h.symm
 ·intro h;refine⟨?_,h.symm⟩
  have:=congrArg List.length h;simp at this;omega
theorem Pb{t:an}(hl:t.length≤3000){a:Nat}(ha:a≤t.length):∀ m i:Nat,m + i=30→
  co fun q k=>mL q k t (a:Int) wR (i:Int)=some (MU ((wR.drop i).find? (·.isPrefixOf (t.drop a))))∧mC q k t (a:Int) wR (i:Int)=some (MU ((wR.drop i).find? (·.isPrefixOf (t.drop a))))
 |0,i,h=>by
  have e:wR.drop i = []:=by rw [show i=30 by omega];rfl
  have h1:¬ i < wR.length:=by rw [show i=30 by omega];decide
  have h2:¬ (i:Int) < 30:=by omega
  rw [e];exact co.succ (co.of fun q k=>by simp [mL,mC,h1,h2,MU])
 |m + 1,i,h=>by
  have bo:i < wR.length:=by show i < 30;omega
  have h2:(i:Int) < 30:=by omega
  have e:wR.drop i=wR[i] :: wR.drop (i + 1):=List.drop_eq_getElem_cons bo;have ih:=Pb hl ha m (i + 1) (by omega)
  have es:sub t (a:Int) (t.length:Int)=some (t.drop a):=by rw [GB ha (Nat.le_refl _),List.take_length]
  have ew:dq ((t.length:Int) - a)=((t.drop a).length:Int):=by rw [eM (by omega) (by omega)];simp;omega
  rw [e,List.find?_cons];have hp:=YJ wR[i] (t.drop a);refine co.succ (ih.mono fun q k e=>?_);simp only [go_sem,mL,mC,aa,Int.ofNat_lt,bo,h2,cQ bo,es,F8,ew,af (show i < _ by omega),e.1,e.2,Int.ofNat_le]
  by_cases hc:wR[i].length≤(t.drop a).length
  ·have hc':a + wR[i].length≤t.length:=by simp at hc;omega
   have e3:sub t (a:Int) (dq ((a:Int) + (wR[i].length:Int)))=some ((t.drop a).take wR[i].length):=by
    rw [eM (by omega) (by omega),show(a:Int) + (wR[i].length:Int)=((a + wR[i].length:Nat):Int) from rfl,GB (by omega) hc']
    rw [List.drop_take];congr 2;omega
   simp only [go_sem,hc,e3];rw [show(List.take wR[i].length (List.drop a t) == wR[i])=wR[i].isPrefixOf (t.drop a) by rw [←hp,decide_eq_true hc,Bool.true_and]]
   cases wR[i].isPrefixOf (t.drop a)<;>simp [MU]
  ·have:wR[i].isPrefixOf (t.drop a)=false:=by rw [←hp];simp;intro h;simp at hc;omega
   simp only [go_sem,hc,this,and_self]
theorem Wq{t:an}(hl:t.length≤3000){a:Nat}(ha:a < t.length):
  Ev fun k=>zi k t (a:Int)=some (vT (t.drop a),())∧yX k t (a:Int)=some (vT (t.drop a),()):=by
 refine(Pb hl (Nat.le_of_lt ha) 30 0 rfl).jN.mono fun k e=>?_;have h0:¬ (a:Int) < 0:=by omega
 have h1:¬ (a:Int)≥t.length:=by omega
 have e1:mL k k t (a:Int) wR 0=some (MU (wR.find? (·.isPrefixOf (t.drop a)))):=e.1
 have e2:mC k k t (a:Int) wR 0=some (MU (wR.find? (·.isPrefixOf (t.drop a)))):=e.2
 have e3:BD=some (wR,()):=rfl;simp only [go_sem,zi,yX,aa,h0,h1,e3,e1,e2,vT];cases wR.find? (·.isPrefixOf (t.drop a))<;>simp [MU]
theorem Y3{t:an}(h:vT t≠[]):vT t∈wR∧vT t <+: t:=by
 unfold vT at h ⊢;cases hf:wR.find? (·.isPrefixOf t) with
 |none=>simp [hf] at h
 |some s=>have h2:s.isPrefixOf t=true:=List.find?_some (p:=fun x:an=>x.isPrefixOf t) hf;exact⟨List.mem_of_find?_eq_some hf,List.isPrefixOf_iff_prefix.1 h2⟩
end Go.Fx.R5
namespace Go.Fx.R5
open Go Go.Fx
abbrev yQ:=Int×Int×an×Int
structure Ll(x:yQ):Prop where
 k:(x.1=1∧OE.contains x.2.2.1=false∧wR.contains x.2.2.1=false∧x.2.2.1≠[])∨(x.1=2∧OE.contains x.2.2.1=false∧wR.contains x.2.2.1=false)∨
  (x.1=3∧OE.contains x.2.2.1=true∧wR.contains x.2.2.1=false)∨(x.1=4∧wR.contains x.2.2.1=true∧OE.contains x.2.2.1=false)
 num:0≤x.2.2.2∧x.2.2.2≤2147483647
 lr:0≤x.2.1∧x.2.1≤3000
theorem aan:∀ s∈wR,(s.head?.map fun c=>NG c || EF c)=some false:=by decide +kernel
theorem aez:∀ s∈OE,(s.head?.map NG)=some true:=by decide +kernel
theorem acb:∀ s∈OE,(s.head?.map EF)=some false:=by decide +kernel
theorem acE:∀ s∈wR,0 < s.length∧s.length≤2:=by decide +kernel
theorem ad5:∀ s∈wR,OE.contains s=false:=by decide +kernel
theorem Yr{s:an}{c:UInt8}(h:s.head? = some c)(hc:NG c=true∨EF c=true):wR.contains s=false:=by
 cases h':wR.contains s with
 |false=>rfl
 |true=>
  have:=aan s (by simpa using h')
  rw [h] at this;simp only [Option.map_some,Option.some.injEq,Bool.or_eq_false_iff] at this;rcases hc with hc | hc
  ·rw [this.1] at hc;cases hc
  ·rw [this.2] at hc;cases hc
theorem acp{s:an}{c:UInt8}(h:s.head? = some c)(hc:EF c=true):OE.contains s=false:=by
 cases h':OE.contains s with
 |false=>rfl
 |true=>
  have:=acb s (by simpa using h')
  rw [h] at this;simp only [Option.map_some,Option.some.injEq] at this;rw [this] at hc;cases hc
theorem RA{t:an}{a r:Nat}(h:a < r)(hr:r≤t.length):((t.take r).drop a).head? = t[a]?:=by rw [List.head?_drop,List.getElem?_take_of_lt h]
theorem KN{t:an}{a r:Nat}(hr:r≤t.length):((t.take r).drop a).length=r - a:=by simp;omega
theorem N9{t:an}{a r:Nat}(h:t.length≤3000):Be ((t.take r).drop a)=some ((t.take r).drop a,()):=by unfold Be;rw [show decide (((t.take r).drop a).length≤281474976710656)=true by simp;omega];rfl
theorem Ui{t:an}(hl:t.length≤3000){a:Nat}(ha:a < t.length):∃(x y:yQ) (e:Nat) (c:Int),
  (Ev fun k=>nU k t (a:Int)=some (x,(e:Int),c,())∧jJ k t (a:Int)=some (y,c,()))∧
  (c=0→x=y∧e=a + y.2.2.1.length∧a < e∧e≤t.length∧Ll y):=by
 have hx:bH t (a:Int)=some t[a]:=cQ ha;have hg:t[a]? = some t[a]:=by simp [ha]
 cases bo:NG t[a] with
 |true=>
  obtain⟨r,h1,h2,h3,h4⟩:=YX hl (t.length - a) a (by omega)
  have h5:a < r:=h3 _ hg bo;have es:sub t (a:Int) (r:Int)=some ((t.take r).drop a):=GB h1 h2;have jI:(((t.take r).drop a).length:Int)=(r:Int) - a:=by rw [KN h2];omega
  have hh:((t.take r).drop a).head? = some t[a]:=by rw [RA h5 h2,hg]
  have h4:=h4.jN;by_cases h8:(r:Int) - a > 8
  ·refine⟨(if OE.contains ((t.take r).drop a) then 3 else 1,a,(t.take r).drop a,0),(0,0,[],0),r,3,h4.mono fun k e=>?_,fun h=>by cases h⟩
   simp only [go_sem,nU,jJ,BC,hx,HL,OH,bo,MT,e,es,jI,h8,eM (x:=(r:Int) - a) (by omega) (by omega),Zk,aa]
   cases OE.contains ((t.take r).drop a)<;>simp
  ·refine⟨(if OE.contains ((t.take r).drop a) then 3 else 1,a,(t.take r).drop a,0),(if OE.contains ((t.take r).drop a) then 3 else 1,a,(t.take r).drop a,0),r,0,h4.mono fun k e=>?_,fun _=>⟨rfl,?_,h5,h2,?_,by simp,by simp;omega⟩⟩
   ·simp only [go_sem,nU,jJ,BC,hx,HL,OH,bo,MT,e,es,jI,h8,eM (x:=(r:Int) - a) (by omega) (by omega),Zk,acT,aa,N9 hl]
    cases OE.contains ((t.take r).drop a)<;>simp
   ·simp only [KN h2];omega
   ·have hs:=Yr hh (.inl bo)
    cases hk:OE.contains ((t.take r).drop a) with
    |true=>exact .inr (.inr (.inl ⟨by simp,rfl,hs⟩))
    |false=>exact .inl ⟨by simp,rfl,hs,fun e=>by have e:(t.take r).drop a = []:=e;rw [e] at hh;cases hh⟩
 |false=>
  cases hdg:EF t[a] with
  |true=>
   obtain⟨r,h1,h2,h3,h6,h4⟩:=UB hl (t.length - a) a (by omega)
   have h5:a < r:=h3 _ hg hdg;have es:sub t (a:Int) (r:Int)=some ((t.take r).drop a):=GB h1 h2;have hh:((t.take r).drop a).head? = some t[a]:=by rw [RA h5 h2,hg]
   obtain⟨v,ok,g1,g2,g3⟩:=Yu h6 (by rw [KN h2];omega)
   have h4:=h4.jN;cases ok with
   |false=>
    refine⟨(2,a,(t.take r).drop a,-1),(0,0,[],0),r,4,(h4.and g3).mono fun k e=>?_,fun h=>by cases h⟩
    simp only [go_sem,nU,jJ,uU,hx,HL,OH,bo,LH,e.1,e.2,es,Hj,UA,hdg,g1];simp
   |true=>
    have gv:=g2 rfl;refine⟨(2,a,(t.take r).drop a,v),(2,a,(t.take r).drop a,v),r,0,(h4.and g3).mono fun k e=>?_,fun _=>⟨rfl,?_,h5,h2,.inr (.inl ⟨rfl,acp hh hdg,Yr hh (.inr hdg)⟩),gv,by simp;omega⟩⟩
    ·have:¬ v < 0:=by omega
     simp only [go_sem,nU,jJ,uU,hx,HL,OH,bo,LH,e.1,e.2,es,Hj,UA,hdg,g1,N9 hl];simp [this]
    ·simp only [KN h2];omega
  |false=>
   have hs:=Wq hl ha;by_cases hz:vT (t.drop a) = []
   ·refine⟨(4,a,[],0),(0,0,[],0),a,2,hs.mono fun k e=>?_,fun h=>by cases h⟩
    simp only [go_sem,nU,jJ,hx,HL,OH,bo,Hj,UA,hdg,e.1,e.2,hz];simp
   ·obtain⟨m1,m2⟩:=Y3 hz
    have Bi:=m2.length_le;have h2:=acE _ m1;refine⟨(4,a,vT (t.drop a),0),(4,a,vT (t.drop a),0),a + (vT (t.drop a)).length,0,hs.mono fun k e=>?_,fun _=>⟨rfl,rfl,by omega,by simp at Bi;omega,.inr (.inr (.inr ⟨rfl,by simpa using m1,ad5 _ m1⟩)),by simp,by simp;omega⟩⟩
    have:(vT (t.drop a) == [])=false:=by simpa using hz
    simp only [go_sem,nU,jJ,hx,HL,OH,bo,Hj,UA,hdg,e.1,e.2,this];rw [eM (by omega) (by omega)]
    simp
theorem Ya{t:an}(hl:t.length≤3000):∀ m (a:Nat) (out:List yQ),t.length - a≤m→a≤t.length→out.length≤700→(∀ x∈out,Ll x)→
  (∃ NT:List yQ,NT.length≤700∧(∀ x∈NT,Ll x)∧co fun q k=>eS q k t 0 0 [] out (a:Int)=some (.inl (0,0,NT,()))∧eQ q k t 0 0 out (a:Int)=some (.inl (0,0,NT,())))∨
  ∃(c:Int) (a':Int),c≠0∧co fun q k=>eS q k t 0 0 [] out (a:Int)=some (.inr (c,a',[],()))∧eQ q k t 0 0 out (a:Int)=some (.inr (c,a',())):=by
 intro m;induction m with
 |zero=>
  intro a out hm ha ho hok;have:¬ a < t.length:=by omega
  exact .inl ⟨out,ho,hok,co.succ (co.of fun q k=>by simp [eS,eQ,this])⟩
 |succ m ih=>
  intro a out hm ha ho hok;by_cases bo:a < t.length
  ·obtain⟨x,y,e,c,h1,h2⟩:=Ui hl bo
   by_cases hc:c=0
   ·subst hc
    obtain⟨rfl,he,h3,h4,h5⟩:=h2 rfl;by_cases h7:out.length=700
    ·refine .inr ⟨5,a,by omega,co.succ (h1.tX.mono fun q k e=>?_)⟩
     simp only [go_sem,eS,eQ,Int.ofNat_lt,bo,e.1,e.2,aa];simp [h7]
    ·obtain⟨r,g1,g2,g3⟩:=Pc hl e h4
     have e7:((out.length:Int) == 700)=false:=by simp;omega
     have e8:¬ (out.length:Int)≥700:=by omega
     have ea:lq out [x]=some (out ++ [x]):=p6 (by simp;omega)
     have ew:dq ((a:Int) + (x.2.2.1.length:Int))=(e:Int):=by rw [he,eM (by omega) (by omega)];simp
     have CE:∀{q k:Nat} {s1 s2},(nU q t (a:Int)=some (x,(e:Int),0,())∧jJ q t (a:Int)=some (x,0,()))→(oL q t (e:Int)=some ((r:Int),())∧nB q t (e:Int)=some ((r:Int),()))→
       (eS q k t 0 0 [] (out ++ [x]) (r:Int)=s1∧eQ q k t 0 0 (out ++ [x]) (r:Int)=s2)→
       eS q (k + 1) t 0 0 [] out (a:Int)=s1∧eQ q (k + 1) t 0 0 out (a:Int)=s2:=by
      intro q k s1 s2 i1 i2 i3;simp only [go_sem,eS,eQ,Int.ofNat_lt,bo,i1.1,i1.2,aa,e7,e8,ea,ew,i2.1,i2.2,i3.1,i3.2];simp
     have ae5:∀ z∈out ++ [x],Ll z:=by
      intro z hz;rcases List.mem_append.1 hz with hz | hz
      ·exact hok z hz
      ·rw [List.mem_singleton.1 hz];exact h5
     rcases ih r (out ++ [x]) (by omega) (by omega) (by simp;omega) ae5 with ⟨NT,o1,o2,o3⟩ |⟨c,a',o1,o2⟩
     ·exact .inl ⟨NT,o1,o2,co.succ (((h1.tX.and g3.tX).and o3).mono fun q k e=>CE e.1.1 e.1.2 e.2)⟩
     ·exact .inr ⟨c,a',o1,co.succ (((h1.tX.and g3.tX).and o2).mono fun q k e=>CE e.1.1 e.1.2 e.2)⟩
   ·refine .inr ⟨c,a,hc,co.succ (h1.tX.mono fun q k e=>?_)⟩
    have KS:(c == 0)=false:=by simpa using hc
    simp only [go_sem,eS,eQ,Int.ofNat_lt,bo,e.1,e.2,aa,bne,KS];simp
  ·exact .inl ⟨out,ho,hok,co.succ (co.of fun q k=>by simp [eS,eQ,bo])⟩
theorem X9(t:an):(∃ ts:List yQ,t.length≤3000∧ts.length≤700∧(∀ x∈ts,Ll x)∧Ev fun k=>mK k t=some (ts,(0,0),())∧mB k t=some (ts,(0,0),()))∨
  ∃(c:Int) (a:Int),c≠0∧Ev fun k=>mK k t=some ([],(c,a),())∧mB k t=some ([],(c,a),()):=by
 by_cases hl:t.length≤3000
 ·have h0:¬ (t.length:Int) > 3000:=by omega
  obtain⟨r,g1,g2,g3⟩:=Pc hl 0 (by omega)
  rcases Ya hl _ r [] (Nat.le_refl _) g2 (by simp) (by simp) with ⟨o,o1,o2,o3⟩ |⟨c,a,o1,o3⟩
  ·refine .inl ⟨o,hl,o1,o2,(g3.and o3.jN).mono fun k e=>?_⟩
   have e1:oL k t 0=some ((r:Int),()):=e.1.1;have e2:nB k t 0=some ((r:Int),()):=e.1.2;simp only [go_sem,mK,mB,h0,e1,e2,e.2.1,e.2.2,and_self]
  ·refine .inr ⟨c,a,o1,(g3.and o3.jN).mono fun k e=>?_⟩
   have e1:oL k t 0=some ((r:Int),()):=e.1.1;have e2:nB k t 0=some ((r:Int),()):=e.1.2;simp only [go_sem,mK,mB,h0,e1,e2,e.2.1,e.2.2,and_self]
 ·have h0:(t.length:Int) > 3000:=by omega
  exact .inr ⟨1,0,by omega,Ev.of fun k=>by simp [mK,mB,h0]⟩
end Go.Fx.R5
namespace Go.Fx.R5
open Go Go.Fx
abbrev eq:=Int×Int×Int×an×XI
def aM(ts:List yQ)(a:Nat)(w:an):Bool:=match ts[a]? with | some x=>x.2.2.1 == w | none=>false
def tq(ts:List yQ)(a:Nat)(k:Int):Bool:=match ts[a]? with | some x=>x.1 == k | none=>false
def pl(ts:List yQ)(en:Int)(a:Nat):Int:=match ts[a]? with | some x=>x.2.1 | none=>en
def tk(ts:List yQ)(a:Nat):yQ:=(ts[a]?).getD (0,0,[],0)
def sg(ts:List yQ)(a:Nat):an:=bif tq ts a 4 then(tk ts a).2.2.1 else []
structure oU(ts:List yQ):Prop where
 len:ts.length≤700
 ok:∀ x∈ts,Ll x
def isW(w:an):Bool:=OE.contains w || wR.contains w
section
variable {ts:List yQ} {a:Nat} {w:an} {en:Int} {k:Int} {d:Nat} {ns:List eq} {c p:Int}
theorem bx(h:aM ts a w=true):a < ts.length:=by
 unfold aM at h;cases hx:ts[a]? with
 |none=>simp [hx] at h
 |some x=>exact(List.getElem?_eq_some_iff.1 hx).1
theorem jD(h:tq ts a k=true):a < ts.length:=by
 unfold tq at h;cases hx:ts[a]? with
 |none=>simp [hx] at h
 |some x=>exact(List.getElem?_eq_some_iff.1 hx).1
theorem iq(h:a < ts.length):ts[a]? = some (tk ts a):=by simp [tk,h]
theorem Pk(hs:oU ts)(h:a < ts.length):Ll (tk ts a):=hs.ok _ (List.mem_of_getElem? (iq h))
theorem I5(h:tq ts a k=true):(tk ts a).1=k:=by have:=jD h;simp only [tq,iq this,beq_iff_eq] at h;exact h
theorem Vn(h:aM ts a w=true):(tk ts a).2.2.1=w:=by have:=bx h;simp only [aM,iq this,beq_iff_eq] at h;exact h
theorem vB(h:¬ a < ts.length):ts[a]? = none:=by simp;omega
theorem SO(hs:oU ts)(hw:isW w=true)(hk:k=1∨k=2)(h:aM ts a w=true):tq ts a k=false:=by
 cases hi:tq ts a k with
 |false=>rfl
 |true=>
  have h1:=bx h;have h2:=(Pk hs h1).k;rw [I5 hi,Vn h] at h2;simp only [isW,Bool.or_eq_true] at hw;rcases h2 with ⟨e,f,g,_⟩ |⟨e,f,g⟩ |⟨e,_⟩ |⟨e,_⟩
  ·rw [f,g] at hw;simp at hw
  ·rw [f,g] at hw;simp at hw
  ·omega
  ·omega
theorem adQ(hs:oU ts)(hw:isW w=true)(hk:k=1∨k=2)(h:tq ts a k=true):aM ts a w=false:=by
 cases hi:aM ts a w with
 |false=>rfl
 |true=>rw [SO hs hw hk hi] at h;cases h
theorem aex(h:tq ts a 1=true):tq ts a 2=false:=by have h1:=jD h;have:=I5 h;simp only [tq,iq h1];rw [this];rfl
theorem aey(h:tq ts a 2=true):tq ts a 1=false:=by have h1:=jD h;have:=I5 h;simp only [tq,iq h1];rw [this];rfl
theorem aC{w':an}(h:aM ts a w=true)(hw:(w == w')=false):aM ts a w' = false:=by have h1:=bx h;have:=Vn h;simp only [aM,iq h1];rw [this];exact hw
theorem sk(hl:a≤4000000000000000000):eL ts (a:Int) 0 w=some (aM ts a w,()):=by
 have:dq ((a:Int) + 0)=(a:Int):=by rw [eM (by omega) (by omega)];simp
 simp only [eL,this,aa,Int.ofNat_lt];by_cases h:a < ts.length
 ·simp only [go_sem,h,bj (iq h),aM,iq h]
 ·simp only [go_sem,h,aM,vB h]
theorem yW(hl:a≤4000000000000000000):eL ts (a:Int) 1 w=some (aM ts (a + 1) w,()):=by
 have:dq ((a:Int) + 1)=((a + 1:Nat):Int):=af (by omega)
 simp only [eL,this,aa,Int.ofNat_lt];by_cases h:a + 1 < ts.length
 ·simp only [go_sem,h,bj (iq h),aM,iq h]
 ·simp only [go_sem,h,aM,vB h]
theorem aI(hl:a≤4000000000000000000):aG ts (a:Int) w=some (aM ts a w,((if aM ts a w=true then a + 1 else a:Nat):Int),()):=by
 simp only [go_sem,aG,sk hl,af (show a < _ by omega)]
 cases aM ts a w<;>simp
theorem am:dc ts en (a:Int)=some (pl ts en a,()):=by
 simp only [dc,Int.ofNat_lt];by_cases h:a < ts.length
 ·simp only [go_sem,h,bj (iq h),pl,iq h]
 ·simp only [go_sem,h,pl,vB h]
theorem oY:gN ts en (a:Int) c=some (c,pl ts en a,()):=by simp only [go_sem,gN,am]
theorem aR:il ts (a:Int) k=some (tq ts a k,()):=by
 simp only [il,aa,Int.ofNat_lt];by_cases h:a < ts.length
 ·simp only [go_sem,h,bj (iq h),tq,iq h]
 ·simp only [go_sem,h,tq,vB h]
theorem bN(hl:a≤4000000000000000000):de ts en (a:Int) k=some (if tq ts a k=true then .inl (tk ts a,((a + 1:Nat):Int),()) else .inr (6,pl ts en a,())):=by
 have e:dq (dq ((a:Int) + 1) - 1)=(a:Int):=by rw [eM (x:=(a:Int) + 1) (by omega) (by omega),eM (by omega) (by omega)];omega
 simp only [go_sem,de,aR,oY,e];simp only [af (show a < _ by omega)]
 cases h:tq ts a k with
 |true=>simp [bj (iq (jD h))]
 |false=>simp
theorem aL(hl:a≤4000000000000000000):a8 ts en (a:Int) w=some (if aM ts a w=true then .inl (((a + 1:Nat):Int),()) else .inr (6,pl ts en a,())):=by
 simp only [go_sem,a8,aI hl];cases h:aM ts a w with
 |true=>simp
 |false=>simp [oY]
theorem KK(h:ns.length≤4000000)(n:eq):lq ns [n]=some (ns ++ [n])∧dq (((ns ++ [n]).length:Int) - 1)=(ns.length:Int):=
 ⟨p6 (by simp;omega),by rw [List.length_append,List.length_singleton,eM (by omega) (by omega)];omega⟩
theorem hU(h:ns.length≤4000000)(n:eq):bC ns n=some ((ns.length:Int),ns ++ [n],()):=by simp only [go_sem,bC,(KK h n).1,(KK h n).2]
theorem fP(hl:a≤4000000000000000000)(h:ns.length≤4000000):eR ts en (a:Int) ns k =
  some (if tq ts a 1=true then .inl ((ns.length:Int),((a + 1:Nat):Int),ns ++ [(k,(tk ts a).2.1,0,(tk ts a).2.2.1,[])],()) else .inr (6,pl ts en a,())):=by
 simp only [go_sem,eR,bN hl];cases tq ts a 1 with
 |true=>simp [hU h]
 |false=>simp
theorem gG(hd:d≤10):fF ts en (a:Int) (d:Int)=some (if d < 10 then .inl (((d + 1:Nat):Int),()) else .inr (7,pl ts en a,())):=by
 simp only [go_sem,fF,af (show d < _ by omega),oY]
 by_cases h2:d < 10
 ·have:¬ ((d + 1:Nat):Int) > 10:=by omega
  simp only [go_sem,this,h2,if_true]
 ·have:((d + 1:Nat):Int) > 10:=by omega
  simp only [go_sem,this,h2,if_false]
theorem bZ(hs:oU ts)(hw:isW w=true):fw ts (a:Int) 0 w=some (aM ts a w,()):=by
 simp only [go_sem,fw,aa,Int.ofNat_lt];by_cases h:a < ts.length
 ·simp only [go_sem,h,bj (iq h),aM,iq h]
  cases hx:((tk ts a).2.2.1 == w) with
  |false=>rfl
  |true=>
   have h2:=(Pk hs h).k;rw [beq_iff_eq.1 hx] at h2;simp only [isW,Bool.or_eq_true] at hw;have:(tk ts a).1≥3:=by
    rcases h2 with ⟨e,f,g,_⟩ |⟨e,f,g⟩ |⟨e,_⟩ |⟨e,_⟩
    ·rw [f,g] at hw;simp at hw
    ·rw [f,g] at hw;simp at hw
    ·omega
    ·omega
   simp [this]
 ·simp only [go_sem,h,aM,vB h]
theorem ab(hs:oU ts)(hw:isW w=true)(hl:a≤4000000000000000000):bW ts (a:Int) 0 w=some (aM ts a w,((if aM ts a w=true then a + 1 else a:Nat):Int),()):=by
 simp only [go_sem,bW,bZ hs hw,af (show a < _ by omega)]
 cases aM ts a w<;>simp
theorem bh:da ts (a:Int) en=some (pl ts en a,()):=am
theorem aQ:iU ts (a:Int) 0 k=some (tq ts a k,()):=by
 simp only [go_sem,iU,aa,Int.ofNat_lt];by_cases h:a < ts.length
 ·simp only [go_sem,h,bj (iq h),tq,iq h]
 ·simp only [go_sem,h,tq,vB h]
theorem Jq:iT ts (a:Int) en 0 0 c=some (c,pl ts en a,()):=by simp only [go_sem,iT,bh]
theorem cW(hl:a≤4000000000000000000):dB ts (a:Int) en 0 0=some (if tq ts a 1=true then((tk ts a).2.2.1,((a + 1:Nat):Int),0,0,()) else([],(a:Int),6,pl ts en a,())):=by
 have e:dq (dq ((a:Int) + 1) - 1)=(a:Int):=by rw [eM (x:=(a:Int) + 1) (by omega) (by omega),eM (by omega) (by omega)];omega
 simp only [go_sem,dB,aQ,Jq,e];simp only [af (show a < _ by omega)]
 cases h:tq ts a 1 with
 |true=>simp [bj (iq (jD h))]
 |false=>simp
theorem oF(hl:a≤4000000000000000000):lK ts (a:Int) en 0 0=some (if tq ts a 2=true then((tk ts a).2.2.2,((a + 1:Nat):Int),0,0,()) else(0,(a:Int),6,pl ts en a,())):=by
 have e:dq (dq ((a:Int) + 1) - 1)=(a:Int):=by rw [eM (x:=(a:Int) + 1) (by omega) (by omega),eM (by omega) (by omega)];omega
 simp only [go_sem,lK,aQ,Jq,e];simp only [af (show a < _ by omega)]
 cases h:tq ts a 2 with
 |true=>simp [bj (iq (jD h))]
 |false=>simp
theorem ai(hs:oU ts)(hw:isW w=true)(hl:a≤4000000000000000000):aO ts (a:Int) en 0 0 w=some (if aM ts a w=true then(((a + 1:Nat):Int),0,0,()) else((a:Int),6,pl ts en a,())):=by
 simp only [go_sem,aO,ab hs hw hl];cases h:aM ts a w with
 |true=>simp
 |false=>simp [Jq]
theorem dQ(h:ns.length≤4000000)(n:eq):aW ns 0 n=some ((ns.length:Int),ns ++ [n],()):=by simp only [go_sem,aW,(KK h n).1,(KK h n).2]
theorem lB(hd:d≤10):iv ts (a:Int) en (d:Int) 0 0=some (if d < 10 then(true,((d + 1:Nat):Int),0,0,()) else(false,((d + 1:Nat):Int),7,pl ts en a,())):=by
 simp only [iv,aa,af (show d < _ by omega),Jq,Option.bind_some]
 by_cases h2:d < 10
 ·have:¬ ((d + 1:Nat):Int) > 10:=by omega
  simp only [this,decide_false,cond_false,h2,if_true];rfl
 ·have:((d + 1:Nat):Int) > 10:=by omega
  simp only [this,decide_true,cond_true,h2,if_false];rfl
theorem Gu:mm ts (a:Int) 0=some (sg ts a,()):=by
 simp only [go_sem,mm,aQ,sg];cases h:tq ts a 4 with
 |true=>simp [bj (iq (jD h))]
 |false=>simp
theorem JP(hl:a≤4000000000000000000)(h:ns.length≤4000000)(hk:tq ts a 1=true):nK ts (a:Int) en ns 0 0=some ((ns.length:Int),((a + 1:Nat):Int),ns ++ [(23,pl ts en a,0,(tk ts a).2.2.1,[])],0,0,()):=by simp only [go_sem,nK,bh,cW hl,hk,if_true,dQ h]
theorem DJ(hs:oU ts)(hw:wR.contains w=true)(hl:a≤4000000000000000000):uV ts (a:Int) w=some (aM ts (a + 1) w,()):=by
 simp only [uV,aa,af (show a < _ by omega),Int.ofNat_lt]
 by_cases h:a + 1 < ts.length
 ·simp only [go_sem,h,bj (iq h),aM,iq h]
  cases hx:((tk ts (a + 1)).2.2.1 == w) with
  |false=>rfl
  |true=>
   have h2:=(Pk hs h).k;rw [beq_iff_eq.1 hx] at h2;have:(tk ts (a + 1)).1=4:=by
    rcases h2 with ⟨e,f,g,_⟩ |⟨e,f,g⟩ |⟨e,_,g⟩ |⟨e,_⟩
    ·rw [g] at hw;cases hw
    ·rw [g] at hw;cases hw
    ·rw [g] at hw;cases hw
    ·exact e
   simp [this]
 ·simp only [go_sem,h,aM,vB h]
variable (hc:c≠0)
include hc
theorem lz:fw ts (a:Int) c w=some (false,()):=by simp [fw,aa,beq_eq_false_iff_ne.2 hc]
theorem dH:bW ts (a:Int) c w=some (false,(a:Int),()):=by simp [bW,lz hc]
theorem fk:iU ts (a:Int) c k=some (false,()):=by simp [iU,aa,beq_eq_false_iff_ne.2 hc]
theorem eU{c':Int}:iT ts (a:Int) en c p c' = some (c,p,()):=by simp [iT,beq_eq_false_iff_ne.2 hc]
theorem dU:dB ts (a:Int) en c p=some ([],(a:Int),c,p,()):=by simp [dB,fk hc,eU hc]
theorem xB:lK ts (a:Int) en c p=some (0,(a:Int),c,p,()):=by simp [lK,fk hc,eU hc]
theorem cN:aO ts (a:Int) en c p w=some ((a:Int),c,p,()):=by simp [aO,dH hc,eU hc]
theorem ce(n:eq):aW ns c n=some (0,ns,()):=by simp [aW,bne,beq_eq_false_iff_ne.2 hc]
theorem eI{d:Int}:iv ts (a:Int) en d c p=some (false,dq (d + 1),c,p,()):=by
 have:(c == 0)=false:=by simpa using hc
 simp only [go_sem,iv,aa,eU hc,this];cases decide (dq (d + 1) > 10)<;>rfl
theorem Xh:mm ts (a:Int) c=some ([],()):=by simp [mm,fk hc]
theorem jq:nK ts (a:Int) en ns c p=some (0,(a:Int),ns,c,p,()):=by simp [nK,bh,dU hc,ce hc]
end
end Go.Fx.R5
namespace Go.Fx.R5
open Go Go.Fx
def kd(ns:List eq)(j:Int):Int:=match ns[j.toNat]? with | some x=>x.1 | none=>0
def Aq(k:Int):Bool:=k == 24 || k == 25 || k == 26 || k == 27 || k == 28
def sW(k:Int):Bool:=k == 30 || k == 31 || k == 32 || k == 33 || k == 34
def NE(k:Int):Bool:=decide (9≤k) && decide (k≤22)
def vP(k:Int):Bool:=k == 5 || k == 6 || k == 7
def EM(k:Int):Bool:=k == 2 || k == 3 || k == 4
def b9(k:Int)(l:XI):Bool:=
 if k=24∨k=25∨k=27∨k=29∨k=23∨k=34∨k=17∨k=20∨k=2∨k=3∨k=5∨k=6∨k=7 then l.isEmpty
 else if k=26∨k=11∨k=13∨k=18∨k=21 then(match l with | [a]=>Aq a | _=>false)
 else if k=9 then(match l with | [a]=>Aq a || a == 29 | _=>false)
 else if k=28∨k=30∨k=10 then(match l with | [a,b]=>Aq a && Aq b | _=>false)
 else if k=12 then(match l with | [a,b]=>a == 23 && Aq b | _=>false)
 else if k=22 then(match l with | a :: r=>a == 23 && r.all Aq | _=>false)
 else if k=31∨k=32 then(match l with | [a,b]=>sW a && sW b | _=>false)
 else if k=33∨k=19 then(match l with | [a]=>sW a | _=>false)
 else if k=14 then(match l with | [a,b]=>sW a && b == 8 | [a,b,c]=>sW a && b == 8 && c == 8 | _=>false)
 else if k=15 then(match l with | [a,b]=>sW a && b == 8 | _=>false)
 else if k=16 then(match l with | [a,b,c]=>Aq a && Aq b && c == 8 | _=>false)
 else if k=8 then l.all NE
 else if k=4 then l.dropLast.all vP && l.getLast? == some 8
 else if k=1 then l.all EM
 else false
structure nO(ns:List eq)(i:Nat)(x:eq):Prop where
 cB:∀ j∈x.2.2.2.2,0≤j∧j < (i:Int)
 shp:b9 x.1 (x.2.2.2.2.map (kd ns))=true
 nm:(x.1=4→x.2.2.2.1≠[])∧x.2.2.2.2.length≤5000
def jl(ns:List eq):Prop:=∀ i x,ns[i]? = some x→nO ns i x
theorem qd{ns ep:List eq}(h:ns <+: ep){j:Int}(h0:0≤j)(h1:j < ns.length):kd ep j=kd ns j:=by
 obtain⟨r,rfl⟩:=h;have:j.toNat < ns.length:=by omega
 simp only [kd,List.getElem?_append_left this]
theorem qG{ns:List eq}{x:eq}:kd (ns ++ [x]) (ns.length:Int)=x.1:=by simp [kd]
theorem nO.up{ns ep:List eq}{i:Nat}{x:eq}(h:nO ns i x)(hp:ns <+: ep)(hi:i≤ns.length):nO ep i x:=by
 refine⟨h.cB,?_,h.nm⟩;rw [show x.2.2.2.2.map (kd ep)=x.2.2.2.2.map (kd ns) from List.map_congr_left fun j hj=>by
  have:=h.cB j hj;exact qd hp this.1 (by omega)]
 exact h.shp
theorem jl.add{ns:List eq}{x:eq}(h:jl ns)(hx:nO ns ns.length x):jl (ns ++ [x]):=by
 intro i y hy;by_cases hi:i < ns.length
 ·rw [List.getElem?_append_left hi] at hy
  exact(h i y hy).up ⟨[x],rfl⟩ (by omega)
 ·rw [List.getElem?_append_right (by omega)] at hy
  have:i - ns.length=0:=by have:=(List.getElem?_eq_some_iff.1 hy).1;simp at this;omega
  rw [this] at hy;simp only [List.getElem?_cons_zero,Option.some.injEq] at hy;subst hy;have hi:i=ns.length:=by omega
  subst hi;exact hx.up ⟨[x],rfl⟩ (by omega)
theorem jl.nil:jl []:=fun i x h=>by simp at h
def wts(ns:List eq):List Nat:=ns.foldl (fun ws x=>ws ++ [1 + (x.2.2.2.2.map fun j=>ws.getD j.toNat 0).sum]) []
def wt(ns:List eq)(j:Int):Nat:=(wts ns).getD j.toNat 0
def jA(ns:List eq)(l:XI):Nat:=(l.map (wt ns)).sum
theorem QS(ns:List eq)(x:eq):wts (ns ++ [x])=wts ns ++ [1 + jA ns x.2.2.2.2]:=by simp only [wts,List.foldl_append,List.foldl_cons,List.foldl_nil];rfl
theorem QT(ns:List eq):(wts ns).length=ns.length:=by
 have key:∀(n:Nat) (ns:List eq),ns.length=n→(wts ns).length=ns.length:=by
  intro n;induction n with
  |zero=>intro ns h;rw [List.length_eq_zero_iff.1 h];rfl
  |succ n ih=>
   intro ns h;have gY:ns≠[]:=by intro e;rw [e] at h;cases h
   have e:=List.dropLast_concat_getLast gY;rw [←e,QS,List.length_append,List.length_append,ih ns.dropLast (by simp;omega)];rfl
 exact key _ ns rfl
theorem aaB{ns ep:List eq}(h:ns <+: ep):wts ns <+: wts ep:=by
 obtain⟨r,rfl⟩:=h;induction r generalizing ns with
 |nil=>simp
 |cons x r ih=>have:=ih (ns:=ns ++ [x]);rw [QS,List.append_assoc] at this;exact(List.prefix_append _ _).trans this
theorem ri{ns ep:List eq}(h:ns <+: ep){j:Int}(h0:0≤j)(h1:j < ns.length):wt ep j=wt ns j:=by
 obtain⟨r,e⟩:=aaB h;have:j.toNat < (wts ns).length:=by rw [QT];omega
 simp only [wt,←e,List.getD_eq_getElem?_getD,List.getElem?_append_left this]
theorem nN{ns:List eq}{x:eq}:wt (ns ++ [x]) (ns.length:Int)=1 + jA ns x.2.2.2.2:=by simp only [wt,QS,Int.toNat_natCast,List.getD_eq_getElem?_getD];rw [List.getElem?_append_right (by rw [QT];omega),QT];simp
theorem yZ(ns:List eq):jA ns []=0:=rfl
theorem oJ(ns:List eq)(a:Int):jA ns [a]=wt ns a:=by simp [jA]
theorem xH(ns:List eq)(a b:Int):jA ns [a,b]=wt ns a + wt ns b:=by simp [jA]
theorem OD(ns:List eq)(a b c:Int):jA ns [a,b,c]=wt ns a + (wt ns b + wt ns c):=by simp [jA]
theorem qe(ns:List eq)(l m:XI):jA ns (l ++ m)=jA ns l + jA ns m:=by simp [jA]
theorem pz{ns ep:List eq}(h:ns <+: ep){l:XI}(hl:∀ j∈l,0≤j∧j < (ns.length:Int)):jA ep l=jA ns l:=by simp only [jA];rw [List.map_congr_left fun j hj=>ri h (hl j hj).1 (hl j hj).2]
inductive Res | ok (v:Int) (a d:Nat) (ns:List eq) | er (c p:Int)
structure xi(ts:List yQ)(C:Int→Bool)(s a d:Nat)(ns:List eq)(v:Int)(a' d':Nat)(ep:List eq)(w0:Nat:=0):Prop where
 lo:a + s≤a'
 hi:a'≤ts.length
 dp:d' = d
 ln:ep.length + 2 * a≤ns.length + 2 * a'
 pre:ns <+: ep
 all:jl ep
 v0:0≤v
 vl:v < ep.length
 vc:C (kd ep v)=true
 w:wt ep v + ns.length≤ep.length + w0
def Inv(ts:List yQ)(C:Int→Bool)(s a d:Nat)(ns:List eq)(r:Res)(w0:Nat:=0):Prop:=match r with
 |.ok v a' d' ep=>xi ts C s a d ns v a' d' ep w0
 |.er c _=>c≠0
structure xj(ts:List yQ)(a d:Nat)(ns:List eq):Prop where
 hi:a≤ts.length
 dp:d≤10
 ln:ns.length≤2 * a
 all:jl ns
theorem kB{ts:List yQ}{C:Int→Bool}{s a d a':Nat}{ns pZ:List eq}{x:eq}(lo:a + s≤a')(hi:a'≤ts.length)(ln:pZ.length + 1 + 2 * a≤ns.length + 2 * a')(pre:ns <+: pZ)(all:jl pZ)
  (hx:nO pZ pZ.length x) (hC:C x.1=true) (hw:jA pZ x.2.2.2.2 + ns.length≤pZ.length):xi ts C s a d ns (pZ.length:Int) a' d (pZ ++ [x]):=
 ⟨lo,hi,rfl,by simp;omega,pre.trans ⟨[x],rfl⟩,all.add hx,by omega,by simp;omega,by rw [qG];exact hC,by rw [nN];simp;omega⟩
theorem rZ{ns:List eq}{i:Nat}{k a n:Int}{s:an}(hk:b9 k []=true)(h4:k≠4):nO ns i (k,a,n,s,[]):=⟨by simp,hk,fun h=>absurd h h4,by simp⟩
abbrev IT:=Option ((Int×Int×Int×List eq×Unit)⊕(Int×Int×Unit))
abbrev ST:=Option (Int×Int×List eq×Int×Int×Int×Unit)
def tY(r:Res)(o:IT):Prop:=match r with
 |.ok v a d ns=>o=some (.inl (v,(a:Int),(d:Int),ns,()))
 |.er c p=>o=some (.inr (c,p,()))
def KY(r:Res)(o:ST):Prop:=match r with
 |.ok v a d ns=>o=some (v,(a:Int),ns,(d:Int),0,0,())
 |.er c p=>∃(v:Int) (a:Nat) (ns:List eq) (d:Int),o=some (v,(a:Int),ns,d,c,p,())
def QZ(ts:List yQ)(C:Int→Bool)(s a d:Nat)(ns:List eq)(i:Nat→IT)(sp:Nat→ST):Prop:=
 ∃ r,Inv ts C s a d ns r∧Ev fun k=>tY r (i k)∧KY r (sp k)
def fnd(s:an):XS→Int→Int
 |[],_=>0
 |x :: r,i=>if x=s then i else fnd s r (i + 1)
def MB(s:an):Int:=fnd s Nx.tail 1
def Hi(s:an):Int:=fnd s gl4.tail 1
def lvF(o:Int):Int:=if o=7 then 1 else if o=8 then 2 else if o=6 then 3 else if o=9∨o=10 then 4 else if o=1∨o=2∨o=11∨o=12 then 5 else 6
theorem PQ(s:an):∀(l:XS) (i:Int),1≤i→(fnd s l i=0∧s∉l)∨(i≤fnd s l i∧s∈l)
 |[],i,h=>.inl ⟨rfl,by simp⟩
 |x :: r,i,h=>by
  simp only [fnd];by_cases hx:x=s
  ·exact .inr (by simp [hx])
  ·rcases PQ s r (i + 1) (by omega) with ⟨e,f⟩ |⟨e,f⟩
   ·exact .inl (by simp [hx,e,f,Ne.symm hx])
   ·exact .inr (by simp [hx,f];omega)
def fX(n:Int):Unit⊕(Int×Unit):=if n=0 then .inl () else .inr (n,())
theorem OR(s:an):∀ m i:Nat,m + i=14→1≤i→co fun q k=>mb q k s Nx (i:Int)=some (fX (fnd s (Nx.drop i) i))
 |0,i,h,h1=>by
  have e:Nx.drop i = []:=by rw [show i=14 by omega];rfl
  have h2:¬ (i:Int) < 14:=by omega
  rw [e];exact co.succ (co.of fun q k=>by simp [mb,h2,fX,fnd])
 |m + 1,i,h,h1=>by
  have bo:i < Nx.length:=by show i < 14;omega
  have h2:(i:Int) < 14:=by omega
  have h3:(i:Int) > 0:=by omega
  have e:Nx.drop i=Nx[i] :: Nx.drop (i + 1):=List.drop_eq_getElem_cons bo;rw [e];refine co.succ ((OR s m (i + 1) (by omega) (by omega)).mono fun q k e=>?_)
  simp only [go_sem,mb,aa,h2,h3,cQ bo,af (show i < _ by omega),e,fnd]
  by_cases hx:Nx[i]=s
  ·have:¬ (i:Int)=0:=by omega
   simp [hx,fX,show i≠0 by omega]
  ·simp only [go_sem,beq_eq_false_iff_ne.2 hx,if_neg hx];rfl
theorem aca(s:an):Ev fun k=>D5 k s=some (MB s,()):=by
 refine(co.succ (p2:=fun q k=>mb q k s Nx 0=some (fX (MB s))) ((OR s 13 1 rfl (by omega)).mono fun q k e=>?_)).jN.mono fun k e=>?_
 ·have:mb q k s Nx (dq (0 + 1))=some (fX (MB s)):=e
  simp only [go_sem,mb,aa,show(0:Int) < 14 by omega,show ¬ (0:Int) > 0 by omega,this];rfl
 ·simp only [go_sem,D5,e,fX]
  by_cases h:MB s=0<;>simp [h]
theorem LG(s:an):∀ m i:Nat,m + i=7→1≤i→co fun q k=>kI q k s gl4 (i:Int)=some (fX (fnd s (gl4.drop i) i))
 |0,i,h,h1=>by
  have e:gl4.drop i = []:=by rw [show i=7 by omega];rfl
  have h2:¬ (i:Int) < 7:=by omega
  rw [e];exact co.succ (co.of fun q k=>by simp [kI,h2,fX,fnd])
 |m + 1,i,h,h1=>by
  have bo:i < gl4.length:=by show i < 7;omega
  have h2:(i:Int) < 7:=by omega
  have h3:(i:Int) > 0:=by omega
  have e:gl4.drop i=gl4[i] :: gl4.drop (i + 1):=List.drop_eq_getElem_cons bo;rw [e];refine co.succ ((LG s m (i + 1) (by omega) (by omega)).mono fun q k e=>?_)
  simp only [go_sem,kI,aa,h2,h3,cQ bo,af (show i < _ by omega),e,fnd]
  by_cases hx:gl4[i]=s
  ·simp [hx,fX,show i≠0 by omega]
  ·simp only [go_sem,beq_eq_false_iff_ne.2 hx,if_neg hx];rfl
theorem XV(s:an):Ev fun k=>Bo k s=some (Hi s,()):=by
 refine(co.succ (p2:=fun q k=>kI q k s gl4 0=some (fX (Hi s))) ((LG s 6 1 rfl (by omega)).mono fun q k e=>?_)).jN.mono fun k e=>?_
 ·have:kI q k s gl4 (dq (0 + 1))=some (fX (Hi s)):=e
  simp only [go_sem,kI,aa,show(0:Int) < 7 by omega,show ¬ (0:Int) > 0 by omega,this];rfl
 ·simp only [go_sem,Bo,e,fX]
  by_cases h:Hi s=0<;>simp [h]
theorem ab8(o:Int):wD o=some (lvF o,()):=by
 by_cases h7:o=7
 ·subst h7;rfl
 by_cases h8:o=8
 ·subst h8;rfl
 by_cases h6:o=6
 ·subst h6;rfl
 by_cases h9:o=9
 ·subst h9;rfl
 by_cases h10:o=10
 ·subst h10;rfl
 by_cases h1:o=1
 ·subst h1;rfl
 by_cases h2:o=2
 ·subst h2;rfl
 by_cases h11:o=11
 ·subst h11;rfl
 by_cases JE:o=12
 ·subst JE;rfl
 simp [wD,aa,lvF,Bool.cond_eq_ite,h7,h8,h6,h9,h10,h1,h2,h11,JE]
theorem SL(s:an):BE s=some (Hi s,()):=by
 simp only [BE,Hi,gl4,List.tail,fnd,eq_comm (b:=s),beq_iff_eq,Bool.cond_eq_ite]
 repeat' split
 all_goals first | rfl | simp_all
theorem aal(s:an)(n:Nat)(h1:1≤n)(h6:n≤6):uK s (n:Int)=some (if MB s≠0∧lvF (MB s)=n then MB s else 0,()):=by
 by_cases hm:s∈Nx.tail
 ·have:∀ s∈Nx.tail,∀ n:Nat,n < 7→1≤n→uK s (n:Int)=some (if MB s≠0∧lvF (MB s)=n then MB s else 0,()):=by decide +kernel
  exact this s hm n (by omega) h1
 ·have h0:MB s=0:=by
   rcases PQ s Nx.tail 1 (by omega) with ⟨e,_⟩ |⟨_,f⟩
   ·exact e
   ·exact absurd f hm
  simp only [Nx,List.tail,List.mem_cons,List.not_mem_nil,or_false,not_or] at hm;have g:∀ w:an,¬ s=w→(s == w)=false:=fun w h=>beq_eq_false_iff_ne.2 h;simp only [go_sem,uK,aa,g _ hm.1,g _ hm.2.1,g _ hm.2.2.1,g _ hm.2.2.2.1,g _ hm.2.2.2.2.1,g _ hm.2.2.2.2.2.1,g _ hm.2.2.2.2.2.2.1,g _ hm.2.2.2.2.2.2.2.1,g _ hm.2.2.2.2.2.2.2.2.1,g _ hm.2.2.2.2.2.2.2.2.2.1,g _ hm.2.2.2.2.2.2.2.2.2.2.1,g _ hm.2.2.2.2.2.2.2.2.2.2.2.1,g _ hm.2.2.2.2.2.2.2.2.2.2.2.2];simp [h0]
theorem adZ:∀ s∈Nx.tail,wR.contains s=true:=by decide +kernel
theorem abC:∀ s∈gl4.tail,wR.contains s=true:=by decide +kernel
section
variable {ts:List yQ} {a:Nat}
theorem U4(hs:oU ts)(h:a < ts.length):MB (tk ts a).2.2.1=MB (sg ts a):=by
 simp only [sg];cases hk:tq ts a 4 with
 |true=>rfl
 |false=>
  show _=MB [];rcases PQ (tk ts a).2.2.1 Nx.tail 1 (by omega) with ⟨e,_⟩ |⟨_,f⟩
  ·exact e
  ·have h2:=(Pk hs h).k
   have h3:=adZ _ f;simp only [tq,iq h] at hk;rcases h2 with ⟨e,_,g,_⟩ |⟨e,_,g⟩ |⟨e,_,g⟩ |⟨e,_⟩
   ·rw [g] at h3;cases h3
   ·rw [g] at h3;cases h3
   ·rw [g] at h3;cases h3
   ·rw [e] at hk;simp at hk
theorem Tq(hs:oU ts)(h:a < ts.length):Hi (tk ts a).2.2.1=Hi (sg ts a):=by
 simp only [sg];cases hk:tq ts a 4 with
 |true=>rfl
 |false=>
  show _=Hi [];rcases PQ (tk ts a).2.2.1 gl4.tail 1 (by omega) with ⟨e,_⟩ |⟨_,f⟩
  ·exact e
  ·have h2:=(Pk hs h).k
   have h3:=abC _ f;simp only [tq,iq h] at hk;rcases h2 with ⟨e,_,g,_⟩ |⟨e,_,g⟩ |⟨e,_,g⟩ |⟨e,_⟩
   ·rw [g] at h3;cases h3
   ·rw [g] at h3;cases h3
   ·rw [g] at h3;cases h3
   ·rw [e] at hk;simp at hk
theorem T8(h:¬ a < ts.length):sg ts a = []:=by simp [sg,tq,vB h]
end
end Go.Fx.R5
namespace Go.Fx.R5
open Go Go.Fx
section
theorem Bz(k:Nat):ao (k + 1)=gO (ao k) (ip k) (gP k) k:=rfl
theorem Ej(k:Nat):ip (k + 1)=iB (ao k) (ip k) (gP k) k:=rfl
theorem pU(k:Nat):gP (k + 1)=cz (ao k) (ip k) (gP k) k:=rfl
theorem HD(k:Nat):aj (k + 1)=im (aj k) (fv k) (fR k) k:=rfl
theorem HG(k:Nat):fv (k + 1)=gV (aj k) (fv k) (fR k) k:=rfl
theorem qF(k:Nat):fR (k + 1)=bQ (aj k) (fv k) (fR k) k:=rfl
variable {ts:List yQ} {en:Int} {c p:Int}
theorem fp(hc:c≠0)(k a:Nat)(ns:List eq)(d:Int):gP (k + 1) ts (a:Int) en ns d c p=some (0,(a:Int),ns,d,c,p,()):=by rw [pU];simp only [go_sem,cz,bh,fk hc,dH hc,dU hc,ce hc]
theorem fu(hc:c≠0)(k a:Nat)(ns:List eq)(d:Int):ip (k + 2) ts (a:Int) en ns d c p=some (0,(a:Int),ns,d,c,p,()):=by rw [Ej];simp only [go_sem,iB,bh,dH hc,fp hc]
theorem fl(hc:c≠0):∀(j k n a:Nat) (ns:List eq) (d:Int),n + j=7→ao (k + 3 + j) ts (a:Int) en ns d c p (n:Int)=some (0,(a:Int),ns,d,c,p,())
 |0,k,n,a,ns,d,h=>by
  have:(n:Int) > 6:=by omega
  show ao (k + 2 + 1) ts (a:Int) en ns d c p (n:Int)=_;rw [Bz];simp only [go_sem,gO,this,fu hc]
 |j + 1,k,n,a,ns,d,h=>by
  have:¬ (n:Int) > 6:=by omega
  have hz:(c == 0)=false:=beq_eq_false_iff_ne.2 hc;show ao (k + 3 + j + 1) ts (a:Int) en ns d c p (n:Int)=_;rw [Bz];simp only [go_sem,gO,this,af (show n < _ by omega),fl hc j k (n + 1) a ns d (by omega)]
  rw [show k + 3 + j=k + 2 + j + 1 by omega]
  simp only [go_sem,fy,aa,hz]
theorem fl1(hc:c≠0):Ev fun k=>∀(a:Nat) (ns:List eq) (d:Int),ao k ts (a:Int) en ns d c p 1=some (0,(a:Int),ns,d,c,p,()):=
 ⟨9,fun k hk a ns d=>by rw [show k=k - 9 + 3 + 6 by omega];exact fl hc 6 (k - 9) 1 a ns d rfl⟩
variable {a d:Nat} {ns:List eq}
abbrev Jw(ts:List yQ)(en:Int)(a d:Nat)(ns:List eq)(n:Nat):Prop:=QZ ts Aq 1 a d ns (fun k=>aj k ts en (a:Int) (d:Int) ns (n:Int)) (fun k=>ao k ts (a:Int) en ns (d:Int) 0 0 (n:Int))
abbrev UnB(ts:List yQ)(en:Int)(a d:Nat)(ns:List eq):Prop:=QZ ts Aq 1 a d ns (fun k=>fv k ts en (a:Int) (d:Int) ns) (fun k=>ip k ts (a:Int) en ns (d:Int) 0 0)
abbrev PrB(ts:List yQ)(en:Int)(a d:Nat)(ns:List eq):Prop:=QZ ts Aq 1 a d ns (fun k=>fR k ts en (a:Int) (d:Int) ns) (fun k=>gP k ts (a:Int) en ns (d:Int) 0 0)
theorem km{d:Nat}(h:d≤4000000000000000000):dq (((d + 1:Nat):Int) - 1)=(d:Int):=by rw [eM (by omega) (by omega)];omega
theorem OV(hs:oU ts)(hp:xj ts a d ns)(IH:∀ a' d' ep,a < a'→xj ts a' d' ep→Jw ts en a' d' ep 1):PrB ts en a d ns:=by
 have h7:=hs.len;obtain⟨p1,p2,p3,p4⟩:=hp;have b0:a≤4000000000000000000:=by omega
 have b1:a + 1≤4000000000000000000:=by omega
 have b2:a + 1 + 1≤4000000000000000000:=by omega
 have bn:ns.length≤4000000:=by omega
 cases uy:tq ts a 2 with
 |true=>
  have bo:=jD uy;refine⟨.ok _ (a + 1) d (ns ++ [(24,pl ts en a,(tk ts a).2.2.2,[],[])]),kB (by omega) (by omega) (by omega) (List.prefix_refl _) p4 (rZ rfl (by decide)) rfl (by simp [jA]),Ev.succ (Ev.of fun k=>⟨?_,?_⟩)⟩
  ·simp only [go_sem,tY,qF,bQ,am,aR,reduceIte,bN b0,hU bn,uy]
  ·simp only [go_sem,KY,pU,cz,bh,aQ,reduceIte,oF b0,dQ bn,uy]
 |false=>
 cases wC:aM ts a [42] with
 |true=>
  have bo:=bx wC;have Ik:aM ts a [40]=false:=aC wC rfl;cases hn:tq ts (a + 1) 1 with
  |true=>
   have bo:=jD hn;refine⟨.ok _ (a + 1 + 1) d (ns ++ [(27,pl ts en a,0,(tk ts (a + 1)).2.2.1,[])]),kB (by omega) (by omega) (by omega) (List.prefix_refl _) p4 (rZ rfl (by decide)) rfl (by simp [jA]),Ev.succ (Ev.of fun k=>⟨?_,?_⟩)⟩
   ·simp only [go_sem,tY,qF,bQ,am,aR,reduceIte,bN b1,aI b0,hU bn,uy,wC,hn]
   ·simp only [go_sem,KY,pU,cz,bh,aQ,reduceIte,ab hs (w:=[40]) rfl b0,ab hs (w:=[42]) rfl b0,cW b1,dQ bn,uy,wC,Ik,hn]
  |false=>
   refine⟨.er 6 (pl ts en (a + 1)),(show(6:Int)≠0 by decide),Ev.succ (Ev.of fun k=>⟨?_,0,a + 1,ns,d,?_⟩)⟩
   ·simp only [go_sem,tY,qF,bQ,am,aR,reduceIte,bN b1,aI b0,hU bn,uy,wC,hn]
   ·simp only [go_sem,pU,cz,bh,aQ,reduceIte,ab hs (w:=[40]) rfl b0,ab hs (w:=[42]) rfl b0,cW b1,ce (show(6:Int)≠0 by decide),uy,wC,Ik,hn]
 |false=>
 cases Ik:aM ts a [40] with
 |true=>
  have bo:=bx Ik;by_cases hd:d < 10
  ·obtain⟨r,hi,hr⟩:=IH (a + 1) (d + 1) ns (by omega) ⟨by omega,by omega,by omega,p4⟩
   cases r with
   |er c p=>
    refine⟨.er c p,hi,Ev.succ (hr.mono fun k e=>?_)⟩;obtain⟨e1,v,a',ep,d',e2⟩:=e;refine⟨?_,0 + v,a',ep,dq (d' - 1),?_⟩
    ·simp only [go_sem,tY,qF,bQ,am,aR,reduceIte,aI b0,gG p2,uy,wC,Ik,hd,show aj k ts en ((a + 1:Nat):Int) ((d + 1:Nat):Int) ns 1=_ from e1]
    ·simp only [go_sem,pU,cz,bh,aQ,reduceIte,ab hs (w:=[40]) rfl b0,lB p2,uy,Ik,hd,show ao k ts ((a + 1:Nat):Int) en ns ((d + 1:Nat):Int) 0 0 1=_ from e2,cN (show c≠0 from hi),Int.zero_add]
   |ok v a' d' ep=>
    obtain⟨q1,q2,rfl,q3,q4,q5,q6,q7,q8,q9⟩:=hi;have b4:a'≤4000000000000000000:=by omega
    cases ma:aM ts a' [41] with
    |true=>
     have Gc:=bx ma;refine⟨.ok v (a' + 1) d ep,⟨by omega,by omega,rfl,by omega,q4,q5,q6,q7,q8,q9⟩,Ev.succ (hr.mono fun k e=>⟨?_,?_⟩)⟩
     ·simp only [go_sem,tY,qF,bQ,am,aR,reduceIte,aI b0,aL b4,gG p2,uy,wC,Ik,hd,ma,show aj k ts en ((a + 1:Nat):Int) ((d + 1:Nat):Int) ns 1=_ from e.1,km (show d≤_ by omega)]
     ·simp only [go_sem,KY,pU,cz,bh,aQ,reduceIte,ab hs (w:=[40]) rfl b0,lB p2,ai hs (w:=[41]) rfl b4,uy,Ik,hd,ma,show ao k ts ((a + 1:Nat):Int) en ns ((d + 1:Nat):Int) 0 0 1=_ from e.2,km (show d≤_ by omega)]
    |false=>
     refine⟨.er 6 (pl ts en a'),(show(6:Int)≠0 by decide),Ev.succ (hr.mono fun k e=>⟨?_,v,a',ep,d,?_⟩)⟩
     ·simp only [go_sem,tY,qF,bQ,am,aR,reduceIte,aI b0,aL b4,gG p2,uy,wC,Ik,hd,ma,show aj k ts en ((a + 1:Nat):Int) ((d + 1:Nat):Int) ns 1=_ from e.1]
     ·simp only [go_sem,pU,cz,bh,aQ,reduceIte,ab hs (w:=[40]) rfl b0,lB p2,ai hs (w:=[41]) rfl b4,uy,Ik,hd,ma,show ao k ts ((a + 1:Nat):Int) en ns ((d + 1:Nat):Int) 0 0 1=_ from e.2,km (show d≤_ by omega)]
  ·refine⟨.er 7 (pl ts en (a + 1)),(show(7:Int)≠0 by decide),Ev.succ (Ev.of fun k=>⟨?_,0,a + 1,ns,((d + 1:Nat):Int),?_⟩)⟩
   ·simp only [go_sem,tY,qF,bQ,am,aR,reduceIte,aI b0,gG p2,uy,wC,Ik,hd]
   ·simp only [go_sem,pU,cz,bh,aQ,reduceIte,ab hs (w:=[40]) rfl b0,lB p2,uy,Ik,hd]
 |false=>
 cases hn:tq ts a 1 with
 |false=>
  refine⟨.er 6 (pl ts en a),(show(6:Int)≠0 by decide),Ev.succ (Ev.of fun k=>⟨?_,0,a,ns,d,?_⟩)⟩
  ·simp only [go_sem,tY,qF,bQ,am,aR,reduceIte,bN b0,aI b0,uy,wC,Ik,hn]
  ·simp only [go_sem,pU,cz,bh,aQ,reduceIte,ab hs (w:=[40]) rfl b0,ab hs (w:=[42]) rfl b0,cW b0,dH (show(6:Int)≠0 by decide),ce (show(6:Int)≠0 by decide),uy,wC,Ik,hn]
 |true=>
 have bo:=jD hn;cases pY:aM ts (a + 1) [91] with
 |false=>
  refine⟨.ok _ (a + 1) d (ns ++ [(25,pl ts en a,0,(tk ts a).2.2.1,[])]),kB (by omega) (by omega) (by omega) (List.prefix_refl _) p4 (rZ rfl (by decide)) rfl (by simp [jA]),Ev.succ (Ev.of fun k=>⟨?_,?_⟩)⟩
  ·simp only [go_sem,tY,qF,bQ,am,aR,reduceIte,bN b0,aI b0,aI b1,hU bn,uy,wC,Ik,hn,pY]
  ·simp only [go_sem,KY,pU,cz,bh,aQ,reduceIte,ab hs (w:=[40]) rfl b0,ab hs (w:=[42]) rfl b0,ab hs (w:=[91]) rfl b1,cW b0,dQ bn,uy,wC,Ik,hn,pY]
 |true=>
 have L7:=bx pY;by_cases hd:d < 10
 ·obtain⟨r,hi,hr⟩:=IH (a + 1 + 1) (d + 1) ns (by omega) ⟨by omega,by omega,by omega,p4⟩
  cases r with
  |er c p=>
   refine⟨.er c p,hi,Ev.succ (hr.mono fun k e=>?_)⟩;obtain⟨e1,v,a',ep,d',e2⟩:=e;refine⟨?_,0,a',ep,dq (d' - 1),?_⟩
   ·simp only [go_sem,tY,qF,bQ,am,aR,reduceIte,bN b0,aI b0,aI b1,gG p2,uy,wC,Ik,hn,pY,hd,show aj k ts en ((a + 1 + 1:Nat):Int) ((d + 1:Nat):Int) ns 1=_ from e1]
   ·simp only [go_sem,pU,cz,bh,aQ,reduceIte,ab hs (w:=[40]) rfl b0,ab hs (w:=[42]) rfl b0,ab hs (w:=[91]) rfl b1,cW b0,lB p2,uy,wC,Ik,hn,pY,hd,show ao k ts ((a + 1 + 1:Nat):Int) en ns ((d + 1:Nat):Int) 0 0 1=_ from e2,cN (show c≠0 from hi),ce (show c≠0 from hi)]
  |ok v a' d' ep=>
   obtain⟨q1,q2,rfl,q3,q4,q5,q6,q7,q8,q9⟩:=hi;have b4:a'≤4000000000000000000:=by omega
   have Lq:ep.length≤4000000:=by omega
   cases ma:aM ts a' [93] with
   |true=>
    have Gc:=bx ma;refine⟨.ok _ (a' + 1) d (ep ++ [(26,pl ts en a,0,(tk ts a).2.2.1,[v])]),kB (by omega) (by omega) (by omega) q4 q5 ⟨by simp;omega,by simpa [b9] using q8,by simp⟩ rfl (by rw [oJ];exact q9),Ev.succ (hr.mono fun k e=>⟨?_,?_⟩)⟩
    ·simp only [go_sem,tY,qF,bQ,am,aR,reduceIte,bN b0,aI b0,aI b1,aL b4,hU Lq,gG p2,uy,wC,Ik,hn,pY,hd,ma,show aj k ts en ((a + 1 + 1:Nat):Int) ((d + 1:Nat):Int) ns 1=_ from e.1,km (show d≤_ by omega)]
    ·simp only [go_sem,KY,pU,cz,bh,aQ,reduceIte,ab hs (w:=[40]) rfl b0,ab hs (w:=[42]) rfl b0,ab hs (w:=[91]) rfl b1,cW b0,lB p2,ai hs (w:=[93]) rfl b4,dQ Lq,uy,wC,Ik,hn,pY,hd,ma,show ao k ts ((a + 1 + 1:Nat):Int) en ns ((d + 1:Nat):Int) 0 0 1=_ from e.2,km (show d≤_ by omega)]
   |false=>
    refine⟨.er 6 (pl ts en a'),(show(6:Int)≠0 by decide),Ev.succ (hr.mono fun k e=>⟨?_,0,a',ep,d,?_⟩)⟩
    ·simp only [go_sem,tY,qF,bQ,am,aR,reduceIte,bN b0,aI b0,aI b1,aL b4,gG p2,uy,wC,Ik,hn,pY,hd,ma,show aj k ts en ((a + 1 + 1:Nat):Int) ((d + 1:Nat):Int) ns 1=_ from e.1]
    ·simp only [go_sem,pU,cz,bh,aQ,reduceIte,ab hs (w:=[40]) rfl b0,ab hs (w:=[42]) rfl b0,ab hs (w:=[91]) rfl b1,cW b0,lB p2,ai hs (w:=[93]) rfl b4,ce (show(6:Int)≠0 by decide),uy,wC,Ik,hn,pY,hd,ma,show ao k ts ((a + 1 + 1:Nat):Int) en ns ((d + 1:Nat):Int) 0 0 1=_ from e.2,km (show d≤_ by omega)]
 ·refine⟨.er 7 (pl ts en (a + 1 + 1)),(show(7:Int)≠0 by decide),Ev.succ (Ev.of fun k=>⟨?_,0,a + 1 + 1,ns,((d + 1:Nat):Int),?_⟩)⟩
  ·simp only [go_sem,tY,qF,bQ,am,aR,reduceIte,bN b0,aI b0,aI b1,gG p2,uy,wC,Ik,hn,pY,hd]
  ·simp only [go_sem,pU,cz,bh,aQ,reduceIte,ab hs (w:=[40]) rfl b0,ab hs (w:=[42]) rfl b0,ab hs (w:=[91]) rfl b1,cW b0,lB p2,uy,wC,Ik,hn,pY,hd]
end
theorem xi.from{ts:List yQ}{C:Int→Bool}{s s0 a d a1:Nat}{ns pZ:List eq}{v:Int}{a' d':Nat}{ep:List eq}{w0 w1:Nat}(h:xi ts C s a1 d pZ v a' d' ep w1)(lo:a + s0≤a1 + s)(ln:pZ.length + 2 * a≤ns.length + 2 * a1)
  (pre:ns <+: pZ) (hw:w1 + ns.length≤pZ.length + w0):xi ts C s0 a d ns v a' d' ep w0:=
 let⟨h1,h2,h3,h4,h5,h6,h7,h8,h9,h10⟩:=h;⟨by omega,h2,h3,by omega,pre.trans h5,h6,h7,h8,h9,by omega⟩
theorem Inv.from{ts:List yQ}{C:Int→Bool}{s s0 a d a1:Nat}{ns pZ:List eq}{r:Res}{w0 w1:Nat}(h:Inv ts C s a1 d pZ r w1)(lo:a + s0≤a1 + s)(ln:pZ.length + 2 * a≤ns.length + 2 * a1)(pre:ns <+: pZ)(hw:w1 + ns.length≤pZ.length + w0):Inv ts C s0 a d ns r w0:=by
 cases r with
 |er c p=>exact h
 |ok v a' d' ep=>exact xi.from h lo ln pre hw
def HE(r:Res)(o:Option ((Int×Int×List eq×Int×Unit)⊕(Int×Int×Unit))):Prop:=match r with
 |.ok v a d ns=>o=some (.inl ((a:Int),(d:Int),ns,v,()))
 |.er c p=>o=some (.inr (c,p,()))
def Qc(r:Res)(o:Option (Int×List eq×Int×Int×Int×Int×Unit)):Prop:=match r with
 |.ok v a d ns=>o=some ((a:Int),ns,(d:Int),0,0,v,())
 |.er c p=>∃(v:Int) (a:Nat) (ns:List eq) (d:Int),o=some ((a:Int),ns,d,c,p,v,())
section
variable {ts:List yQ} {en:Int} {a d:Nat} {ns:List eq}
theorem Vy(hs:oU ts)(hp:xj ts a d ns)(IH:∀ a' d' ep,a < a'→xj ts a' d' ep→UnB ts en a' d' ep)(PR:PrB ts en a d ns):UnB ts en a d ns:=by
 have h7:=hs.len;obtain⟨p1,p2,p3,p4⟩:=hp;have b0:a≤4000000000000000000:=by omega
 have bn:ns.length≤4000000:=by omega
 cases hm:aM ts a [45] with
 |false=>
  obtain⟨r,hi,hr⟩:=PR;refine⟨r,hi,Ev.succ (hr.mono fun k e=>?_)⟩;cases r with
  |er c p=>
   obtain⟨e1,v,a',ep,d',e2⟩:=e;refine⟨?_,v,a',ep,d',?_⟩
   ·simp only [go_sem,tY,HG,gV,am,aR,reduceIte,aI b0,hm,show fR k ts en (a:Int) (d:Int) ns=_ from e1]
   ·simp only [go_sem,Ej,iB,bh,aQ,reduceIte,ab hs (w:=[45]) rfl b0,hm,show gP k ts (a:Int) en ns (d:Int) 0 0=_ from e2]
  |ok v a' d' ep=>
   refine⟨?_,?_⟩
   ·simp only [go_sem,tY,HG,gV,am,aR,reduceIte,aI b0,hm,show fR k ts en (a:Int) (d:Int) ns=_ from e.1]
   ·simp only [go_sem,KY,Ej,iB,bh,aQ,reduceIte,ab hs (w:=[45]) rfl b0,hm,show gP k ts (a:Int) en ns (d:Int) 0 0=_ from e.2]
 |true=>
 have bo:=bx hm;by_cases hd:d < 10
 ·obtain⟨r,hi,hr⟩:=IH (a + 1) (d + 1) (ns ++ [(24,pl ts en a,0,[],[])]) (by omega) ⟨by omega,by omega,by simp;omega,p4.add (rZ rfl (by decide))⟩
  cases r with
  |er c p=>
   refine⟨.er c p,hi,Ev.succ (hr.mono fun k e=>?_)⟩;obtain⟨e1,v,a',ep,d',e2⟩:=e;refine⟨?_,0,a',ep,dq (d' - 1),?_⟩
   ·simp only [go_sem,tY,HG,gV,am,aR,reduceIte,aI b0,gG p2,hU bn,hm,hd,show fv k ts en ((a + 1:Nat):Int) ((d + 1:Nat):Int) (ns ++ [(24,pl ts en a,0,[],[])])=_ from e1]
   ·simp only [go_sem,Ej,iB,bh,aQ,reduceIte,ab hs (w:=[45]) rfl b0,lB p2,dQ bn,hm,hd,show ip k ts ((a + 1:Nat):Int) en (ns ++ [(24,pl ts en a,0,[],[])]) ((d + 1:Nat):Int) 0 0=_ from e2,ce (show c≠0 from hi)]
  |ok v a' d' ep=>
   obtain⟨q1,q2,rfl,q3,q4,q5,q6,q7,q8,q9⟩:=hi;simp only [List.length_append,List.length_cons,List.length_nil] at q3 q9;have wz:wt ep (ns.length:Int)=1:=by rw [ri q4 (by omega) (by simp;omega),nN];rfl
   have Lq:ep.length≤4000000:=by omega
   have qz:kd ep (ns.length:Int)=24:=by rw [qd q4 (by omega) (by simp;omega),qG]
   have ql:ns.length < ep.length:=by have:=q4.length_le;simp at this;omega
   refine⟨.ok _ a' d (ep ++ [(28,pl ts en a,2,[],[(ns.length:Int),v])]),kB (by omega) (by omega) (by omega) ((List.prefix_append _ _).trans q4) q5 ⟨by simp;omega,by simpa [b9,qz,Aq] using q8,by simp⟩ rfl (by rw [xH,wz];omega),Ev.succ (hr.mono fun k e=>⟨?_,?_⟩)⟩
   ·simp only [go_sem,tY,HG,gV,am,aR,reduceIte,aI b0,gG p2,hU bn,hU Lq,hm,hd,show fv k ts en ((a + 1:Nat):Int) ((d + 1:Nat):Int) (ns ++ [(24,pl ts en a,0,[],[])])=_ from e.1,km (show d≤_ by omega)]
   ·simp only [go_sem,KY,Ej,iB,bh,aQ,reduceIte,ab hs (w:=[45]) rfl b0,lB p2,dQ bn,dQ Lq,hm,hd,show ip k ts ((a + 1:Nat):Int) en (ns ++ [(24,pl ts en a,0,[],[])]) ((d + 1:Nat):Int) 0 0=_ from e.2,km (show d≤_ by omega)]
 ·refine⟨.er 7 (pl ts en (a + 1)),(show(7:Int)≠0 by decide),Ev.succ (Ev.of fun k=>⟨?_,0,a + 1,ns,((d + 1:Nat):Int),?_⟩)⟩
  ·simp only [go_sem,tY,HG,gV,am,aR,reduceIte,aI b0,gG p2,hm,hd]
  ·simp only [go_sem,Ej,iB,bh,aQ,reduceIte,ab hs (w:=[45]) rfl b0,lB p2,hm,hd]
theorem TH(hs:oU ts){n:Nat}(n1:1≤n)(n6:n≤6){a0:Nat}(IH:∀ a' ep,a0≤a'→xj ts a' d ep→Jw ts en a' d ep (n + 1)):∀ m a (ns:List eq) (x:Int),ts.length - a≤m→a0≤a→xj ts a d ns→0≤x→x < ns.length→Aq (kd ns x)=true→
  ∃ r,Inv ts Aq 0 a d ns r (wt ns x)∧co fun q k=>HE r (dN (aj q) (fv q) (fR q) q k ts en (n:Int) (a:Int) (d:Int) ns x)∧
   Qc r (fy (ao q) (ip q) (gP q) q k ts en (n:Int) (a:Int) ns (d:Int) 0 0 x):=by
 have h7:=hs.len;intro m;induction m with
 |zero=>
  intro a ns x hm h0 hp x0 x1 x2;have bo:¬ a < ts.length:=by omega
  refine⟨.ok x a d ns,⟨by omega,hp.hi,rfl,by omega,List.prefix_refl _,hp.all,x0,x1,x2,by omega⟩,co.succ (co.of fun q k=>⟨?_,?_⟩)⟩
  ·simp only [go_sem,HE,dN,Int.ofNat_lt,bo]
  ·simp only [go_sem,Qc,fy,aa,Gu,T8 bo,aal [] n n1 n6,show MB []=0 from rfl,ne_eq,not_true,false_and,ite_false]
 |succ m ih=>
  intro a ns x hm h0 hp x0 x1 x2;obtain⟨p1,p2,p3,p4⟩:=hp;by_cases mi:MB (sg ts a)≠0∧lvF (MB (sg ts a))=n
  ·have bo:a < ts.length:=by
    by_cases h:a < ts.length
    ·exact h
    ·rw [T8 h] at mi;exact absurd rfl mi.1
   have hz:(MB (sg ts a) == 0)=false:=beq_eq_false_iff_ne.2 mi.1;have hl:(lvF (MB (sg ts a)) != (n:Int))=false:=by rw [mi.2];simp
   obtain⟨r,hi,hr⟩:=IH (a + 1) ns (by omega) ⟨by omega,by omega,by omega,p4⟩
   cases r with
   |er c p=>
    have hc:(c == 0)=false:=beq_eq_false_iff_ne.2 hi;refine⟨.er c p,hi,co.succ (co.succ ((hr.tX.and (aca (tk ts a).2.2.1).tX).mono fun q k e=>?_))⟩;obtain⟨⟨e1,v,a',ep,d',e2⟩,e3⟩:=e;refine⟨?_,0,a',ep,d',?_⟩
    ·simp only [go_sem,HE,dN,aa,Int.ofNat_lt,bo,bj (iq bo),e3,U4 hs bo,hz,ab8,hl,am,af (show a < _ by omega),af (show n < _ by omega),show aj q ts en ((a + 1:Nat):Int) (d:Int) ns ((n + 1:Nat):Int)=_ from e1]
    ·simp only [go_sem,fy,aa,Gu,bh,aal _ n n1 n6,if_pos mi,bne,hz,hc,af (show a < _ by omega),af (show n < _ by omega),show ao q ts ((a + 1:Nat):Int) en ns (d:Int) 0 0 ((n + 1:Nat):Int)=_ from e2,ce (show c≠0 from hi)]
   |ok y a1 d1 mH=>
    obtain⟨q1,q2,rfl,q3,q4,q5,q6,q7,q8,q9⟩:=hi;have Lq:mH.length≤4000000:=by omega
    have xk:kd mH x=kd ns x:=qd q4 x0 x1;have ql:=q4.length_le;have RS:nO mH mH.length (28,pl ts en a,MB (sg ts a),[],[x,y]):=⟨by simp;omega,by simp [b9,xk,x2,q8],by simp⟩
    obtain⟨r,gi,gr⟩:=ih a1 (mH ++ [(28,pl ts en a,MB (sg ts a),[],[x,y])]) (mH.length:Int) (by omega) (by omega) ⟨by omega,by omega,by simp;omega,q5.add RS⟩ (by omega) (by simp;omega) (by rw [qG];rfl)
    refine⟨r,gi.from (by omega) (by simp;omega) (q4.trans (List.prefix_append _ _)) (by rw [nN,xH,ri q4 x0 x1];simp;omega),co.succ (((hr.tX.and (aca (tk ts a).2.2.1).tX).and gr).mono fun q k e=>?_)⟩
    obtain⟨⟨⟨e1,e2⟩,e3⟩,e4,e5⟩:=e;refine⟨?_,?_⟩
    ·simp only [go_sem,dN,aa,Int.ofNat_lt,bo,bj (iq bo),e3,U4 hs bo,hz,ab8,hl,am,af (show a < _ by omega),af (show n < _ by omega),show aj q ts en ((a + 1:Nat):Int) (d1:Int) ns ((n + 1:Nat):Int)=_ from e1,hU Lq]
     exact e4
    ·simp only [go_sem,fy,aa,Gu,bh,aal _ n n1 n6,if_pos mi,bne,hz,af (show a < _ by omega),af (show n < _ by omega),show ao q ts ((a + 1:Nat):Int) en ns (d1:Int) 0 0 ((n + 1:Nat):Int)=_ from e2,dQ Lq]
     exact e5
  ·refine⟨.ok x a d ns,⟨by omega,p1,rfl,by omega,List.prefix_refl _,p4,x0,x1,x2,by omega⟩,co.succ ((aca (tk ts a).2.2.1).tX.mono fun q k e=>⟨?_,?_⟩)⟩
   ·by_cases bo:a < ts.length
    ·by_cases hz:MB (sg ts a)=0
     ·simp only [go_sem,HE,dN,aa,Int.ofNat_lt,bo,bj (iq bo),e,U4 hs bo,hz]
     ·have hl:(lvF (MB (sg ts a)) != (n:Int))=true:=by
       rw [bne_iff_ne];exact fun h=>mi ⟨hz,h⟩
      simp only [go_sem,HE,dN,aa,Int.ofNat_lt,bo,bj (iq bo),e,U4 hs bo,beq_eq_false_iff_ne.2 hz,ab8,hl]
    ·simp only [go_sem,HE,dN,Int.ofNat_lt,bo]
   ·simp only [go_sem,Qc,fy,aa,Gu,aal _ n n1 n6,if_neg mi]
theorem TG(hs:oU ts){n:Nat}(n1:1≤n)(n6:n≤6)(hp:xj ts a d ns)(IH:∀ a' ep,a≤a'→xj ts a' d ep→Jw ts en a' d ep (n + 1)):Jw ts en a d ns n:=by
 have h7:=hs.len;have n7:¬ (n:Int) > 6:=by omega
 obtain⟨r,hi,hr⟩:=IH a ns (Nat.le_refl _) hp;obtain⟨p1,p2,p3,p4⟩:=hp;cases r with
 |er c p=>
  have hc:(c == 0)=false:=beq_eq_false_iff_ne.2 hi;refine⟨.er c p,hi,Ev.succ ((hr.and ⟨1,fun k hk=>hk⟩).mono fun k e=>?_)⟩;obtain⟨⟨e1,v,a',ep,d',e2⟩,hk⟩:=e;obtain⟨j,rfl⟩:∃ j,k=j + 1:=⟨k - 1,by omega⟩
  refine⟨?_,v,a',ep,d',?_⟩
  ·simp only [go_sem,tY,HD (j + 1),im,n7,af (show n < _ by omega),show aj (j + 1) ts en (a:Int) (d:Int) ns ((n + 1:Nat):Int)=_ from e1]
  ·simp only [go_sem,Bz (j + 1),gO,n7,af (show n < _ by omega),show ao (j + 1) ts (a:Int) en ns (d:Int) 0 0 ((n + 1:Nat):Int)=_ from e2,fy,aa,hc]
 |ok x a1 d1 mH=>
  obtain⟨q1,q2,rfl,q3,q4,q5,q6,q7,q8,q9⟩:=hi;obtain⟨r,gi,gr⟩:=TH hs n1 n6 IH _ a1 mH x (Nat.le_refl _) (by omega) ⟨q2,p2,by omega,q5⟩ q6 q7 q8
  refine⟨r,gi.from (by omega) q3 q4 q9,Ev.succ ((hr.and gr.jN).mono fun k e=>?_)⟩
  obtain⟨⟨e1,e2⟩,e3,e4⟩:=e;cases r with
  |er c p=>
   obtain⟨v,a',ep,d',e4⟩:=e4;refine⟨?_,v,a',ep,d',?_⟩
   ·simp only [go_sem,tY,HD,im,n7,af (show n < _ by omega),show aj k ts en (a:Int) (d1:Int) ns ((n + 1:Nat):Int)=_ from e1]
    simp only [go_sem,show dN _ _ _ k k ts en (n:Int) (a1:Int) (d1:Int) mH x=_ from e3]
   ·simp only [go_sem,Bz,gO,n7,af (show n < _ by omega),show ao k ts (a:Int) en ns (d1:Int) 0 0 ((n + 1:Nat):Int)=_ from e2,e4]
  |ok v a' d' ep=>
   refine⟨?_,?_⟩
   ·simp only [go_sem,tY,HD,im,n7,af (show n < _ by omega),show aj k ts en (a:Int) (d1:Int) ns ((n + 1:Nat):Int)=_ from e1]
    simp only [go_sem,show dN _ _ _ k k ts en (n:Int) (a1:Int) (d1:Int) mH x=_ from e3]
   ·simp only [go_sem,KY,Bz,gO,n7,af (show n < _ by omega),show ao k ts (a:Int) en ns (d1:Int) 0 0 ((n + 1:Nat):Int)=_ from e2,show fy _ _ _ k k ts en (n:Int) (a1:Int) mH (d1:Int) 0 0 x=_ from e4]
theorem ace(U:UnB ts en a d ns):Jw ts en a d ns 7:=by
 obtain⟨r,hi,hr⟩:=U;have n7:((7:Nat):Int) > 6:=by omega
 refine⟨r,hi,Ev.succ (hr.mono fun k e=>?_)⟩;obtain⟨e1,e2⟩:=e;cases r with
 |er c p=>
  obtain⟨v,a',ep,d',e2⟩:=e2;refine⟨?_,v,a',ep,d',?_⟩
  ·simp only [go_sem,tY,HD,im,n7,show fv k ts en (a:Int) (d:Int) ns=_ from e1]
  ·simp only [go_sem,Bz,gO,n7,e2]
 |ok v a' d' ep=>
  refine⟨?_,?_⟩
  ·simp only [go_sem,tY,HD,im,n7,show fv k ts en (a:Int) (d:Int) ns=_ from e1]
  ·simp only [go_sem,KY,Bz,gO,n7,show ip k ts (a:Int) en ns (d:Int) 0 0=_ from e2]
theorem TJ(hs:oU ts){a:Nat}(U:∀ a' d ns,a≤a'→xj ts a' d ns→UnB ts en a' d ns):∀ j n,n + j=7→1≤n→∀ a' d ns,a≤a'→xj ts a' d ns→Jw ts en a' d ns n
 |0,n,h,h1,a',d,ns,ha,hp=>by
  obtain rfl:n=7:=by omega
  exact ace (U a' d ns ha hp)
 |j + 1,n,h,h1,a',d,ns,ha,hp=>TG hs h1 (by omega) hp fun a2 pZ h2 p2=>TJ hs U j (n + 1) (by omega) (by omega) a2 d pZ (by omega) p2
theorem aeo(hs:oU ts):∀ m a,ts.length - a≤m→∀ a',a≤a'→∀ d ns,xj ts a' d ns→UnB ts en a' d ns∧Jw ts en a' d ns 1:=by
 intro m;induction m with
 |zero=>
  intro a hm a' ha d ns hp;have key:∀ a',a≤a'→∀ d ns,xj ts a' d ns→UnB ts en a' d ns:=fun a' ha d ns hp=>
   Vy hs hp (fun a2 d2 pZ h2 p2=>by have:=p2.hi;have:=hp.hi;omega) (OV hs hp fun a2 d2 pZ h2 p2=>by have:=p2.hi;have:=hp.hi;omega)
  exact⟨key a' ha d ns hp,TJ hs (a:=a) (fun a' d ns ha hp=>key a' ha d ns hp) 6 1 rfl (by omega) a' d ns ha hp⟩
 |succ m ih=>
  intro a hm a' ha d ns hp;have key:∀ a',a≤a'→∀ d ns,xj ts a' d ns→UnB ts en a' d ns:=fun a' ha d ns hp=>
   Vy hs hp (fun a2 d2 pZ h2 p2=>(ih (a + 1) (by omega) a2 (by omega) d2 pZ p2).1) (OV hs hp fun a2 d2 pZ h2 p2=>(ih (a + 1) (by omega) a2 (by omega) d2 pZ p2).2)
  exact⟨key a' ha d ns hp,TJ hs (a:=a) (fun a' d ns ha hp=>key a' ha d ns hp) 6 1 rfl (by omega) a' d ns ha hp⟩
theorem AT(hs:oU ts)(hp:xj ts a d ns):Jw ts en a d ns 1:=(aeo hs _ a (Nat.le_refl _) a (Nat.le_refl _) d ns hp).2
end
end Go.Fx.R5
namespace Go.Fx.R5
open Go Go.Fx
section
theorem Bx(k:Nat):dR (k + 1)=lJ (dR k) (gj k) (fh k) k:=rfl
theorem Bw(k:Nat):gj (k + 1)=lE (dR k) (gj k) (fh k) k:=rfl
theorem jW(k:Nat):fh (k + 1)=dy (dR k) (gj k) (fh k) k:=rfl
theorem Gg(k:Nat):dK (k + 1)=ky (dK k) (eK k) (dL k) k:=rfl
theorem Gf(k:Nat):eK (k + 1)=kx (dK k) (eK k) (dL k) k:=rfl
theorem jQ(k:Nat):dL (k + 1)=cv (dK k) (eK k) (dL k) k:=rfl
variable {ts:List yQ} {en:Int} {c p:Int}
theorem abJ(hc:c≠0):Ev fun k=>∀(a:Nat) (ns:List eq) (d:Int),fh k ts (a:Int) en ns d c p=some (0,(a:Int),ns,d,c,p,()):=by refine Ev.succ ((fl1 (ts:=ts) (en:=en) (p:=p) hc).mono fun k e a ns d=>?_);rw [jW];simp only [go_sem,dy,bh,dH hc,e,Xh hc,SL,show Hi []=0 from rfl,eU hc]
theorem abI(hc:c≠0):Ev fun k=>∀(a:Nat) (ns:List eq) (d:Int),gj k ts (a:Int) en ns d c p=some (0,(a:Int),ns,d,c,p,()):=by
 refine Ev.succ (((abJ (ts:=ts) (en:=en) (p:=p) hc).and ⟨1,fun k hk=>hk⟩).mono fun k e a ns d=>?_);obtain⟨e,hk⟩:=e;obtain⟨j,rfl⟩:∃ j,k=j + 1:=⟨k - 1,by omega⟩
 rw [Bw];simp only [go_sem,lE,e,fY,lz hc]
theorem Xg(hc:c≠0):Ev fun k=>∀(a:Nat) (ns:List eq) (d:Int),dR k ts (a:Int) en ns d c p=some (0,(a:Int),ns,d,c,p,()):=by
 refine Ev.succ (((abI (ts:=ts) (en:=en) (p:=p) hc).and ⟨1,fun k hk=>hk⟩).mono fun k e a ns d=>?_);obtain⟨e,hk⟩:=e;obtain⟨j,rfl⟩:∃ j,k=j + 1:=⟨k - 1,by omega⟩
 rw [Bx];simp only [go_sem,lJ,e,fZ,lz hc]
variable {a d:Nat} {ns:List eq}
abbrev CdB(ts:List yQ)(en:Int)(a d:Nat)(ns:List eq):Prop:=QZ ts sW 1 a d ns (fun k=>dK k ts en (a:Int) (d:Int) ns) (fun k=>dR k ts (a:Int) en ns (d:Int) 0 0)
abbrev BoB(ts:List yQ)(en:Int)(a d:Nat)(ns:List eq):Prop:=QZ ts sW 1 a d ns (fun k=>eK k ts en (a:Int) (d:Int) ns) (fun k=>gj k ts (a:Int) en ns (d:Int) 0 0)
abbrev LaB(ts:List yQ)(en:Int)(a d:Nat)(ns:List eq):Prop:=QZ ts sW 1 a d ns (fun k=>dL k ts en (a:Int) (d:Int) ns) (fun k=>fh k ts (a:Int) en ns (d:Int) 0 0)
theorem VF(hs:oU ts){a0:Nat}(IH:∀ a' ep,a0≤a'→xj ts a' d ep→LaB ts en a' d ep):∀ m a (ns:List eq) (x:Int),ts.length - a≤m→a0≤a→xj ts a d ns→0≤x→x < ns.length→sW (kd ns x)=true→
  ∃ r,Inv ts sW 0 a d ns r (wt ns x)∧co fun q k=>HE r (fd (dK q) (eK q) (dL q) q k ts en (a:Int) (d:Int) ns x)∧
   Qc r (fY (dR q) (gj q) (fh q) q k ts en (a:Int) ns (d:Int) 0 0 x):=by
 have h7:=hs.len;intro m;induction m with
 |zero=>
  intro a ns x hm h0 hp x0 x1 x2;have I2:aM ts a [97,110,100]=false:=by
   cases h:aM ts a [97,110,100] with
   |false=>rfl
   |true=>have:=bx h;omega
  have b0:a≤4000000000000000000:=by have:=hp.hi;omega
  refine⟨.ok x a d ns,⟨by omega,hp.hi,rfl,by omega,List.prefix_refl _,hp.all,x0,x1,x2,by omega⟩,co.succ (co.of fun q k=>⟨?_,?_⟩)⟩
  ·simp only [go_sem,HE,fd,sk b0,I2]
  ·simp only [go_sem,Qc,fY,bZ hs (w:=[97,110,100]) rfl,I2]
 |succ m ih=>
  intro a ns x hm h0 hp x0 x1 x2;obtain⟨p1,p2,p3,p4⟩:=hp;have b0:a≤4000000000000000000:=by omega
  cases I2:aM ts a [97,110,100] with
  |true=>
   have bo:=bx I2;obtain⟨r,hi,hr⟩:=IH (a + 1) ns (by omega) ⟨by omega,by omega,by omega,p4⟩
   cases r with
   |er c p=>
    refine⟨.er c p,hi,co.succ (co.succ (hr.tX.mono fun q k e=>?_))⟩;obtain⟨e1,v,a',ep,d',e2⟩:=e;refine⟨?_,0,a',ep,d',?_⟩
    ·simp only [go_sem,HE,fd,sk b0,I2,am,af (show a < _ by omega),show dL q ts en ((a + 1:Nat):Int) (d:Int) ns=_ from e1]
    ·simp only [go_sem,fY,bZ hs (w:=[97,110,100]) rfl,I2,bh,af (show a < _ by omega),show fh q ts ((a + 1:Nat):Int) en ns (d:Int) 0 0=_ from e2,ce (show c≠0 from hi),lz (show c≠0 from hi)]
   |ok y a1 d1 mH=>
    obtain⟨q1,q2,rfl,q3,q4,q5,q6,q7,q8,q9⟩:=hi;have Lq:mH.length≤4000000:=by omega
    have xk:kd mH x=kd ns x:=qd q4 x0 x1;have ql:=q4.length_le;have RS:nO mH mH.length (31,pl ts en a,0,[],[x,y]):=⟨by simp;omega,by simp [b9,xk,x2,q8],by simp⟩
    obtain⟨r,gi,gr⟩:=ih a1 (mH ++ [(31,pl ts en a,0,[],[x,y])]) (mH.length:Int) (by omega) (by omega) ⟨by omega,by omega,by simp;omega,q5.add RS⟩ (by omega) (by simp;omega) (by rw [qG];rfl)
    refine⟨r,gi.from (by omega) (by simp;omega) (q4.trans (List.prefix_append _ _)) (by rw [nN,xH,ri q4 x0 x1];simp;omega),co.succ ((hr.tX.and gr).mono fun q k e=>?_)⟩
    obtain⟨⟨e1,e2⟩,e4,e5⟩:=e;refine⟨?_,?_⟩
    ·simp only [go_sem,fd,sk b0,I2,am,af (show a < _ by omega),show dL q ts en ((a + 1:Nat):Int) (d1:Int) ns=_ from e1,hU Lq]
     exact e4
    ·simp only [go_sem,fY,bZ hs (w:=[97,110,100]) rfl,I2,bh,af (show a < _ by omega),show fh q ts ((a + 1:Nat):Int) en ns (d1:Int) 0 0=_ from e2,dQ Lq]
     exact e5
  |false=>
   refine⟨.ok x a d ns,⟨by omega,p1,rfl,by omega,List.prefix_refl _,p4,x0,x1,x2,by omega⟩,co.succ (co.of fun q k=>⟨?_,?_⟩)⟩
   ·simp only [go_sem,HE,fd,sk b0,I2]
   ·simp only [go_sem,Qc,fY,bZ hs (w:=[97,110,100]) rfl,I2]
theorem N7(hs:oU ts)(hp:xj ts a d ns)(IH:∀ a' ep,a≤a'→xj ts a' d ep→LaB ts en a' d ep):BoB ts en a d ns:=by
 have h7:=hs.len;obtain⟨r,hi,hr⟩:=IH a ns (Nat.le_refl _) hp;obtain⟨p1,p2,p3,p4⟩:=hp;cases r with
 |er c p=>
  refine⟨.er c p,hi,Ev.succ ((hr.and ⟨1,fun k hk=>hk⟩).mono fun k e=>?_)⟩;obtain⟨⟨e1,v,a',ep,d',e2⟩,hk⟩:=e;obtain⟨j,rfl⟩:∃ j,k=j + 1:=⟨k - 1,by omega⟩
  refine⟨?_,v,a',ep,d',?_⟩
  ·simp only [go_sem,tY,Gf (j + 1),kx,show dL (j + 1) ts en (a:Int) (d:Int) ns=_ from e1]
  ·simp only [go_sem,Bw (j + 1),lE,show fh (j + 1) ts (a:Int) en ns (d:Int) 0 0=_ from e2,fY,lz (show c≠0 from hi)]
 |ok x a1 d1 mH=>
  obtain⟨q1,q2,rfl,q3,q4,q5,q6,q7,q8,q9⟩:=hi;obtain⟨r,gi,gr⟩:=VF hs IH _ a1 mH x (Nat.le_refl _) (by omega) ⟨q2,p2,by omega,q5⟩ q6 q7 q8
  refine⟨r,gi.from (by omega) q3 q4 q9,Ev.succ ((hr.and gr.jN).mono fun k e=>?_)⟩
  obtain⟨⟨e1,e2⟩,e3,e4⟩:=e;cases r with
  |er c p=>
   obtain⟨v,a',ep,d',e4⟩:=e4;refine⟨?_,v,a',ep,d',?_⟩
   ·simp only [go_sem,tY,Gf,kx,show dL k ts en (a:Int) (d1:Int) ns=_ from e1]
    simp only [go_sem,show fd _ _ _ k k ts en (a1:Int) (d1:Int) mH x=_ from e3]
   ·simp only [go_sem,Bw,lE,show fh k ts (a:Int) en ns (d1:Int) 0 0=_ from e2,e4]
  |ok v a' d' ep=>
   refine⟨?_,?_⟩
   ·simp only [go_sem,tY,Gf,kx,show dL k ts en (a:Int) (d1:Int) ns=_ from e1]
    simp only [go_sem,show fd _ _ _ k k ts en (a1:Int) (d1:Int) mH x=_ from e3]
   ·simp only [go_sem,KY,Bw,lE,show fh k ts (a:Int) en ns (d1:Int) 0 0=_ from e2,show fY _ _ _ k k ts en (a1:Int) mH (d1:Int) 0 0 x=_ from e4]
theorem VJ(hs:oU ts){a0:Nat}(IH:∀ a' ep,a0≤a'→xj ts a' d ep→BoB ts en a' d ep):∀ m a (ns:List eq) (x:Int),ts.length - a≤m→a0≤a→xj ts a d ns→0≤x→x < ns.length→sW (kd ns x)=true→
  ∃ r,Inv ts sW 0 a d ns r (wt ns x)∧co fun q k=>HE r (fe (dK q) (eK q) (dL q) q k ts en (a:Int) (d:Int) ns x)∧
   Qc r (fZ (dR q) (gj q) (fh q) q k ts en (a:Int) ns (d:Int) 0 0 x):=by
 have h7:=hs.len;intro m;induction m with
 |zero=>
  intro a ns x hm h0 hp x0 x1 x2;have I2:aM ts a [111,114]=false:=by
   cases h:aM ts a [111,114] with
   |false=>rfl
   |true=>have:=bx h;omega
  have b0:a≤4000000000000000000:=by have:=hp.hi;omega
  refine⟨.ok x a d ns,⟨by omega,hp.hi,rfl,by omega,List.prefix_refl _,hp.all,x0,x1,x2,by omega⟩,co.succ (co.of fun q k=>⟨?_,?_⟩)⟩
  ·simp only [go_sem,HE,fe,sk b0,I2]
  ·simp only [go_sem,Qc,fZ,bZ hs (w:=[111,114]) rfl,I2]
 |succ m ih=>
  intro a ns x hm h0 hp x0 x1 x2;obtain⟨p1,p2,p3,p4⟩:=hp;have b0:a≤4000000000000000000:=by omega
  cases I2:aM ts a [111,114] with
  |true=>
   have bo:=bx I2;obtain⟨r,hi,hr⟩:=IH (a + 1) ns (by omega) ⟨by omega,by omega,by omega,p4⟩
   cases r with
   |er c p=>
    refine⟨.er c p,hi,co.succ (co.succ (hr.tX.mono fun q k e=>?_))⟩;obtain⟨e1,v,a',ep,d',e2⟩:=e;refine⟨?_,0,a',ep,d',?_⟩
    ·simp only [go_sem,HE,fe,sk b0,I2,am,af (show a < _ by omega),show eK q ts en ((a + 1:Nat):Int) (d:Int) ns=_ from e1]
    ·simp only [go_sem,fZ,bZ hs (w:=[111,114]) rfl,I2,bh,af (show a < _ by omega),show gj q ts ((a + 1:Nat):Int) en ns (d:Int) 0 0=_ from e2,ce (show c≠0 from hi),lz (show c≠0 from hi)]
   |ok y a1 d1 mH=>
    obtain⟨q1,q2,rfl,q3,q4,q5,q6,q7,q8,q9⟩:=hi;have Lq:mH.length≤4000000:=by omega
    have xk:kd mH x=kd ns x:=qd q4 x0 x1;have ql:=q4.length_le;have RS:nO mH mH.length (32,pl ts en a,0,[],[x,y]):=⟨by simp;omega,by simp [b9,xk,x2,q8],by simp⟩
    obtain⟨r,gi,gr⟩:=ih a1 (mH ++ [(32,pl ts en a,0,[],[x,y])]) (mH.length:Int) (by omega) (by omega) ⟨by omega,by omega,by simp;omega,q5.add RS⟩ (by omega) (by simp;omega) (by rw [qG];rfl)
    refine⟨r,gi.from (by omega) (by simp;omega) (q4.trans (List.prefix_append _ _)) (by rw [nN,xH,ri q4 x0 x1];simp;omega),co.succ ((hr.tX.and gr).mono fun q k e=>?_)⟩
    obtain⟨⟨e1,e2⟩,e4,e5⟩:=e;refine⟨?_,?_⟩
    ·simp only [go_sem,fe,sk b0,I2,am,af (show a < _ by omega),show eK q ts en ((a + 1:Nat):Int) (d1:Int) ns=_ from e1,hU Lq]
     exact e4
    ·simp only [go_sem,fZ,bZ hs (w:=[111,114]) rfl,I2,bh,af (show a < _ by omega),show gj q ts ((a + 1:Nat):Int) en ns (d1:Int) 0 0=_ from e2,dQ Lq]
     exact e5
  |false=>
   refine⟨.ok x a d ns,⟨by omega,p1,rfl,by omega,List.prefix_refl _,p4,x0,x1,x2,by omega⟩,co.succ (co.of fun q k=>⟨?_,?_⟩)⟩
   ·simp only [go_sem,HE,fe,sk b0,I2]
   ·simp only [go_sem,Qc,fZ,bZ hs (w:=[111,114]) rfl,I2]
theorem Oa(hs:oU ts)(hp:xj ts a d ns)(IH:∀ a' ep,a≤a'→xj ts a' d ep→BoB ts en a' d ep):CdB ts en a d ns:=by
 have h7:=hs.len;obtain⟨r,hi,hr⟩:=IH a ns (Nat.le_refl _) hp;obtain⟨p1,p2,p3,p4⟩:=hp;cases r with
 |er c p=>
  refine⟨.er c p,hi,Ev.succ ((hr.and ⟨1,fun k hk=>hk⟩).mono fun k e=>?_)⟩;obtain⟨⟨e1,v,a',ep,d',e2⟩,hk⟩:=e;obtain⟨j,rfl⟩:∃ j,k=j + 1:=⟨k - 1,by omega⟩
  refine⟨?_,v,a',ep,d',?_⟩
  ·simp only [go_sem,tY,Gg (j + 1),ky,show eK (j + 1) ts en (a:Int) (d:Int) ns=_ from e1]
  ·simp only [go_sem,Bx (j + 1),lJ,show gj (j + 1) ts (a:Int) en ns (d:Int) 0 0=_ from e2,fZ,lz (show c≠0 from hi)]
 |ok x a1 d1 mH=>
  obtain⟨q1,q2,rfl,q3,q4,q5,q6,q7,q8,q9⟩:=hi;obtain⟨r,gi,gr⟩:=VJ hs IH _ a1 mH x (Nat.le_refl _) (by omega) ⟨q2,p2,by omega,q5⟩ q6 q7 q8
  refine⟨r,gi.from (by omega) q3 q4 q9,Ev.succ ((hr.and gr.jN).mono fun k e=>?_)⟩
  obtain⟨⟨e1,e2⟩,e3,e4⟩:=e;cases r with
  |er c p=>
   obtain⟨v,a',ep,d',e4⟩:=e4;refine⟨?_,v,a',ep,d',?_⟩
   ·simp only [go_sem,tY,Gg,ky,show eK k ts en (a:Int) (d1:Int) ns=_ from e1]
    simp only [go_sem,show fe _ _ _ k k ts en (a1:Int) (d1:Int) mH x=_ from e3]
   ·simp only [go_sem,Bx,lJ,show gj k ts (a:Int) en ns (d1:Int) 0 0=_ from e2,e4]
  |ok v a' d' ep=>
   refine⟨?_,?_⟩
   ·simp only [go_sem,tY,Gg,ky,show eK k ts en (a:Int) (d1:Int) ns=_ from e1]
    simp only [go_sem,show fe _ _ _ k k ts en (a1:Int) (d1:Int) mH x=_ from e3]
   ·simp only [go_sem,KY,Bx,lJ,show gj k ts (a:Int) en ns (d1:Int) 0 0=_ from e2,show fZ _ _ _ k k ts en (a1:Int) mH (d1:Int) 0 0 x=_ from e4]
theorem OF(hs:oU ts)(hp:xj ts a d ns)(IHl:∀ a' d' ep,a < a'→xj ts a' d' ep→LaB ts en a' d' ep)(IHc:∀ a' d' ep,a < a'→xj ts a' d' ep→CdB ts en a' d' ep):LaB ts en a d ns:=by
 have h7:=hs.len;have zK:=hp;obtain⟨p1,p2,p3,p4⟩:=hp;have b0:a≤4000000000000000000:=by omega
 have b1:a + 1≤4000000000000000000:=by omega
 have bn:ns.length≤4000000:=by omega
 cases vN:aM ts a [110,111,116] with
 |true=>
  have bo:=bx vN;by_cases hd:d < 10
  ·obtain⟨r,hi,hr⟩:=IHl (a + 1) (d + 1) ns (by omega) ⟨by omega,by omega,by omega,p4⟩
   cases r with
   |er c p=>
    refine⟨.er c p,hi,Ev.succ (hr.mono fun k e=>?_)⟩;obtain⟨e1,v,a',ep,d',e2⟩:=e;refine⟨?_,0,a',ep,dq (d' - 1),?_⟩
    ·simp only [go_sem,tY,jQ,cv,am,aR,reduceIte,aI b0,gG p2,vN,hd,show dL k ts en ((a + 1:Nat):Int) ((d + 1:Nat):Int) ns=_ from e1]
    ·simp only [go_sem,jW,dy,bh,aQ,reduceIte,ab hs (w:=[110,111,116]) rfl b0,lB p2,vN,hd,show fh k ts ((a + 1:Nat):Int) en ns ((d + 1:Nat):Int) 0 0=_ from e2,ce (show c≠0 from hi)]
   |ok v a' d' ep=>
    obtain⟨q1,q2,rfl,q3,q4,q5,q6,q7,q8,q9⟩:=hi;have Lq:ep.length≤4000000:=by omega
    refine⟨.ok _ a' d (ep ++ [(33,pl ts en a,0,[],[v])]),kB (by omega) (by omega) (by omega) q4 q5 ⟨by simp;omega,by simpa [b9] using q8,by simp⟩ rfl (by rw [oJ];exact q9),Ev.succ (hr.mono fun k e=>⟨?_,?_⟩)⟩
    ·simp only [go_sem,tY,jQ,cv,am,aR,reduceIte,aI b0,gG p2,hU Lq,vN,hd,show dL k ts en ((a + 1:Nat):Int) ((d + 1:Nat):Int) ns=_ from e.1,km (show d≤_ by omega)]
    ·simp only [go_sem,KY,jW,dy,bh,aQ,reduceIte,ab hs (w:=[110,111,116]) rfl b0,lB p2,dQ Lq,vN,hd,show fh k ts ((a + 1:Nat):Int) en ns ((d + 1:Nat):Int) 0 0=_ from e.2,km (show d≤_ by omega)]
  ·refine⟨.er 7 (pl ts en (a + 1)),(show(7:Int)≠0 by decide),Ev.succ (Ev.of fun k=>⟨?_,0,a + 1,ns,((d + 1:Nat):Int),?_⟩)⟩
   ·simp only [go_sem,tY,jQ,cv,am,aR,reduceIte,aI b0,gG p2,vN,hd]
   ·simp only [go_sem,jW,dy,bh,aQ,reduceIte,ab hs (w:=[110,111,116]) rfl b0,lB p2,vN,hd]
 |false=>
 cases pY:aM ts a [91] with
 |true=>
  have bo:=bx pY;by_cases hd:d < 10
  ·obtain⟨r,hi,hr⟩:=IHc (a + 1) (d + 1) ns (by omega) ⟨by omega,by omega,by omega,p4⟩
   cases r with
   |er c p=>
    refine⟨.er c p,hi,Ev.succ (hr.mono fun k e=>?_)⟩;obtain⟨e1,v,a',ep,d',e2⟩:=e;refine⟨?_,v,a',ep,dq (d' - 1),?_⟩
    ·simp only [go_sem,tY,jQ,cv,am,aR,reduceIte,aI b0,gG p2,vN,pY,hd,show dK k ts en ((a + 1:Nat):Int) ((d + 1:Nat):Int) ns=_ from e1]
    ·simp only [go_sem,jW,dy,bh,aQ,reduceIte,ab hs (w:=[110,111,116]) rfl b0,ab hs (w:=[91]) rfl b0,lB p2,vN,pY,hd,show dR k ts ((a + 1:Nat):Int) en ns ((d + 1:Nat):Int) 0 0=_ from e2,cN (show c≠0 from hi)]
   |ok v a' d' ep=>
    obtain⟨q1,q2,rfl,q3,q4,q5,q6,q7,q8,q9⟩:=hi;have b4:a'≤4000000000000000000:=by omega
    cases ma:aM ts a' [93] with
    |true=>
     have Gc:=bx ma;refine⟨.ok v (a' + 1) d ep,⟨by omega,by omega,rfl,by omega,q4,q5,q6,q7,q8,q9⟩,Ev.succ (hr.mono fun k e=>⟨?_,?_⟩)⟩
     ·simp only [go_sem,tY,jQ,cv,am,aR,reduceIte,aI b0,aL b4,gG p2,vN,pY,hd,ma,show dK k ts en ((a + 1:Nat):Int) ((d + 1:Nat):Int) ns=_ from e.1,km (show d≤_ by omega)]
     ·simp only [go_sem,KY,jW,dy,bh,aQ,reduceIte,ab hs (w:=[110,111,116]) rfl b0,ab hs (w:=[91]) rfl b0,lB p2,ai hs (w:=[93]) rfl b4,vN,pY,hd,ma,show dR k ts ((a + 1:Nat):Int) en ns ((d + 1:Nat):Int) 0 0=_ from e.2,km (show d≤_ by omega)]
    |false=>
     refine⟨.er 6 (pl ts en a'),(show(6:Int)≠0 by decide),Ev.succ (hr.mono fun k e=>⟨?_,v,a',ep,d,?_⟩)⟩
     ·simp only [go_sem,tY,jQ,cv,am,aR,reduceIte,aI b0,aL b4,gG p2,vN,pY,hd,ma,show dK k ts en ((a + 1:Nat):Int) ((d + 1:Nat):Int) ns=_ from e.1]
     ·simp only [go_sem,jW,dy,bh,aQ,reduceIte,ab hs (w:=[110,111,116]) rfl b0,ab hs (w:=[91]) rfl b0,lB p2,ai hs (w:=[93]) rfl b4,vN,pY,hd,ma,show dR k ts ((a + 1:Nat):Int) en ns ((d + 1:Nat):Int) 0 0=_ from e.2,km (show d≤_ by omega)]
  ·refine⟨.er 7 (pl ts en (a + 1)),(show(7:Int)≠0 by decide),Ev.succ (Ev.of fun k=>⟨?_,0,a + 1,ns,((d + 1:Nat):Int),?_⟩)⟩
   ·simp only [go_sem,tY,jQ,cv,am,aR,reduceIte,aI b0,gG p2,vN,pY,hd]
   ·simp only [go_sem,jW,dy,bh,aQ,reduceIte,ab hs (w:=[110,111,116]) rfl b0,ab hs (w:=[91]) rfl b0,lB p2,vN,pY,hd]
 |false=>
 cases P6:aM ts a [110,117,108,108] with
 |true=>
  have bo:=bx P6;cases hn:tq ts (a + 1) 1 with
  |true=>
   have bo:=jD hn;refine⟨.ok _ (a + 1 + 1) d (ns ++ [(34,pl ts en a,0,(tk ts (a + 1)).2.2.1,[])]),kB (by omega) (by omega) (by omega) (List.prefix_refl _) p4 (rZ rfl (by decide)) rfl (by simp [jA]),Ev.succ (Ev.of fun k=>⟨?_,?_⟩)⟩
   ·simp only [go_sem,tY,jQ,cv,am,aR,reduceIte,bN b1,aI b0,hU bn,vN,pY,P6,hn]
   ·simp only [go_sem,KY,jW,dy,bh,aQ,reduceIte,ab hs (w:=[110,111,116]) rfl b0,ab hs (w:=[91]) rfl b0,ab hs (w:=[110,117,108,108]) rfl b0,cW b1,dQ bn,vN,pY,P6,hn]
  |false=>
   refine⟨.er 6 (pl ts en (a + 1)),(show(6:Int)≠0 by decide),Ev.succ (Ev.of fun k=>⟨?_,0,a + 1,ns,d,?_⟩)⟩
   ·simp only [go_sem,tY,jQ,cv,am,aR,reduceIte,bN b1,aI b0,vN,pY,P6,hn]
   ·simp only [go_sem,jW,dy,bh,aQ,reduceIte,ab hs (w:=[110,111,116]) rfl b0,ab hs (w:=[91]) rfl b0,ab hs (w:=[110,117,108,108]) rfl b0,cW b1,ce (show(6:Int)≠0 by decide),vN,pY,P6,hn]
 |false=>
 obtain⟨r,hi,hr⟩:=AT (en:=en) hs zK;cases r with
 |er c p=>
  have hc:c≠0:=hi;refine⟨.er c p,hi,Ev.succ (hr.mono fun k e=>?_)⟩;obtain⟨e1,v,a',ep,d',e2⟩:=e;refine⟨?_,0,a',ep,d',?_⟩
  ·simp only [go_sem,tY,jQ,cv,am,aR,reduceIte,aI b0,vN,pY,P6,show aj k ts en (a:Int) (d:Int) ns 1=_ from e1]
  ·simp only [go_sem,jW,dy,bh,aQ,reduceIte,ab hs (w:=[110,111,116]) rfl b0,ab hs (w:=[91]) rfl b0,ab hs (w:=[110,117,108,108]) rfl b0,vN,pY,P6,show ao k ts (a:Int) en ns (d:Int) 0 0 1=_ from e2,Xh hc,SL,show Hi []=0 from rfl,eU hc]
 |ok x a1 d1 mH=>
  obtain⟨q1,q2,rfl,q3,q4,q5,q6,q7,q8,q9⟩:=hi;by_cases hz:Hi (sg ts a1)=0
  ·refine⟨.er 6 (pl ts en a1),(show(6:Int)≠0 by decide),Ev.succ ((hr.and (XV (tk ts a1).2.2.1)).mono fun k e=>⟨?_,0,a1,mH,d1,?_⟩)⟩
   ·by_cases bo:a1 < ts.length
    ·simp only [go_sem,tY,jQ,cv,aa,am,aR,reduceIte,aI b0,vN,pY,P6,show aj k ts en (a:Int) (d1:Int) ns 1=_ from e.1.1,Int.ofNat_lt,bo,bj (iq bo),e.2,Tq hs bo,hz,oY]
    ·simp only [go_sem,tY,jQ,cv,aa,am,aR,reduceIte,aI b0,vN,pY,P6,show aj k ts en (a:Int) (d1:Int) ns 1=_ from e.1.1,Int.ofNat_lt,bo,oY]
   ·simp only [go_sem,jW,dy,bh,aQ,reduceIte,ab hs (w:=[110,111,116]) rfl b0,ab hs (w:=[91]) rfl b0,ab hs (w:=[110,117,108,108]) rfl b0,vN,pY,P6,show ao k ts (a:Int) en ns (d1:Int) 0 0 1=_ from e.1.2,Gu,SL,hz,Jq]
  ·have bo:a1 < ts.length:=by
    by_cases h:a1 < ts.length
    ·exact h
    ·rw [T8 h] at hz;exact absurd rfl hz
   have P9:(Hi (sg ts a1) == 0)=false:=beq_eq_false_iff_ne.2 hz;obtain⟨r,gi,gr⟩:=AT (en:=en) hs (a:=a1 + 1) (d:=d1) (ns:=mH) ⟨by omega,p2,by omega,q5⟩
   cases r with
   |er c p=>
    have hc:c≠0:=gi;refine⟨.er c p,gi,Ev.succ (((hr.and (XV (tk ts a1).2.2.1)).and gr).mono fun k e=>?_)⟩;obtain⟨⟨⟨e1,e2⟩,e3⟩,e4,v,a',ep,d',e5⟩:=e;refine⟨?_,0,a',ep,d',?_⟩
    ·simp only [go_sem,tY,jQ,cv,aa,am,aR,reduceIte,aI b0,vN,pY,P6,show aj k ts en (a:Int) (d1:Int) ns 1=_ from e1,Int.ofNat_lt,bo,bj (iq bo),e3,Tq hs bo,P9,af (show a1 < _ by omega),show aj k ts en ((a1 + 1:Nat):Int) (d1:Int) mH 1=_ from e4]
    ·simp only [go_sem,jW,dy,bh,aQ,reduceIte,ab hs (w:=[110,111,116]) rfl b0,ab hs (w:=[91]) rfl b0,ab hs (w:=[110,117,108,108]) rfl b0,vN,pY,P6,show ao k ts (a:Int) en ns (d1:Int) 0 0 1=_ from e2,Gu,SL,P9,af (show a1 < _ by omega),show ao k ts ((a1 + 1:Nat):Int) en mH (d1:Int) 0 0 1=_ from e5,ce hc]
   |ok y a2 d2 pZ=>
    obtain⟨g1,g2,rfl,g3,g4,g5,g6,g7,g8,g9⟩:=gi;have Lq:pZ.length≤4000000:=by omega
    have xk:kd pZ x=kd mH x:=qd g4 q6 q7;have ql:=g4.length_le;refine⟨.ok _ a2 d2 (pZ ++ [(30,pl ts en a1,Hi (sg ts a1),[],[x,y])]),kB (by omega) (by omega) (by omega) (q4.trans g4) g5 ⟨by simp;omega,by simp [b9,xk,q8,g8],by simp⟩ rfl (by rw [xH,ri g4 q6 q7];omega),Ev.succ (((hr.and (XV (tk ts a1).2.2.1)).and gr).mono fun k e=>?_)⟩
    obtain⟨⟨⟨e1,e2⟩,e3⟩,e4,e5⟩:=e;refine⟨?_,?_⟩
    ·simp only [go_sem,tY,jQ,cv,aa,am,aR,reduceIte,aI b0,vN,pY,P6,show aj k ts en (a:Int) (d2:Int) ns 1=_ from e1,Int.ofNat_lt,bo,bj (iq bo),e3,Tq hs bo,P9,af (show a1 < _ by omega),show aj k ts en ((a1 + 1:Nat):Int) (d2:Int) mH 1=_ from e4,hU Lq]
    ·simp only [go_sem,KY,jW,dy,bh,aQ,reduceIte,ab hs (w:=[110,111,116]) rfl b0,ab hs (w:=[91]) rfl b0,ab hs (w:=[110,117,108,108]) rfl b0,vN,pY,P6,show ao k ts (a:Int) en ns (d2:Int) 0 0 1=_ from e2,Gu,SL,P9,af (show a1 < _ by omega),show ao k ts ((a1 + 1:Nat):Int) en mH (d2:Int) 0 0 1=_ from e5,dQ Lq]
theorem ac6(hs:oU ts):∀ m a,ts.length - a≤m→∀ a',a≤a'→∀ d ns,xj ts a' d ns→LaB ts en a' d ns∧CdB ts en a' d ns:=by
 intro m;induction m with
 |zero=>
  intro a hm a' ha d ns hp;have key:∀ a',a≤a'→∀ d ns,xj ts a' d ns→LaB ts en a' d ns:=fun a' ha d ns hp=>
   OF hs hp (fun a2 d2 pZ h2 p2=>by have:=p2.hi;have:=hp.hi;omega) (fun a2 d2 pZ h2 p2=>by have:=p2.hi;have:=hp.hi;omega)
  exact⟨key a' ha d ns hp,Oa hs hp fun a2 pZ h2 p2=>N7 hs p2 fun a3 K3 h3 p3=>key a3 (by omega) d K3 p3⟩
 |succ m ih=>
  intro a hm a' ha d ns hp;have key:∀ a',a≤a'→∀ d ns,xj ts a' d ns→LaB ts en a' d ns:=fun a' ha d ns hp=>
   OF hs hp (fun a2 d2 pZ h2 p2=>(ih (a + 1) (by omega) a2 (by omega) d2 pZ p2).1) (fun a2 d2 pZ h2 p2=>(ih (a + 1) (by omega) a2 (by omega) d2 pZ p2).2)
  exact⟨key a' ha d ns hp,Oa hs hp fun a2 pZ h2 p2=>N7 hs p2 fun a3 K3 h3 p3=>key a3 (by omega) d K3 p3⟩
theorem W2(hs:oU ts)(hp:xj ts a d ns):CdB ts en a d ns:=(ac6 hs _ a (Nat.le_refl _) a (Nat.le_refl _) d ns hp).2
end
end Go.Fx.R5
namespace Go.Fx.R5
open Go Go.Fx
def QR(P:Int→Nat→Nat→List eq→Prop):Res→Prop | .ok v a d ns=>P v a d ns | .er c _=>c≠0
def BS(P:Int→Nat→Nat→List eq→Prop)(i:Nat→IT)(s:Nat→ST):Prop:=∃ r,QR P r∧Ev fun k=>tY r (i k)∧KY r (s k)
def fA(c p:Int)(o:ST):Prop:=match o with | some (_,a,_,_,c',p',_)=>c' = c∧p' = p∧0≤a | none=>False
theorem fA.wa{c p:Int}{o:ST}(h:fA c p o):∃(v:Int) (a:Nat) (ns:List eq) (d:Int),o=some (v,(a:Int),ns,d,c,p,()):=by
 match o,h with
 |some (v,a,ns,d,c',p',u),h'=>obtain⟨rfl,rfl,h0⟩:=h';exact⟨v,a.toNat,ns,d,by rw [Int.toNat_of_nonneg h0]⟩
section
variable {P P1:Int→Nat→Nat→List eq→Prop} {i:Nat→IT} {s:Nat→ST} {c p:Int}
theorem BS.of{ts:List yQ}{C:Int→Bool}{s0 a d:Nat}{ns:List eq}(h:QZ ts C s0 a d ns i s):BS (xi ts C s0 a d ns) i s:=by obtain⟨r,hi,hr⟩:=h;exact⟨r,by cases r<;>exact hi,hr⟩
theorem BS.to{ts:List yQ}{C:Int→Bool}{s0 a d:Nat}{ns:List eq}(h:BS (xi ts C s0 a d ns) i s):QZ ts C s0 a d ns i s:=by obtain⟨r,hi,hr⟩:=h;exact⟨r,by cases r<;>exact hi,hr⟩
theorem BS.mono(h:BS P1 i s)(g:∀ v a d ns,P1 v a d ns→P v a d ns):BS P i s:=by
 obtain⟨r,hi,hr⟩:=h;refine⟨r,?_,hr⟩;cases r with
 |ok v a d ns=>exact g _ _ _ _ hi
 |er c p=>exact hi
theorem BS.succ(h:BS P (fun k=>i (k + 1)) (fun k=>s (k + 1))):BS P i s:=by obtain⟨r,hi,hr⟩:=h;exact⟨r,hi,Ev.succ hr⟩
theorem BS.ok{v:Int}{a d:Nat}{ns:List eq}(h:P v a d ns):BS P (fun _=>some (.inl (v,(a:Int),(d:Int),ns,()))) (fun _=>some (v,(a:Int),ns,(d:Int),0,0,())):=
 ⟨.ok v a d ns,h,Ev.of fun k=>⟨rfl,rfl⟩⟩
theorem BS.er(hc:c≠0)(h:Ev fun k=>i k=some (.inr (c,p,()))∧fA c p (s k)):BS P i s:=
 ⟨.er c p,hc,h.mono fun _ e=>⟨e.1,e.2.wa⟩⟩
theorem BS.bind{f:Nat→(Int×Int×Int×List eq×Unit)⊕(Int×Int×Unit)→IT}{g:Nat→Int×Int×List eq×Int×Int×Int×Unit→ST}(h:BS P1 i s)
  (hok:∀(v:Int) (a d:Nat) (ns:List eq),P1 v a d ns→BS P (fun k=>f k (.inl (v,(a:Int),(d:Int),ns,()))) (fun k=>g k (v,(a:Int),ns,(d:Int),0,0,())))
  (her:∀ c p:Int,c≠0→Ev fun k=>∀(v:Int) (a:Nat) (ns:List eq) (d:Int),f k (.inr (c,p,()))=some (.inr (c,p,()))∧fA c p (g k (v,(a:Int),ns,d,c,p,()))):
  BS P (fun k=>(i k).bind (f k)) (fun k=>(s k).bind (g k)):=by
 obtain⟨r,hi,hr⟩:=h;cases r with
 |ok v a d ns=>obtain⟨r2,hi2,hr2⟩:=hok v a d ns hi;refine⟨r2,hi2,(hr.and hr2).mono fun k e=>?_⟩;obtain⟨⟨e1,e2⟩,e3⟩:=e;have e1:i k=_:=e1;have e2:s k=_:=e2;simpa only [e1,e2,Option.bind_some] using e3
 |er c p=>refine BS.er (p:=p) hi ((hr.and (her c p hi)).mono fun k e=>?_);obtain⟨⟨e1,v,a,ns,d,e2⟩,e3⟩:=e;have e1:i k=_:=e1;simp only [go_sem,e1,e2];exact e3 v a ns d
end
section
variable {ts:List yQ} {en:Int} {c p:Int} {a d:Nat} {ns:List eq}
theorem sK(h:a < ts.length):pl ts en a=(tk ts a).2.1:=by simp only [pl,iq h]
def stp(ts:List yQ)(C:Int→Bool)(s a d:Nat)(ns:List eq):=xi ts C s a d ns
theorem ff(hc:c≠0):Ev fun k=>(∀(a:Nat) (ns:List eq) (d:Int),ao k ts (a:Int) en ns d c p 1=some (0,(a:Int),ns,d,c,p,()))∧
  (∀(a:Nat) (ns:List eq) (d:Int),dR k ts (a:Int) en ns d c p=some (0,(a:Int),ns,d,c,p,())):=
 (fl1 hc).and (Xg hc)
theorem ff1(hc:c≠0):Ev fun k=>∃ j,k=j + 1∧(∀(a:Nat) (ns:List eq) (d:Int),ao (j + 1) ts (a:Int) en ns d c p 1=some (0,(a:Int),ns,d,c,p,()))∧
  (∀(a:Nat) (ns:List eq) (d:Int),dR (j + 1) ts (a:Int) en ns d c p=some (0,(a:Int),ns,d,c,p,())):=
 ((ff hc).and ⟨1,fun k hk=>hk⟩).mono fun k e=>⟨k - 1,by omega,by rw [show k - 1 + 1=k by omega];exact e.1⟩
theorem EY(hs:oU ts)(hp:xj ts a d ns):BS (xi ts Aq 1 a d ns) (fun k=>aj k ts en (a:Int) (d:Int) ns 1) (fun k=>ao k ts (a:Int) en ns (d:Int) 0 0 1):=BS.of (AT hs hp)
theorem WC(hs:oU ts)(hp:xj ts a d ns):BS (xi ts sW 1 a d ns) (fun k=>dK k ts en (a:Int) (d:Int) ns) (fun k=>dR k ts (a:Int) en ns (d:Int) 0 0):=BS.of (W2 hs hp)
inductive Nk | ok (l:XI) (a:Nat) (ns:List eq) | er (c p:Int)
structure iO(C:Int→Bool)(ns:List eq)(l:XI):Prop where
 v:∀ j∈l,0≤j∧j < (ns.length:Int)
 c:∀ j∈l,C (kd ns j)=true
theorem iO.up{C:Int→Bool}{ns ep:List eq}{l:XI}(h:iO C ns l)(hp:ns <+: ep):iO C ep l:=by
 have:=hp.length_le;refine⟨fun j hj=>?_,fun j hj=>?_⟩
 ·have:=h.v j hj;omega
 ·have:=h.v j hj
  rw [qd hp this.1 this.2];exact h.c j hj
theorem iO.add{C:Int→Bool}{ns:List eq}{l:XI}{v:Int}(h:iO C ns l)(h0:0≤v)(h1:v < ns.length)(hc:C (kd ns v)=true):iO C ns (l ++ [v]):=by
 refine⟨fun j hj=>?_,fun j hj=>?_⟩
 ·rcases List.mem_append.1 hj with hj | hj
  ·exact h.v j hj
  ·rw [List.mem_singleton.1 hj];exact⟨h0,h1⟩
 ·rcases List.mem_append.1 hj with hj | hj
  ·exact h.c j hj
  ·rw [List.mem_singleton.1 hj];exact hc
theorem iO.nil{C:Int→Bool}{ns:List eq}:iO C ns []:=⟨by simp,by simp⟩
theorem cq{l:XI}{v:Int}(h:l.length≤4000000):lq l [v]=some (l ++ [v]):=p6 (by simp;omega)
def XY(u:XI)(r:Nk)(d:Int)(o:Option ((XI×Int×Int×List eq×Unit)⊕(Int×Int×Unit))):Prop:=match r with
 |.ok l a ns=>o=some (.inl (u ++ l,(a:Int),d,ns,()))
 |.er c p=>o=some (.inr (c,p,()))
def ND(u:XI)(r:Nk)(d:Int)(o:Option (Int×List eq×Int×Int×Int×XI×Unit)):Prop:=match r with
 |.ok l a ns=>o=some ((a:Int),ns,d,0,0,u ++ l,())
 |.er c p=>∃(l:XI) (a:Nat) (ns:List eq) (d:Int),o=some ((a:Int),ns,d,c,p,l,())
def p7(ts:List yQ)(en:Int)(w:an):Nk→Nk
 |.ok l a ns=>if aM ts a w=true then .ok l a ns else .er 6 (pl ts en a)
 |.er c p=>.er c p
structure LOk(ts:List yQ)(C:Int→Bool)(a:Nat)(ns:List eq)(n w0:Nat)(l':XI)(a':Nat)(ep:List eq):Prop where
 lo:a≤a'
 hi:a'≤ts.length
 ln:ep.length + 2 * a≤ns.length + 2 * a'
 pre:ns <+: ep
 all:jl ep
 cB:iO C ep l'
 len:l'.length + a≤n + a'
 w:jA ep l' + ns.length≤ep.length + w0
def Nj(ts:List yQ)(C:Int→Bool)(a:Nat)(ns:List eq)(n w0:Nat):Nk→Prop
 |.ok l' a' ep=>LOk ts C a ns n w0 l' a' ep
 |.er c _=>c≠0
theorem Nj.from{C:Int→Bool}{a a1 n n1 w0 w1:Nat}{ns mH:List eq}{r:Nk}(h:Nj ts C a1 mH n1 w1 r)(lo:a≤a1)(ln:mH.length + 2 * a≤ns.length + 2 * a1)(pre:ns <+: mH)(hn:n1 + a≤n + a1)(hw:w1 + ns.length≤mH.length + w0):Nj ts C a ns n w0 r:=by
 cases r with
 |er c p=>exact h
 |ok l' a' ep=>obtain⟨h1,h2,h3,h4,h5,h6,h7,h8⟩:=h;exact⟨by omega,h2,by omega,pre.trans h4,h5,h6,by omega,by omega⟩
theorem VB(hs:oU ts){u:Int}(hd:d≤10):∀ m a (ns:List eq) (l:XI),ts.length - a≤m→xj ts a d ns→iO Aq ns l→1≤l.length→l.length≤1 + a→
  ∃ r,Nj ts Aq a ns l.length (jA ns l) r∧co fun q k=>XY [u] r d (cV q k ts en (u :: l) (a:Int) (d:Int) ns)∧
   ND [u] (p7 ts en [41] r) d (bw q k ts en (a:Int) ns (d:Int) 0 0 (u :: l)):=by
 have h7:=hs.len;intro m;induction m with
 |zero=>
  intro a ns l hm hp hk hl hl2;have E8:aM ts a [44]=false:=by
   cases h:aM ts a [44] with
   |false=>rfl
   |true=>have:=bx h;omega
  have ma:aM ts a [41]=false:=by
   cases h:aM ts a [41] with
   |false=>rfl
   |true=>have:=bx h;omega
  have b0:a≤4000000000000000000:=by have:=hp.hi;omega
  have bl:((u :: l).length:Int) > 1:=by simp;omega
  have bk:(u :: l).length≤4000000:=by have:=hp.hi;simp;omega
  refine⟨.ok l a ns,⟨by omega,hp.hi,by omega,List.prefix_refl _,hp.all,hk,by omega,by omega⟩,co.succ (co.succ ((fl1 (ts:=ts) (en:=en) (c:=6) (p:=pl ts en a) (by decide)).tX.mono fun q k e=>⟨?_,?_⟩))⟩
  ·simp only [go_sem,XY,List.cons_append,List.nil_append,cV,aI b0,E8,reduceIte]
  ·simp only [go_sem,p7,ma,reduceIte]
   refine⟨u :: (l ++ [0]),a,ns,d,?_⟩;rw [bw];simp only [go_sem,aa,bZ hs (w:=[41]) rfl,ma,bl,ai hs (w:=[44]) rfl b0,E8,reduceIte,e,cq bk];rw [bw];simp only [go_sem,aa,show((6:Int) == 0)=false from rfl,List.cons_append]
 |succ m ih=>
  intro a ns l hm hp hk hl hl2;obtain⟨p1,p2,p3,p4⟩:=hp;have b0:a≤4000000000000000000:=by omega
  have bl:((u :: l).length:Int) > 1:=by simp;omega
  have bk:(u :: l).length≤4000000:=by simp;omega
  have bk1:l.length≤4000000:=by omega
  cases E8:aM ts a [44] with
  |true=>
   have ma:aM ts a [41]=false:=aC E8 rfl;have bo:=bx E8;obtain⟨r,hi,hr⟩:=AT (en:=en) hs (a:=a + 1) (d:=d) (ns:=ns) ⟨by omega,p2,by omega,p4⟩
   cases r with
   |er c p=>
    have hc:c≠0:=hi;refine⟨.er c p,hi,co.succ (co.succ (hr.tX.mono fun q k e=>?_))⟩;obtain⟨e1,v,a',ep,d',e2⟩:=e;refine⟨?_,u :: (l ++ [v]),a',ep,d',?_⟩
    ·simp only [go_sem,XY,List.cons_append,List.nil_append,cV,aI b0,E8,reduceIte,show aj q ts en ((a + 1:Nat):Int) (d:Int) ns 1=_ from e1]
    ·rw [bw]
     simp only [go_sem,aa,bZ hs (w:=[41]) rfl,ma,bl,ai hs (w:=[44]) rfl b0,E8,reduceIte,show ao q ts ((a + 1:Nat):Int) en ns (d:Int) 0 0 1=_ from e2,cq bk]
     rw [bw];simp only [go_sem,aa,beq_eq_false_iff_ne.2 hc,List.cons_append]
   |ok v a1 d1 mH=>
    obtain⟨q1,q2,rfl,q3,q4,q5,q6,q7,q8,q9⟩:=hi;obtain⟨r,gi,gr⟩:=ih a1 mH (l ++ [v]) (by omega) ⟨q2,p2,by omega,q5⟩ ((hk.up q4).add q6 q7 q8) (by simp) (by simp;omega)
    refine⟨r,gi.from (by omega) (by omega) q4 (by simp;omega) (by rw [qe,oJ,pz q4 hk.v];omega),co.succ ((hr.tX.and gr).mono fun q k e=>?_)⟩
    obtain⟨⟨e1,e2⟩,e3,e4⟩:=e;refine⟨?_,?_⟩
    ·simp only [go_sem,cV,aI b0,E8,reduceIte,show aj q ts en ((a + 1:Nat):Int) (d1:Int) ns 1=_ from e1,cq bk,List.cons_append]
     exact e3
    ·simp only [go_sem,bw,aa,bZ hs (w:=[41]) rfl,ma,bl,ai hs (w:=[44]) rfl b0,E8,reduceIte,show ao q ts ((a + 1:Nat):Int) en ns (d1:Int) 0 0 1=_ from e2,cq bk,List.cons_append]
     exact e4
  |false=>
   cases ma:aM ts a [41] with
   |true=>
    refine⟨.ok l a ns,⟨by omega,p1,by omega,List.prefix_refl _,p4,hk,by omega,by omega⟩,co.succ (co.of fun q k=>⟨?_,?_⟩)⟩
    ·simp only [go_sem,XY,List.cons_append,List.nil_append,cV,aI b0,E8,reduceIte]
    ·simp only [go_sem,p7,ma,reduceIte,ND,List.cons_append,List.nil_append,bw,aa,bZ hs (w:=[41]) rfl]
   |false=>
    refine⟨.ok l a ns,⟨by omega,p1,by omega,List.prefix_refl _,p4,hk,by omega,by omega⟩,co.succ (co.succ ((fl1 (ts:=ts) (en:=en) (c:=6) (p:=pl ts en a) (by decide)).tX.mono fun q k e=>⟨?_,?_⟩))⟩
    ·simp only [go_sem,XY,List.cons_append,List.nil_append,cV,aI b0,E8,reduceIte]
    ·simp only [go_sem,p7,ma,reduceIte]
     refine⟨u :: (l ++ [0]),a,ns,d,?_⟩;rw [bw];simp only [go_sem,aa,bZ hs (w:=[41]) rfl,ma,bl,ai hs (w:=[44]) rfl b0,E8,reduceIte,e,cq bk];rw [bw];simp only [go_sem,aa,show((6:Int) == 0)=false from rfl,List.cons_append]
end
end Go.Fx.R5
namespace Go.Fx.R5
open Go Go.Fx
section
variable {ts:List yQ} {en:Int} {a d:Nat} {ns:List eq}
theorem afF{k:Int}(h1:9≤k)(h2:k≤22):NE k=true:=by simp [NE,h1,h2]
theorem Y0(hs:oU ts)(hp:xj ts a d ns)(hn:tq ts a 1=true):BS (xi ts NE 1 a d ns) (fun k=>cm k ts en (a:Int) (d:Int) ns) (fun k=>dX k ts (a:Int) en ns (d:Int) 0 0):=by
 have h7:=hs.len;obtain⟨p1,p2,p3,p4⟩:=hp;have bo:=jD hn;have uw:pl ts en a=(tk ts a).2.1:=sK bo;have b0:a≤4000000000000000000:=by omega
 have b1:a + 1≤4000000000000000000:=by omega
 have b2:a + 1 + 1≤4000000000000000000:=by omega
 have b3:a + 1 + 1 + 1≤4000000000000000000:=by omega
 have b4:a + 1 + 1 + 1 + 1≤4000000000000000000:=by omega
 have bn:ns.length≤4000000:=by omega
 cases pY:aM ts (a + 1) [91] with
 |true=>
  have hl0:=bx pY;simp only [go_sem,cm,dX,aa,am,aR,bh,aQ,Option.bind_assoc,reduceIte,bN b0,hn,aI b1,cW b0,uw,ab hs (w:=[91]) rfl b1,ab hs (w:=[43,61]) rfl b1,ai hs (w:=[61]) rfl b1,pY,show aM ts (a + 1) [61]=false from aC pY rfl,show aM ts (a + 1) [43,61]=false from aC pY rfl]
  refine BS.bind (EY hs (a:=a + 1 + 1) ⟨by omega,p2,by omega,p4⟩) (fun x1 a1 d1 mH g1=>?_) (fun c p hc=>(ff (ts:=ts) (en:=en) (p:=p) hc).mono fun k e v a' ep d'=>⟨rfl,by simp only [go_sem,fA,cN hc,dH hc,lz hc,fk hc,dU hc,ce hc,eI hc,eU hc,jq hc,bh,aa,e.1,e.2,true_and,and_self,Int.natCast_nonneg]⟩)
  obtain⟨q11,q12,rfl,q13,KF,NW,OX,OY,Ng,q19⟩:=g1;have c1:a1≤4000000000000000000:=by omega
  have Nl:a1 + 1≤4000000000000000000:=by omega
  have m1:mH.length≤4000000:=by omega
  cases h1:aM ts (a1) [93] with
  |false=>simp only [go_sem,aL c1,ai hs (w:=[93]) rfl c1,h1,aa,am,aR,bh,aQ,Option.bind_assoc,reduceIte];exact BS.er (c:=6) (p:=pl ts en (a1)) (by decide) ((ff (ts:=ts) (en:=en) (c:=6) (p:=pl ts en (a1)) (by decide)).mono fun k e=>⟨rfl,by have hc:(6:Int)≠0:=(by decide);simp only [go_sem,fA,cN hc,dH hc,lz hc,fk hc,dU hc,ce hc,eI hc,eU hc,jq hc,bh,aa,e.1,e.2,true_and,and_self,Int.natCast_nonneg]⟩)
  |true=>
  have VY:=bx h1;simp only [go_sem,aL c1,ai hs (w:=[93]) rfl c1,h1,aa,am,aR,bh,aQ,Option.bind_assoc,reduceIte];cases h2:aM ts (a1 + 1) [61] with
  |false=>simp only [go_sem,aL Nl,ai hs (w:=[61]) rfl Nl,h2,aa,am,aR,bh,aQ,Option.bind_assoc,reduceIte];exact BS.er (c:=6) (p:=pl ts en (a1 + 1)) (by decide) ((ff (ts:=ts) (en:=en) (c:=6) (p:=pl ts en (a1 + 1)) (by decide)).mono fun k e=>⟨rfl,by have hc:(6:Int)≠0:=(by decide);simp only [go_sem,fA,cN hc,dH hc,lz hc,fk hc,dU hc,ce hc,eI hc,eU hc,jq hc,bh,aa,e.1,e.2,true_and,and_self,Int.natCast_nonneg]⟩)
  |true=>
  have RQ:=bx h2;simp only [go_sem,aL Nl,ai hs (w:=[61]) rfl Nl,h2,aa,am,aR,bh,aQ,Option.bind_assoc,reduceIte];refine BS.bind (EY hs (a:=a1 + 1 + 1) ⟨by omega,p2,by omega,NW⟩) (fun x2 a2 d2 pZ g2=>?_) (fun c p hc=>(ff (ts:=ts) (en:=en) (p:=p) hc).mono fun k e v a' ep d'=>⟨rfl,by simp only [go_sem,fA,cN hc,dH hc,lz hc,fk hc,dU hc,ce hc,eI hc,eU hc,jq hc,bh,aa,e.1,e.2,true_and,and_self,Int.natCast_nonneg]⟩)
  obtain⟨q21,q22,rfl,q23,MP,q25,q26,q27,q28,q29⟩:=g2;have c2:a2≤4000000000000000000:=by omega
  have c21:a2 + 1≤4000000000000000000:=by omega
  have m2:pZ.length≤4000000:=by omega
  cases h3:aM ts (a2) [59] with
  |false=>simp only [go_sem,aL c2,ai hs (w:=[59]) rfl c2,h3,aa,am,aR,bh,aQ,Option.bind_assoc,reduceIte];exact BS.er (c:=6) (p:=pl ts en (a2)) (by decide) ((ff (ts:=ts) (en:=en) (c:=6) (p:=pl ts en (a2)) (by decide)).mono fun k e=>⟨rfl,by have hc:(6:Int)≠0:=(by decide);simp only [go_sem,fA,cN hc,dH hc,lz hc,fk hc,dU hc,ce hc,eI hc,eU hc,jq hc,bh,aa,e.1,e.2,true_and,and_self,Int.natCast_nonneg]⟩)
  |true=>
  have ae0:=bx h3;simp only [go_sem,aL c2,ai hs (w:=[59]) rfl c2,h3,aa,am,aR,bh,aQ,Option.bind_assoc,reduceIte];simp only [go_sem,hU m2,dQ m2];exact BS.ok (kB (by omega) (by omega) (by omega) (KF.trans MP) q25 ⟨by simp;have:=MP.length_le;omega,by simp [b9,Ng,q28,qd MP OX OY],by simp⟩ rfl (by rw [xH,ri MP OX OY];omega))
 |false=>
 cases vF:aM ts (a + 1) [43,61] with
 |true=>
  have hl0:=bx vF;simp only [go_sem,cm,dX,aa,am,aR,bh,aQ,Option.bind_assoc,reduceIte,bN b0,hn,aI b1,cW b0,uw,ab hs (w:=[91]) rfl b1,ab hs (w:=[43,61]) rfl b1,ai hs (w:=[61]) rfl b1,pY,vF,show aM ts (a + 1) [61]=false from aC vF rfl]
  refine BS.bind (EY hs (a:=a + 1 + 1) ⟨by omega,p2,by omega,p4⟩) (fun x1 a1 d1 mH g1=>?_) (fun c p hc=>(ff (ts:=ts) (en:=en) (p:=p) hc).mono fun k e v a' ep d'=>⟨rfl,by simp only [go_sem,fA,cN hc,dH hc,lz hc,fk hc,dU hc,ce hc,eI hc,eU hc,jq hc,bh,aa,e.1,e.2,true_and,and_self,Int.natCast_nonneg]⟩)
  obtain⟨q11,q12,rfl,q13,KF,NW,OX,OY,Ng,q19⟩:=g1;have c1:a1≤4000000000000000000:=by omega
  have Nl:a1 + 1≤4000000000000000000:=by omega
  have m1:mH.length≤4000000:=by omega
  cases h1:aM ts (a1) [59] with
  |false=>simp only [go_sem,aL c1,ai hs (w:=[59]) rfl c1,h1,aa,am,aR,bh,aQ,Option.bind_assoc,reduceIte];exact BS.er (c:=6) (p:=pl ts en (a1)) (by decide) ((ff (ts:=ts) (en:=en) (c:=6) (p:=pl ts en (a1)) (by decide)).mono fun k e=>⟨rfl,by have hc:(6:Int)≠0:=(by decide);simp only [go_sem,fA,cN hc,dH hc,lz hc,fk hc,dU hc,ce hc,eI hc,eU hc,jq hc,bh,aa,e.1,e.2,true_and,and_self,Int.natCast_nonneg]⟩)
  |true=>
  have VY:=bx h1;simp only [go_sem,aL c1,ai hs (w:=[59]) rfl c1,h1,aa,am,aR,bh,aQ,Option.bind_assoc,reduceIte];simp only [go_sem,hU m1,dQ m1];exact BS.ok (kB (by omega) (by omega) (by omega) KF NW ⟨by simp;omega,by simpa [b9] using Ng,by simp⟩ rfl (by rw [oJ];exact q19))
 |false=>
 cases Ox:aM ts (a + 1) [61] with
 |false=>simp only [go_sem,cm,dX,aa,am,aR,bh,aQ,Option.bind_assoc,reduceIte,bN b0,hn,aI b1,cW b0,uw,ab hs (w:=[91]) rfl b1,ab hs (w:=[43,61]) rfl b1,ai hs (w:=[61]) rfl b1,pY,vF,Ox,oY];exact BS.er (c:=6) (p:=pl ts en (a + 1)) (by decide) ((ff (ts:=ts) (en:=en) (c:=6) (p:=pl ts en (a + 1)) (by decide)).mono fun k e=>⟨rfl,by have hc:(6:Int)≠0:=(by decide);simp only [go_sem,fA,cN hc,dH hc,lz hc,fk hc,dU hc,ce hc,eI hc,eU hc,jq hc,bh,aa,e.1,e.2,true_and,and_self,Int.natCast_nonneg,beq_eq_false_iff_ne.2 hc]⟩)
 |true=>
 have hl0:=bx Ox;cases PW:aM ts (a + 1 + 1) [38] with
 |true=>
  have hl1:=bx PW;cases hu:tq ts (a + 1 + 1 + 1) 1 with
  |false=>simp only [go_sem,cm,ee,dX,aa,am,aR,bh,aQ,Option.bind_assoc,reduceIte,bN b0,hn,aI b1,aI b2,cW b0,uw,ab hs (w:=[91]) rfl b1,ab hs (w:=[43,61]) rfl b1,ai hs (w:=[61]) rfl b1,ab hs (w:=[38]) rfl b2,pY,vF,Ox,PW,fP b3 bn,hu,nK,cW b3];exact BS.er (c:=6) (p:=pl ts en (a + 1 + 1 + 1)) (by decide) ((ff (ts:=ts) (en:=en) (c:=6) (p:=pl ts en (a + 1 + 1 + 1)) (by decide)).mono fun k e=>⟨rfl,by have hc:(6:Int)≠0:=(by decide);simp only [go_sem,fA,cN hc,dH hc,lz hc,fk hc,dU hc,ce hc,eI hc,eU hc,jq hc,bh,aa,e.1,e.2,true_and,and_self,Int.natCast_nonneg]⟩)
  |true=>
  have hl2:=jD hu;simp only [go_sem,cm,ee,dX,aa,am,aR,bh,aQ,Option.bind_assoc,reduceIte,bN b0,hn,aI b1,aI b2,cW b0,uw,ab hs (w:=[91]) rfl b1,ab hs (w:=[43,61]) rfl b1,ai hs (w:=[61]) rfl b1,ab hs (w:=[38]) rfl b2,pY,vF,Ox,PW,fP b3 bn,hu,JP b3 bn hu,sK hl2];cases h1:aM ts (a + 1 + 1 + 1 + 1) [91] with
  |false=>simp only [go_sem,aL b4,ai hs (w:=[91]) rfl b4,h1,aa,am,aR,bh,aQ,Option.bind_assoc,reduceIte];exact BS.er (c:=6) (p:=pl ts en (a + 1 + 1 + 1 + 1)) (by decide) ((ff (ts:=ts) (en:=en) (c:=6) (p:=pl ts en (a + 1 + 1 + 1 + 1)) (by decide)).mono fun k e=>⟨rfl,by have hc:(6:Int)≠0:=(by decide);simp only [go_sem,fA,cN hc,dH hc,lz hc,fk hc,dU hc,ce hc,eI hc,eU hc,jq hc,bh,aa,e.1,e.2,true_and,and_self,Int.natCast_nonneg]⟩)
  |true=>
  have VY:=bx h1;simp only [go_sem,aL b4,ai hs (w:=[91]) rfl b4,h1,aa,am,aR,bh,aQ,Option.bind_assoc,reduceIte];have hx:jl (ns ++ [(23,(tk ts (a + 1 + 1 + 1)).2.1,0,(tk ts (a + 1 + 1 + 1)).2.2.1,[])]):=p4.add (rZ rfl (by decide))
  refine BS.bind (EY hs (a:=a + 1 + 1 + 1 + 1 + 1) ⟨by omega,p2,by simp;omega,hx⟩) (fun x1 a1 d1 mH g1=>?_) (fun c p hc=>(ff (ts:=ts) (en:=en) (p:=p) hc).mono fun k e v a' ep d'=>⟨rfl,by simp only [go_sem,fA,cN hc,dH hc,lz hc,fk hc,dU hc,ce hc,eI hc,eU hc,jq hc,bh,aa,e.1,e.2,true_and,and_self,Int.natCast_nonneg]⟩)
  obtain⟨q11,q12,rfl,q13,KF,NW,OX,OY,Ng,q19⟩:=g1;simp only [List.length_append,List.length_cons,List.length_nil] at q13 q19;have c1:a1≤4000000000000000000:=by omega
  have Nl:a1 + 1≤4000000000000000000:=by omega
  have m1:mH.length≤4000000:=by omega
  cases h2:aM ts (a1) [93] with
  |false=>simp only [go_sem,aL c1,ai hs (w:=[93]) rfl c1,h2,aa,am,aR,bh,aQ,Option.bind_assoc,reduceIte];exact BS.er (c:=6) (p:=pl ts en (a1)) (by decide) ((ff (ts:=ts) (en:=en) (c:=6) (p:=pl ts en (a1)) (by decide)).mono fun k e=>⟨rfl,by have hc:(6:Int)≠0:=(by decide);simp only [go_sem,fA,cN hc,dH hc,lz hc,fk hc,dU hc,ce hc,eI hc,eU hc,jq hc,bh,aa,e.1,e.2,true_and,and_self,Int.natCast_nonneg]⟩)
  |true=>
  have RQ:=bx h2;simp only [go_sem,aL c1,ai hs (w:=[93]) rfl c1,h2,aa,am,aR,bh,aQ,Option.bind_assoc,reduceIte];cases h3:aM ts (a1 + 1) [59] with
  |false=>simp only [go_sem,aL Nl,ai hs (w:=[59]) rfl Nl,h3,aa,am,aR,bh,aQ,Option.bind_assoc,reduceIte];exact BS.er (c:=6) (p:=pl ts en (a1 + 1)) (by decide) ((ff (ts:=ts) (en:=en) (c:=6) (p:=pl ts en (a1 + 1)) (by decide)).mono fun k e=>⟨rfl,by have hc:(6:Int)≠0:=(by decide);simp only [go_sem,fA,cN hc,dH hc,lz hc,fk hc,dU hc,ce hc,eI hc,eU hc,jq hc,bh,aa,e.1,e.2,true_and,and_self,Int.natCast_nonneg]⟩)
  |true=>
  have ae0:=bx h3;simp only [go_sem,aL Nl,ai hs (w:=[59]) rfl Nl,h3,aa,am,aR,bh,aQ,Option.bind_assoc,reduceIte];simp only [go_sem,hU m1,dQ m1];have jI:=KF.length_le;simp only [List.length_append,List.length_cons,List.length_nil] at jI;exact BS.ok (kB (by omega) (by omega) (by omega) ((List.prefix_append _ _).trans KF) NW ⟨by simp;omega,by simp [b9,Ng,qd KF (show(0:Int)≤(ns.length:Int) by omega) (by simp;omega),qG],by simp⟩ rfl (by rw [xH,ri KF (show(0:Int)≤(ns.length:Int) by omega) (by simp;omega),nN,yZ];omega))
 |false=>
 cases ma:(tq ts (a + 1 + 1) 1 && aM ts (a + 1 + 1 + 1) [40]) with
 |true=>
  obtain⟨hu,mi⟩:=Bool.and_eq_true_iff.1 ma;have hl1:=bx mi;have hx:jl (ns ++ [(23,(tk ts (a + 1 + 1)).2.1,0,(tk ts (a + 1 + 1)).2.2.1,[])]):=p4.add (rZ rfl (by decide))
  have b5:a + 1 + 1 + 1 + 1 + 1≤4000000000000000000:=by omega
  have nu:(ns ++ [(23,(tk ts (a + 1 + 1)).2.1,0,(tk ts (a + 1 + 1)).2.2.1,[])]).length≤4000000:=by simp;omega
  have ku:kd (ns ++ [(23,(tk ts (a + 1 + 1)).2.1,0,(tk ts (a + 1 + 1)).2.2.1,[])]) (ns.length:Int)=23:=qG;cases h1:aM ts (a + 1 + 1 + 1 + 1) [41] with
  |true=>
   have hl2:=bx h1;have hL:Ev fun k=>bw k k ts en ((a + 1 + 1 + 1 + 1:Nat):Int) (ns ++ [(23,(tk ts (a + 1 + 1)).2.1,0,(tk ts (a + 1 + 1)).2.2.1,[])]) (d:Int) 0 0 [(ns.length:Int)]=some (((a + 1 + 1 + 1 + 1:Nat):Int),(ns ++ [(23,(tk ts (a + 1 + 1)).2.1,0,(tk ts (a + 1 + 1)).2.2.1,[])]),(d:Int),0,0,[(ns.length:Int)],()):=
    co.jN (p2:=fun q k=>bw q k ts en ((a + 1 + 1 + 1 + 1:Nat):Int) (ns ++ [(23,(tk ts (a + 1 + 1)).2.1,0,(tk ts (a + 1 + 1)).2.2.1,[])]) (d:Int) 0 0 [(ns.length:Int)]=_) (co.succ (co.of fun q k=>by
     simp only [go_sem,bw,aa,bZ hs (w:=[41]) rfl,h1]))
   cases h2:aM ts (a + 1 + 1 + 1 + 1 + 1) [59] with
   |true=>
    have hl3:=bx h2;refine⟨.ok _ (a + 1 + 1 + 1 + 1 + 1 + 1) d ((ns ++ [(23,(tk ts (a + 1 + 1)).2.1,0,(tk ts (a + 1 + 1)).2.2.1,[])]) ++ [(22,(tk ts a).2.1,0,(tk ts a).2.2.1,[(ns.length:Int)])]),kB (by omega) (by omega) (by simp;omega) (List.prefix_append _ _) hx ⟨by simp;omega,by simp [b9,qG],by simp⟩ rfl (by rw [oJ,nN,yZ];simp;omega),hL.mono fun k e=>⟨?_,?_⟩⟩
    ·simp only [go_sem,tY,cm,ee,aa,am,aR,reduceIte,bN b0,hn,aI b1,aI b2,pY,vF,Ox,PW,hu,mi,yW b2,fP b2 bn,aL b3,aI b4,h1,aL b5,h2,hU nu]
    ·simp only [go_sem,KY,dX,aa,bh,aQ,reduceIte,cW b0,hn,uw,ab hs (w:=[91]) rfl b1,ab hs (w:=[43,61]) rfl b1,ai hs (w:=[61]) rfl b1,ab hs (w:=[38]) rfl b2,pY,vF,Ox,PW,hu,mi,DJ hs (w:=[40]) rfl b2,JP b2 bn hu,sK (jD hu),ai hs (w:=[40]) rfl b3,e,ai hs (w:=[41]) rfl b4,ai hs (w:=[59]) rfl b5,h1,h2,dQ nu]
   |false=>
    refine⟨.er 6 (pl ts en (a + 1 + 1 + 1 + 1 + 1)),show(6:Int)≠0 by decide,hL.mono fun k e=>⟨?_,0,a + 1 + 1 + 1 + 1 + 1,(ns ++ [(23,(tk ts (a + 1 + 1)).2.1,0,(tk ts (a + 1 + 1)).2.2.1,[])]),d,?_⟩⟩
    ·simp only [go_sem,tY,cm,ee,aa,am,aR,reduceIte,bN b0,hn,aI b1,aI b2,pY,vF,Ox,PW,hu,mi,yW b2,fP b2 bn,aL b3,aI b4,h1,aL b5,h2]
    ·simp only [go_sem,KY,dX,aa,bh,aQ,reduceIte,cW b0,hn,uw,ab hs (w:=[91]) rfl b1,ab hs (w:=[43,61]) rfl b1,ai hs (w:=[61]) rfl b1,ab hs (w:=[38]) rfl b2,pY,vF,Ox,PW,hu,mi,DJ hs (w:=[40]) rfl b2,JP b2 bn hu,sK (jD hu),ai hs (w:=[40]) rfl b3,e,ai hs (w:=[41]) rfl b4,ai hs (w:=[59]) rfl b5,h1,h2,ce (show(6:Int)≠0 by decide)]
  |false=>
  obtain⟨r,hi,hr⟩:=AT (en:=en) hs (a:=a + 1 + 1 + 1 + 1) (d:=d) (ns:=(ns ++ [(23,(tk ts (a + 1 + 1)).2.1,0,(tk ts (a + 1 + 1)).2.2.1,[])])) ⟨by omega,p2,by simp;omega,hx⟩
  cases r with
  |er c p=>
   have hc:c≠0:=hi;have hL:Ev fun k=>∃(a':Nat) (ep:List eq) (d':Int) (v:Int),bw k k ts en ((a + 1 + 1 + 1 + 1:Nat):Int) (ns ++ [(23,(tk ts (a + 1 + 1)).2.1,0,(tk ts (a + 1 + 1)).2.2.1,[])]) (d:Int) 0 0 [(ns.length:Int)]=some ((a':Int),ep,d',c,p,[(ns.length:Int),v],()):=
    co.jN (p2:=fun q k=>∃(a':Nat) (ep:List eq) (d':Int) (v:Int),bw q k ts en ((a + 1 + 1 + 1 + 1:Nat):Int) (ns ++ [(23,(tk ts (a + 1 + 1)).2.1,0,(tk ts (a + 1 + 1)).2.2.1,[])]) (d:Int) 0 0 [(ns.length:Int)]=some ((a':Int),ep,d',c,p,[(ns.length:Int),v],())) (co.succ (co.succ (hr.tX.mono fun q k e=>by
     obtain⟨_,v,a',ep,d',e2⟩:=e;refine⟨a',ep,d',v,?_⟩;rw [bw];simp only [go_sem,aa,bZ hs (w:=[41]) rfl,h1,List.length_cons,List.length_nil,show((((0 + 1:Nat):Int)) > 1)=False from by simp,show ao q ts ((a + 1 + 1 + 1 + 1:Nat):Int) en (ns ++ [(23,(tk ts (a + 1 + 1)).2.1,0,(tk ts (a + 1 + 1)).2.2.1,[])]) (d:Int) 0 0 1=_ from e2,cq (l:=[(ns.length:Int)]) (v:=v) (by simp),List.cons_append,List.nil_append]
     rw [bw];simp only [go_sem,aa,beq_eq_false_iff_ne.2 hc])))
   refine⟨.er c p,hi,(hr.and hL).mono fun k e=>?_⟩;obtain⟨⟨e1,_⟩,a',ep,d',v,e2⟩:=e;refine⟨?_,0,a',ep,d',?_⟩
   ·simp only [go_sem,tY,cm,ee,aa,am,aR,reduceIte,bN b0,hn,aI b1,aI b2,pY,vF,Ox,PW,hu,mi,yW b2,fP b2 bn,aL b3,aI b4,h1,show aj k ts en ((a + 1 + 1 + 1 + 1:Nat):Int) (d:Int) (ns ++ [(23,(tk ts (a + 1 + 1)).2.1,0,(tk ts (a + 1 + 1)).2.2.1,[])]) 1=_ from e1]
   ·simp only [go_sem,dX,aa,bh,aQ,reduceIte,cW b0,hn,uw,ab hs (w:=[91]) rfl b1,ab hs (w:=[43,61]) rfl b1,ai hs (w:=[61]) rfl b1,ab hs (w:=[38]) rfl b2,pY,vF,Ox,PW,hu,mi,DJ hs (w:=[40]) rfl b2,JP b2 bn hu,sK (jD hu),ai hs (w:=[40]) rfl b3,e2,cN hc,ce hc]
  |ok v a1 d1 mH=>
   obtain⟨q1,q2,rfl,q3,q4,q5,q6,q7,q8,q9⟩:=hi;simp only [List.length_append,List.length_cons,List.length_nil] at q3 q9;have jI:=q4.length_le;simp only [List.length_append,List.length_cons,List.length_nil] at jI;have ku1:kd mH (ns.length:Int)=23:=by rw [qd q4 (by omega) (by simp;omega),qG]
   obtain⟨r,gi,gr⟩:=VB (en:=en) hs (u:=(ns.length:Int)) p2 _ a1 mH [v] (Nat.le_refl _) ⟨q2,p2,by omega,q5⟩ ⟨by simp<;>omega,by simpa using q8⟩ (by simp) (by simp<;>omega)
   have hL:Ev fun k=>ND [(ns.length:Int)] (p7 ts en [41] r) d1 (bw k k ts en ((a + 1 + 1 + 1 + 1:Nat):Int) (ns ++ [(23,(tk ts (a + 1 + 1)).2.1,0,(tk ts (a + 1 + 1)).2.2.1,[])]) (d1:Int) 0 0 [(ns.length:Int)]):=
    co.jN (p2:=fun q k=>ND [(ns.length:Int)] (p7 ts en [41] r) d1 (bw q k ts en ((a + 1 + 1 + 1 + 1:Nat):Int) (ns ++ [(23,(tk ts (a + 1 + 1)).2.1,0,(tk ts (a + 1 + 1)).2.2.1,[])]) (d1:Int) 0 0 [(ns.length:Int)])) (co.succ ((hr.tX.and gr).mono fun q k e=>by
     obtain⟨⟨_,e2⟩,_,e4⟩:=e;simp only [go_sem,bw,aa,bZ hs (w:=[41]) rfl,h1,List.length_cons,List.length_nil,show((((0 + 1:Nat):Int)) > 1)=False from by simp,show ao q ts ((a + 1 + 1 + 1 + 1:Nat):Int) en (ns ++ [(23,(tk ts (a + 1 + 1)).2.1,0,(tk ts (a + 1 + 1)).2.2.1,[])]) (d1:Int) 0 0 1=_ from e2,cq (l:=[(ns.length:Int)]) (v:=v) (by simp),List.cons_append,List.nil_append]
     exact e4))
   have hE:=(hr.and gr.jN).and hL;cases r with
   |er c p=>
    have hc:c≠0:=gi;refine⟨.er c p,gi,hE.mono fun k e=>?_⟩;obtain⟨⟨⟨e1,_⟩,e3,_⟩,l,a',ep,d',e4⟩:=e;refine⟨?_,0,a',ep,d',?_⟩
    ·simp only [go_sem,tY,cm,ee,aa,am,aR,reduceIte,bN b0,hn,aI b1,aI b2,pY,vF,Ox,PW,hu,mi,yW b2,fP b2 bn,aL b3,aI b4,h1,show aj k ts en ((a + 1 + 1 + 1 + 1:Nat):Int) (d1:Int) (ns ++ [(23,(tk ts (a + 1 + 1)).2.1,0,(tk ts (a + 1 + 1)).2.2.1,[])]) 1=_ from e1,cq (l:=[(ns.length:Int)]) (v:=v) (by simp),List.cons_append,List.nil_append]
     simp only [go_sem,show cV k k ts en _ (a1:Int) (d1:Int) mH=_ from e3]
    ·simp only [go_sem,dX,aa,bh,aQ,reduceIte,cW b0,hn,uw,ab hs (w:=[91]) rfl b1,ab hs (w:=[43,61]) rfl b1,ai hs (w:=[61]) rfl b1,ab hs (w:=[38]) rfl b2,pY,vF,Ox,PW,hu,mi,DJ hs (w:=[40]) rfl b2,JP b2 bn hu,sK (jD hu),ai hs (w:=[40]) rfl b3,e4,cN hc,ce hc]
   |ok l a2 pZ=>
    obtain⟨g1,g2,g3,g4,g5,g6,g7,g8⟩:=gi;rw [oJ] at g8;have wu2:wt pZ (ns.length:Int)=1:=by rw [ri (q4.trans g4) (by omega) (by simp;omega),nN];rfl
    have c2:a2≤4000000000000000000:=by omega
    have c21:a2 + 1≤4000000000000000000:=by omega
    have m2:pZ.length≤4000000:=by omega
    have ku2:kd pZ (ns.length:Int)=23:=by rw [qd g4 (by omega) (by omega),ku1]
    have afI:=g4.length_le;cases h3:aM ts a2 [41] with
    |false=>
     refine⟨.er 6 (pl ts en a2),show(6:Int)≠0 by decide,hE.mono fun k e=>?_⟩
     obtain⟨⟨⟨e1,_⟩,e3,_⟩,e4⟩:=e;simp only [go_sem,p7,h3,reduceIte] at e4;obtain⟨l',a',ep,d',e4⟩:=e4;refine⟨?_,0,a',ep,d',?_⟩
     ·simp only [go_sem,tY,cm,ee,aa,am,aR,reduceIte,bN b0,hn,aI b1,aI b2,pY,vF,Ox,PW,hu,mi,yW b2,fP b2 bn,aL b3,aI b4,h1,show aj k ts en ((a + 1 + 1 + 1 + 1:Nat):Int) (d1:Int) (ns ++ [(23,(tk ts (a + 1 + 1)).2.1,0,(tk ts (a + 1 + 1)).2.2.1,[])]) 1=_ from e1,cq (l:=[(ns.length:Int)]) (v:=v) (by simp),List.cons_append,List.nil_append]
      simp only [go_sem,show cV k k ts en _ (a1:Int) (d1:Int) mH=_ from e3,aL c2,h3,reduceIte]
     ·simp only [go_sem,dX,aa,bh,aQ,reduceIte,cW b0,hn,uw,ab hs (w:=[91]) rfl b1,ab hs (w:=[43,61]) rfl b1,ai hs (w:=[61]) rfl b1,ab hs (w:=[38]) rfl b2,pY,vF,Ox,PW,hu,mi,DJ hs (w:=[40]) rfl b2,JP b2 bn hu,sK (jD hu),ai hs (w:=[40]) rfl b3,e4,cN (show(6:Int)≠0 by decide),ce (show(6:Int)≠0 by decide)]
    |true=>
    have hl3:=bx h3;cases h4:aM ts (a2 + 1) [59] with
    |false=>
     refine⟨.er 6 (pl ts en (a2 + 1)),show(6:Int)≠0 by decide,hE.mono fun k e=>?_⟩
     obtain⟨⟨⟨e1,_⟩,e3,_⟩,e4⟩:=e;simp only [p7,h3,reduceIte] at e4;refine⟨?_,0,a2 + 1,pZ,d1,?_⟩
     ·simp only [go_sem,tY,cm,ee,aa,am,aR,reduceIte,bN b0,hn,aI b1,aI b2,pY,vF,Ox,PW,hu,mi,yW b2,fP b2 bn,aL b3,aI b4,h1,show aj k ts en ((a + 1 + 1 + 1 + 1:Nat):Int) (d1:Int) (ns ++ [(23,(tk ts (a + 1 + 1)).2.1,0,(tk ts (a + 1 + 1)).2.2.1,[])]) 1=_ from e1,cq (l:=[(ns.length:Int)]) (v:=v) (by simp),List.cons_append,List.nil_append]
      simp only [go_sem,show cV k k ts en _ (a1:Int) (d1:Int) mH=_ from e3,aL c2,aL c21,h3,h4,reduceIte]
     ·simp only [go_sem,dX,aa,bh,aQ,reduceIte,cW b0,hn,uw,ab hs (w:=[91]) rfl b1,ab hs (w:=[43,61]) rfl b1,ai hs (w:=[61]) rfl b1,ab hs (w:=[38]) rfl b2,pY,vF,Ox,PW,hu,mi,DJ hs (w:=[40]) rfl b2,JP b2 bn hu,sK (jD hu),ai hs (w:=[40]) rfl b3,show bw k k ts en ((a + 1 + 1 + 1 + 1:Nat):Int) (ns ++ [(23,(tk ts (a + 1 + 1)).2.1,0,(tk ts (a + 1 + 1)).2.2.1,[])]) (d1:Int) 0 0 [(ns.length:Int)]=_ from e4,ai hs (w:=[41]) rfl c2,ai hs (w:=[59]) rfl c21,h3,h4,ce (show(6:Int)≠0 by decide)]
    |true=>
     have hl4:=bx h4;refine⟨.ok _ (a2 + 1 + 1) d1 (pZ ++ [(22,(tk ts a).2.1,0,(tk ts a).2.2.1,[(ns.length:Int)] ++ l)]),kB (by omega) (by omega) (by omega) ((List.prefix_append _ _).trans (q4.trans g4)) g5 ⟨?_,?_,by simp,by simp at g7 ⊢;omega⟩ rfl (by rw [qe,oJ,wu2];omega),hE.mono fun k e=>?_⟩
     ·intro j hj
      rcases List.mem_append.1 hj with hj | hj
      ·rw [List.mem_singleton.1 hj];omega
      ·exact g6.v j hj
     ·have:l.all (fun j=>Aq (kd pZ j))=true:=List.all_eq_true.2 g6.c
      simp [b9,ku2];simpa using this
     ·obtain⟨⟨⟨e1,_⟩,e3,_⟩,e4⟩:=e
      simp only [p7,h3,reduceIte] at e4;refine⟨?_,?_⟩
      ·simp only [go_sem,tY,cm,ee,aa,am,aR,reduceIte,bN b0,hn,aI b1,aI b2,pY,vF,Ox,PW,hu,mi,yW b2,fP b2 bn,aL b3,aI b4,h1,show aj k ts en ((a + 1 + 1 + 1 + 1:Nat):Int) (d1:Int) (ns ++ [(23,(tk ts (a + 1 + 1)).2.1,0,(tk ts (a + 1 + 1)).2.2.1,[])]) 1=_ from e1,cq (l:=[(ns.length:Int)]) (v:=v) (by simp),List.cons_append,List.nil_append]
       simp only [go_sem,show cV k k ts en _ (a1:Int) (d1:Int) mH=_ from e3,aL c2,aL c21,h3,h4,reduceIte,hU m2,List.cons_append,List.nil_append]
      ·simp only [go_sem,KY,dX,aa,bh,aQ,reduceIte,cW b0,hn,uw,ab hs (w:=[91]) rfl b1,ab hs (w:=[43,61]) rfl b1,ai hs (w:=[61]) rfl b1,ab hs (w:=[38]) rfl b2,pY,vF,Ox,PW,hu,mi,DJ hs (w:=[40]) rfl b2,JP b2 bn hu,sK (jD hu),ai hs (w:=[40]) rfl b3,show bw k k ts en ((a + 1 + 1 + 1 + 1:Nat):Int) (ns ++ [(23,(tk ts (a + 1 + 1)).2.1,0,(tk ts (a + 1 + 1)).2.2.1,[])]) (d1:Int) 0 0 [(ns.length:Int)]=_ from e4,ai hs (w:=[41]) rfl c2,ai hs (w:=[59]) rfl c21,h3,h4,dQ m2]
 |false=>
 cases P6:aM ts (a + 1 + 1) [110,117,108,108] with
 |true=>
  have hl1:=bx P6;have hk0:tq ts (a + 1 + 1) 1=false:=SO hs rfl (.inl rfl) P6;simp only [go_sem,cm,ee,dX,aa,am,aR,bh,aQ,Option.bind_assoc,reduceIte,bN b0,hn,aI b1,aI b2,cW b0,uw,ab hs (w:=[91]) rfl b1,ab hs (w:=[43,61]) rfl b1,ai hs (w:=[61]) rfl b1,ab hs (w:=[38]) rfl b2,pY,vF,Ox,PW,hk0,sk b2,bZ hs (w:=[110,117,108,108]) rfl,P6,hU bn,dQ bn,af (show a + 1 + 1 < _ by omega)]
  have hx:jl (ns ++ [(29,pl ts en (a + 1 + 1),0,[],[])]):=p4.add (rZ rfl (by decide))
  have nu:(ns ++ [(29,pl ts en (a + 1 + 1),0,[],[])]:List eq).length≤4000000:=by simp;omega
  cases h1:aM ts (a + 1 + 1 + 1) [59] with
  |false=>simp only [go_sem,aL b3,ai hs (w:=[59]) rfl b3,h1,aa,am,aR,bh,aQ,Option.bind_assoc,reduceIte];exact BS.er (c:=6) (p:=pl ts en (a + 1 + 1 + 1)) (by decide) ((ff (ts:=ts) (en:=en) (c:=6) (p:=pl ts en (a + 1 + 1 + 1)) (by decide)).mono fun k e=>⟨rfl,by have hc:(6:Int)≠0:=(by decide);simp only [go_sem,fA,cN hc,dH hc,lz hc,fk hc,dU hc,ce hc,eI hc,eU hc,jq hc,bh,aa,e.1,e.2,true_and,and_self,Int.natCast_nonneg]⟩)
  |true=>
  have VY:=bx h1;simp only [go_sem,aL b3,ai hs (w:=[59]) rfl b3,h1,aa,am,aR,bh,aQ,Option.bind_assoc,reduceIte];simp only [go_sem,hU nu,dQ nu];exact BS.ok (kB (by omega) (by omega) (by simp;omega) (List.prefix_append _ _) hx ⟨by simp;omega,by simp [b9,qG],by simp⟩ rfl (by rw [oJ,nN,yZ];simp;omega))
 |false=>
 have afa:(bif tq ts (a + 1 + 1) 1 then aM ts (a + 1 + 1 + 1) [40] else false)=false:=by rw [←ma];cases tq ts (a + 1 + 1) 1<;>rfl
 have pick:∀{α:Type} (f g:α),(bif tq ts (a + 1 + 1) 1 then(bif aM ts (a + 1 + 1 + 1) [40] then f else g) else g)=g:=fun f g=>by revert afa;cases tq ts (a + 1 + 1) 1<;>cases aM ts (a + 1 + 1 + 1) [40]<;>simp
 simp only [go_sem,cm,ee,dX,aa,am,aR,bh,aQ,Option.bind_assoc,reduceIte,bN b0,hn,aI b1,aI b2,cW b0,uw,ab hs (w:=[91]) rfl b1,ab hs (w:=[43,61]) rfl b1,ai hs (w:=[61]) rfl b1,ab hs (w:=[38]) rfl b2,pY,vF,Ox,PW,yW b2,DJ hs (w:=[40]) rfl b2,pick,sk b2,bZ hs (w:=[110,117,108,108]) rfl,P6];refine BS.bind (EY hs (a:=a + 1 + 1) ⟨by omega,p2,by omega,p4⟩) (fun x1 a1 d1 mH g1=>?_) (fun c p hc=>(ff (ts:=ts) (en:=en) (p:=p) hc).mono fun k e v a' ep d'=>⟨rfl,by simp only [go_sem,fA,cN hc,dH hc,lz hc,fk hc,dU hc,ce hc,eI hc,eU hc,jq hc,bh,aa,e.1,e.2,true_and,and_self,Int.natCast_nonneg]⟩)
 obtain⟨q11,q12,rfl,q13,KF,NW,OX,OY,Ng,q19⟩:=g1;have c1:a1≤4000000000000000000:=by omega
 have Nl:a1 + 1≤4000000000000000000:=by omega
 have m1:mH.length≤4000000:=by omega
 cases h1:aM ts (a1) [59] with
 |false=>simp only [go_sem,aL c1,ai hs (w:=[59]) rfl c1,h1,aa,am,aR,bh,aQ,Option.bind_assoc,reduceIte];exact BS.er (c:=6) (p:=pl ts en (a1)) (by decide) ((ff (ts:=ts) (en:=en) (c:=6) (p:=pl ts en (a1)) (by decide)).mono fun k e=>⟨rfl,by have hc:(6:Int)≠0:=(by decide);simp only [go_sem,fA,cN hc,dH hc,lz hc,fk hc,dU hc,ce hc,eI hc,eU hc,jq hc,bh,aa,e.1,e.2,true_and,and_self,Int.natCast_nonneg]⟩)
 |true=>
 have VY:=bx h1;simp only [go_sem,aL c1,ai hs (w:=[59]) rfl c1,h1,aa,am,aR,bh,aQ,Option.bind_assoc,reduceIte];simp only [go_sem,hU m1,dQ m1];exact BS.ok (kB (by omega) (by omega) (by omega) KF NW ⟨by simp;omega,by simp [b9,Ng],by simp⟩ rfl (by rw [oJ];exact q19))
end
end Go.Fx.R5
namespace Go.Fx.R5
open Go Go.Fx
section
theorem BS.up{P:Int→Nat→Nat→List eq→Prop}{i:Nat→IT}{s:Nat→ST}(h:BS P i s):BS P (fun k=>i (k + 1)) s:=by obtain⟨r,hi,hr⟩:=h;have h1:Ev fun k=>tY r (i k):=hr.mono fun _ e=>e.1;have h2:Ev fun k=>KY r (s k):=hr.mono fun _ e=>e.2;exact⟨r,hi,h1.Z8.and h2⟩
theorem BS.upS{P:Int→Nat→Nat→List eq→Prop}{i:Nat→IT}{s:Nat→ST}(h:BS P i s):BS P i (fun k=>s (k + 1)):=by obtain⟨r,hi,hr⟩:=h;have h1:Ev fun k=>tY r (i k):=hr.mono fun _ e=>e.1;have h2:Ev fun k=>KY r (s k):=hr.mono fun _ e=>e.2;exact⟨r,hi,h1.and h2.Z8⟩
theorem nM(k:Nat):eA (k + 1)=bP (eA k) (lG k) (iS k) k:=rfl
theorem Ib(k:Nat):lG (k + 1)=jY (eA k) (lG k) (iS k) k:=rfl
theorem DM(k:Nat):iS (k + 1)=jB (eA k) (lG k) (iS k) k:=rfl
theorem HF(k:Nat):dd (k + 1)=fG (dd k) (cX k) (hY k) (gp k) k:=rfl
theorem nC(k:Nat):cX (k + 1)=bt (dd k) (cX k) (hY k) (gp k) k:=rfl
theorem HB(k:Nat):hY (k + 1)=iH (dd k) (cX k) (hY k) (gp k) k:=rfl
theorem RW(k:Nat):gp (k + 1)=jS (dd k) (cX k) (hY k) (gp k) k:=rfl
variable {ts:List yQ} {en:Int} {c p:Int} {a d:Nat} {ns:List eq}
theorem ZC(hc:c≠0):Ev fun k=>∀(a:Nat) (ns:List eq) (d:Int),iS k ts (a:Int) en ns d c p=some (0,(a:Int),ns,dq (d + 1),c,p,()):=
 Ev.succ (Ev.of fun k a ns d=>by rw [DM];simp only [go_sem,jB,bh,cN hc,eI hc])
theorem fb(hc:c≠0):Ev fun k=>(∀(a:Nat) (ns:List eq) (d:Int),ao k ts (a:Int) en ns d c p 1=some (0,(a:Int),ns,d,c,p,()))∧
  (∀(a:Nat) (ns:List eq) (d:Int),dR k ts (a:Int) en ns d c p=some (0,(a:Int),ns,d,c,p,()))∧(∀(a:Nat) (ns:List eq) (d:Int),iS k ts (a:Int) en ns d c p=some (0,(a:Int),ns,dq (d + 1),c,p,())):=
 (fl1 hc).and ((Xg hc).and (ZC hc))
abbrev StB(ts:List yQ)(en:Int)(a d:Nat)(ns:List eq):Prop:=BS (xi ts NE 1 a d ns) (fun k=>cX k ts en (a:Int) (d:Int) ns) (fun k=>eA k ts (a:Int) en ns (d:Int) 0 0)
abbrev BlB(ts:List yQ)(en:Int)(a d:Nat)(ns:List eq):Prop:=BS (xi ts (· == 8) 1 a d ns) (fun k=>hY k ts en (a:Int) (d:Int) ns) (fun k=>iS k ts (a:Int) en ns (d:Int) 0 0)
def XZ(r:Nk)(d:Int)(o:Option ((Int×Int×List eq×XI×Unit)⊕(Int×Int×Unit))):Prop:=match r with
 |.ok l a ns=>o=some (.inl (((a + 1:Nat):Int),d,ns,l,()))
 |.er c p=>o=some (.inr (c,p,()))
theorem IA(x y:Int):lq [x] [y]=some [x,y]:=by simp [lq]
theorem IB(x y z:Int):lq [x,y] [z]=some [x,y,z]:=by simp [lq]
theorem MY(hs:oU ts)(hd:d≤10){a0:Nat}(IH:∀ a' ep,a0≤a'→xj ts a' d ep→StB ts en a' d ep):∀ m a (ns:List eq) (l:XI),ts.length - a≤m→a0≤a→xj ts a d ns→iO NE ns l→l.length≤a→
  ∃ r,Nj ts NE a ns l.length (jA ns l) r∧(∀ l' a' ep,r = .ok l' a' ep→aM ts a' [125]=true)∧co fun q k=>
   XZ r d (bS (dd q) (cX q) (hY q) (gp q) q k ts en (a:Int) (d:Int) ns l)∧
   ND [] r d (eg (eA q) (lG q) (iS q) q k ts en (a:Int) ns (d:Int) 0 0 l):=by
 have h7:=hs.len;intro m;induction m with
 |zero=>
  intro a ns l hm h0 hp hk hl;have b0:a≤4000000000000000000:=by have:=hp.hi;omega
  have bk:l.length≤4000000:=by have:=hp.hi;omega
  have ma:aM ts a [125]=false:=by
   cases h:aM ts a [125] with
   |false=>rfl
   |true=>have:=bx h;omega
  obtain⟨r,hi,hr⟩:=IH a ns h0 hp;cases r with
  |er c p=>
   have hc:c≠0:=hi;refine⟨.er c p,hi,(fun _ _ _ h=>by cases h),co.succ (co.succ (hr.tX.mono fun q k e=>?_))⟩
   obtain⟨e1,v,a',ep,d',e2⟩:=e;refine⟨?_,l ++ [v],a',ep,d',?_⟩
   ·simp only [go_sem,XZ,bS,aI b0,ma,reduceIte,show cX q ts en (a:Int) (d:Int) ns=_ from e1]
   ·rw [eg]
    simp only [go_sem,aa,bZ hs (w:=[125]) rfl,ma,show eA q ts (a:Int) en ns (d:Int) 0 0=_ from e2,cq bk]
    rw [eg];simp only [go_sem,aa,beq_eq_false_iff_ne.2 hc]
  |ok v a1 d1 mH=>have:=hi.lo;have:=hi.hi;have:=hp.hi;omega
 |succ m ih=>
  intro a ns l hm h0 hp hk hl;have b0:a≤4000000000000000000:=by have:=hp.hi;omega
  have bk:l.length≤4000000:=by have:=hp.hi;omega
  cases ma:aM ts a [125] with
  |true=>
   refine⟨.ok l a ns,⟨by omega,hp.hi,by omega,List.prefix_refl _,hp.all,hk,by omega,by omega⟩,(fun _ _ _ h=>by cases h;exact ma),co.succ (co.of fun q k=>⟨?_,?_⟩)⟩
   ·simp only [go_sem,XZ,bS,aI b0,ma,reduceIte]
   ·simp only [go_sem,ND,List.nil_append,eg,aa,bZ hs (w:=[125]) rfl,ma]
  |false=>
  obtain⟨r,hi,hr⟩:=IH a ns h0 hp;cases r with
  |er c p=>
   have hc:c≠0:=hi;refine⟨.er c p,hi,(fun _ _ _ h=>by cases h),co.succ (co.succ (hr.tX.mono fun q k e=>?_))⟩
   obtain⟨e1,v,a',ep,d',e2⟩:=e;refine⟨?_,l ++ [v],a',ep,d',?_⟩
   ·simp only [go_sem,XZ,bS,aI b0,ma,reduceIte,show cX q ts en (a:Int) (d:Int) ns=_ from e1]
   ·rw [eg]
    simp only [go_sem,aa,bZ hs (w:=[125]) rfl,ma,show eA q ts (a:Int) en ns (d:Int) 0 0=_ from e2,cq bk]
    rw [eg];simp only [go_sem,aa,beq_eq_false_iff_ne.2 hc]
  |ok v a1 d1 mH=>
   obtain⟨q1,q2,rfl,q3,q4,q5,q6,q7,q8,q9⟩:=hi;obtain⟨r,gi,gx,gr⟩:=ih a1 mH (l ++ [v]) (by omega) (by omega) ⟨q2,hd,by have:=hp.ln;omega,q5⟩ ((hk.up q4).add q6 q7 q8) (by simp;omega)
   refine⟨r,gi.from (by omega) (by omega) q4 (by simp;omega) (by rw [qe,oJ,pz q4 hk.v];omega),gx,co.succ ((hr.tX.and gr).mono fun q k e=>?_)⟩
   obtain⟨⟨e1,e2⟩,e3,e4⟩:=e;refine⟨?_,?_⟩
   ·simp only [go_sem,bS,aI b0,ma,reduceIte,show cX q ts en (a:Int) (d1:Int) ns=_ from e1,cq bk]
    exact e3
   ·simp only [go_sem,eg,aa,bZ hs (w:=[125]) rfl,ma,show eA q ts (a:Int) en ns (d1:Int) 0 0=_ from e2,cq bk]
    exact e4
theorem co.split{p r:Nat→Nat→Prop}(h:co fun q k=>p q k∧r q k):Ev fun k=>p k k∧r (k + 1) (k + 1):=by have h1:Ev fun k=>p k k:=(h.mono fun _ _ e=>e.1).jN;have h2:Ev fun k=>r k k:=(h.mono fun _ _ e=>e.2).jN;exact h1.and h2.Z8
theorem Y2{ns:List eq}{l:XI}(h:iO NE ns l):b9 8 (l.map (kd ns))=true:=by have:l.all (fun j=>NE (kd ns j))=true:=List.all_eq_true.2 h.c;simp [b9];simpa using this
theorem Lp(hs:oU ts)(hp:xj ts a d ns)(IH:∀ a' d' ep,a < a'→xj ts a' d' ep→StB ts en a' d' ep):BlB ts en a d ns:=by
 have h7:=hs.len;obtain⟨p1,p2,p3,p4⟩:=hp;have b0:a≤4000000000000000000:=by omega
 cases mi:aM ts a [123] with
 |false=>refine BS.succ ?_;simp only [go_sem,HB,DM,iH,jB,aa,am,aR,bh,aQ,Option.bind_assoc,reduceIte,aL b0,ai hs (w:=[123]) rfl b0,mi];exact BS.er (c:=6) (p:=pl ts en a) (by decide) (Ev.of fun k=>⟨rfl,by simp only [go_sem,eI (show(6:Int)≠0 by decide),fA,Int.natCast_nonneg,and_self]⟩)
 |true=>
 have bo:=bx mi;by_cases hd:d < 10
 ·obtain⟨r,hi,hx,hr⟩:=MY (en:=en) hs (d:=d + 1) (by omega) (a0:=a + 1) (fun a' ep h p=>IH a' (d + 1) ep (by omega) p) _ (a + 1) ns [] (Nat.le_refl _) (Nat.le_refl _) ⟨by omega,by omega,by omega,p4⟩ iO.nil (by simp)
  have hr:=hr.split;cases r with
  |er c p=>
   have hc:c≠0:=hi;refine⟨.er c p,hi,Ev.succ (Ev.succ (hr.mono fun k e=>?_))⟩;obtain⟨e1,l',a',ep,d',e2⟩:=e;refine⟨?_,0,a',ep,dq (d' - 1),?_⟩
   ·simp only [go_sem,tY,HB (k + 1),iH,aa,am,aR,bh,aQ,Option.bind_assoc,reduceIte,aL b0,gG p2,mi,hd,HF,fG]
    simp only [go_sem,show bS _ _ _ _ k k ts en ((a + 1:Nat):Int) ((d + 1:Nat):Int) ns []=_ from e1]
   ·simp only [go_sem,DM (k + 1),jB,aa,am,aR,bh,aQ,Option.bind_assoc,reduceIte,ai hs (w:=[123]) rfl b0,lB p2,mi,hd,e2,cN hc,ce hc]
  |ok l' a' ep=>
   obtain⟨g1,g2,g3,g4,g5,g6,g7,g8⟩:=hi;rw [yZ] at g8;have ma:=hx _ _ _ rfl;have hl:=bx ma;have b4:a'≤4000000000000000000:=by omega
   have Lq:ep.length≤4000000:=by omega
   refine⟨.ok _ (a' + 1) d (ep ++ [(8,pl ts en a,0,[],l')]),kB (by omega) (by omega) (by omega) g4 g5 ⟨g6.v,Y2 g6,by simp,by simp at g7 ⊢;omega⟩ rfl g8,Ev.succ (Ev.succ (hr.mono fun k e=>?_))⟩
   obtain⟨e1,e2⟩:=e;refine⟨?_,?_⟩
   ·simp only [go_sem,tY,HB (k + 1),iH,aa,am,aR,bh,aQ,Option.bind_assoc,reduceIte,aL b0,gG p2,mi,hd,HF,fG]
    simp only [go_sem,show bS _ _ _ _ k k ts en ((a + 1:Nat):Int) ((d + 1:Nat):Int) ns []=_ from e1,hU Lq,km (show d≤_ by omega)]
   ·simp only [go_sem,KY,DM (k + 1),jB,aa,am,aR,bh,aQ,Option.bind_assoc,reduceIte,ai hs (w:=[123]) rfl b0,lB p2,mi,hd]
    simp only [go_sem,show eg _ _ _ (k + 1) (k + 1) ts en ((a + 1:Nat):Int) ns ((d + 1:Nat):Int) 0 0 []=_ from e2,ai hs (w:=[125]) rfl b4,ma,reduceIte,dQ Lq,List.nil_append,km (show d≤_ by omega)]
 ·refine BS.succ ?_
  simp only [go_sem,HB,DM,iH,jB,aa,am,aR,bh,aQ,Option.bind_assoc,reduceIte,aL b0,ai hs (w:=[123]) rfl b0,gG p2,lB p2,mi,hd];exact BS.er (c:=7) (p:=pl ts en (a + 1)) (by decide) (Ev.of fun k=>⟨rfl,by simp only [fA,Int.natCast_nonneg,and_self]⟩)
theorem Pe(hs:oU ts)(hp:xj ts a d ns)(IH:∀ a' d' ep,a < a'→xj ts a' d' ep→BlB ts en a' d' ep):StB ts en a d ns:=by
 have h7:=hs.len;have zK:=hp;obtain⟨p1,p2,p3,p4⟩:=hp;have b0:a≤4000000000000000000:=by omega
 have b1:a + 1≤4000000000000000000:=by omega
 have b2:a + 1 + 1≤4000000000000000000:=by omega
 have b3:a + 1 + 1 + 1≤4000000000000000000:=by omega
 have bn:ns.length≤4000000:=by omega
 cases hn:tq ts a 1 with
 |true=>refine BS.succ ?_;simp only [go_sem,nC,nM,bt,bP,aa,am,aR,bh,aQ,Option.bind_assoc,reduceIte,hn];exact BS.bind (Y0 hs zK hn) (fun v a1 d1 mH g=>BS.ok g) (fun c p hc=>Ev.of fun k v a' ep d'=>⟨rfl,by simp only [fA,Int.natCast_nonneg,and_self]⟩)
 |false=>
 cases oq:aM ts a [42] with
 |true=>
  have hl0:=bx oq;refine BS.succ ?_;cases hm:tq ts (a + 1) 1 with
  |false=>
   simp only [go_sem,nC,nM,bt,bP,aa,am,aR,bh,aQ,Option.bind_assoc,reduceIte,hn,aI b0,bZ hs (w:=[42]) rfl,ab hs (w:=[42]) rfl b0,bZ hs (w:=[105,102]) rfl,ab hs (w:=[105,102]) rfl b0,bZ hs (w:=[119,104,105,108,101]) rfl,ab hs (w:=[119,104,105,108,101]) rfl b0,bZ hs (w:=[102,111,114]) rfl,ab hs (w:=[102,111,114]) rfl b0,bZ hs (w:=[114,101,97,100]) rfl,ab hs (w:=[114,101,97,100]) rfl b0,bZ hs (w:=[112,114,105,110,116]) rfl,ab hs (w:=[112,114,105,110,116]) rfl b0,bZ hs (w:=[97,115,115,101,114,116]) rfl,ab hs (w:=[97,115,115,101,114,116]) rfl b0,bZ hs (w:=[115,116,111,112]) rfl,ab hs (w:=[115,116,111,112]) rfl b0,bZ hs (w:=[114,101,116,117,114,110]) rfl,ab hs (w:=[114,101,116,117,114,110]) rfl b0,show aM ts a [105,102]=false from aC oq rfl,show aM ts a [119,104,105,108,101]=false from aC oq rfl,show aM ts a [102,111,114]=false from aC oq rfl,show aM ts a [114,101,97,100]=false from aC oq rfl,show aM ts a [112,114,105,110,116]=false from aC oq rfl,show aM ts a [97,115,115,101,114,116]=false from aC oq rfl,show aM ts a [115,116,111,112]=false from aC oq rfl,show aM ts a [114,101,116,117,114,110]=false from aC oq rfl,oq,bN b1,cW b1,hm]
   exact BS.er (c:=6) (p:=pl ts en (a + 1)) (by decide) ((fb (ts:=ts) (en:=en) (c:=6) (p:=pl ts en (a + 1)) (by decide)).mono fun k e=>⟨rfl,by have hc:(6:Int)≠0:=(by decide);simp only [go_sem,fA,cN hc,dH hc,lz hc,fk hc,dU hc,ce hc,eI hc,eU hc,jq hc,bh,aa,e.1,e.2.1,e.2.2,true_and,and_self,Int.natCast_nonneg]⟩)
  |true=>
  have hl1:=jD hm;simp only [go_sem,nC,nM,bt,bP,aa,am,aR,bh,aQ,Option.bind_assoc,reduceIte,hn,aI b0,bZ hs (w:=[42]) rfl,ab hs (w:=[42]) rfl b0,bZ hs (w:=[105,102]) rfl,ab hs (w:=[105,102]) rfl b0,bZ hs (w:=[119,104,105,108,101]) rfl,ab hs (w:=[119,104,105,108,101]) rfl b0,bZ hs (w:=[102,111,114]) rfl,ab hs (w:=[102,111,114]) rfl b0,bZ hs (w:=[114,101,97,100]) rfl,ab hs (w:=[114,101,97,100]) rfl b0,bZ hs (w:=[112,114,105,110,116]) rfl,ab hs (w:=[112,114,105,110,116]) rfl b0,bZ hs (w:=[97,115,115,101,114,116]) rfl,ab hs (w:=[97,115,115,101,114,116]) rfl b0,bZ hs (w:=[115,116,111,112]) rfl,ab hs (w:=[115,116,111,112]) rfl b0,bZ hs (w:=[114,101,116,117,114,110]) rfl,ab hs (w:=[114,101,116,117,114,110]) rfl b0,show aM ts a [105,102]=false from aC oq rfl,show aM ts a [119,104,105,108,101]=false from aC oq rfl,show aM ts a [102,111,114]=false from aC oq rfl,show aM ts a [114,101,97,100]=false from aC oq rfl,show aM ts a [112,114,105,110,116]=false from aC oq rfl,show aM ts a [97,115,115,101,114,116]=false from aC oq rfl,show aM ts a [115,116,111,112]=false from aC oq rfl,show aM ts a [114,101,116,117,114,110]=false from aC oq rfl,oq,bN b1,cW b1,hm]
  cases h1:aM ts (a + 1 + 1) [61] with
  |false=>simp only [go_sem,aL b2,ai hs (w:=[61]) rfl b2,h1,aa,am,aR,bh,aQ,Option.bind_assoc,reduceIte];exact BS.er (c:=6) (p:=pl ts en (a + 1 + 1)) (by decide) ((fb (ts:=ts) (en:=en) (c:=6) (p:=pl ts en (a + 1 + 1)) (by decide)).mono fun k e=>⟨rfl,by have hc:(6:Int)≠0:=(by decide);simp only [go_sem,fA,cN hc,dH hc,lz hc,fk hc,dU hc,ce hc,eI hc,eU hc,jq hc,bh,aa,e.1,e.2.1,e.2.2,true_and,and_self,Int.natCast_nonneg]⟩)
  |true=>
  have VY:=bx h1;simp only [go_sem,aL b2,ai hs (w:=[61]) rfl b2,h1,aa,am,aR,bh,aQ,Option.bind_assoc,reduceIte];refine BS.bind (EY hs (a:=a + 1 + 1 + 1) ⟨by omega,p2,by omega,p4⟩) (fun x1 a1 d1 mH g1=>?_) (fun c p hc=>(fb (ts:=ts) (en:=en) (p:=p) hc).mono fun k e v a' ep d'=>⟨rfl,by simp only [go_sem,fA,cN hc,dH hc,lz hc,fk hc,dU hc,ce hc,eI hc,eU hc,jq hc,bh,aa,e.1,e.2.1,e.2.2,true_and,and_self,Int.natCast_nonneg]⟩)
  obtain⟨q11,q12,rfl,q13,KF,NW,OX,OY,Ng,q19⟩:=g1;have c1:a1≤4000000000000000000:=by omega
  have Nl:a1 + 1≤4000000000000000000:=by omega
  have m1:mH.length≤4000000:=by omega
  cases h2:aM ts (a1) [59] with
  |false=>simp only [go_sem,aL c1,ai hs (w:=[59]) rfl c1,h2,aa,am,aR,bh,aQ,Option.bind_assoc,reduceIte];exact BS.er (c:=6) (p:=pl ts en (a1)) (by decide) ((fb (ts:=ts) (en:=en) (c:=6) (p:=pl ts en (a1)) (by decide)).mono fun k e=>⟨rfl,by have hc:(6:Int)≠0:=(by decide);simp only [go_sem,fA,cN hc,dH hc,lz hc,fk hc,dU hc,ce hc,eI hc,eU hc,jq hc,bh,aa,e.1,e.2.1,e.2.2,true_and,and_self,Int.natCast_nonneg]⟩)
  |true=>
  have RQ:=bx h2;simp only [go_sem,aL c1,ai hs (w:=[59]) rfl c1,h2,aa,am,aR,bh,aQ,Option.bind_assoc,reduceIte];simp only [go_sem,hU m1,dQ m1];exact BS.ok (kB (by omega) (by omega) (by omega) KF NW ⟨by simp;omega,by simpa [b9] using Ng,by simp⟩ rfl (by rw [oJ];exact q19))
 |false=>
 cases LW:aM ts a [105,102] with
 |true=>
  have hl0:=bx LW;refine BS.succ (BS.succ ?_);simp only [go_sem,nC (_ + 1),nM (_ + 1),bt,bP,Ib,jY,aa,am,aR,bh,aQ,Option.bind_assoc,reduceIte,hn,ai hs (w:=[102,111,114]) rfl b0,IA,IB,aI b0,bZ hs (w:=[42]) rfl,ab hs (w:=[42]) rfl b0,bZ hs (w:=[105,102]) rfl,ab hs (w:=[105,102]) rfl b0,bZ hs (w:=[119,104,105,108,101]) rfl,ab hs (w:=[119,104,105,108,101]) rfl b0,bZ hs (w:=[102,111,114]) rfl,ab hs (w:=[102,111,114]) rfl b0,bZ hs (w:=[114,101,97,100]) rfl,ab hs (w:=[114,101,97,100]) rfl b0,bZ hs (w:=[112,114,105,110,116]) rfl,ab hs (w:=[112,114,105,110,116]) rfl b0,bZ hs (w:=[97,115,115,101,114,116]) rfl,ab hs (w:=[97,115,115,101,114,116]) rfl b0,bZ hs (w:=[115,116,111,112]) rfl,ab hs (w:=[115,116,111,112]) rfl b0,bZ hs (w:=[114,101,116,117,114,110]) rfl,ab hs (w:=[114,101,116,117,114,110]) rfl b0,show aM ts a [42]=false from aC LW rfl,show aM ts a [119,104,105,108,101]=false from aC LW rfl,show aM ts a [102,111,114]=false from aC LW rfl,show aM ts a [114,101,97,100]=false from aC LW rfl,show aM ts a [112,114,105,110,116]=false from aC LW rfl,show aM ts a [97,115,115,101,114,116]=false from aC LW rfl,show aM ts a [115,116,111,112]=false from aC LW rfl,show aM ts a [114,101,116,117,114,110]=false from aC LW rfl,LW]
  refine BS.bind ((WC hs (a:=a + 1) ⟨by omega,p2,by omega,p4⟩).up) (fun x1 a1 d1 mH g1=>?_) (fun c p hc=>(fb (ts:=ts) (en:=en) (p:=p) hc).mono fun k e v a' ep d'=>⟨rfl,by simp only [go_sem,fA,cN hc,dH hc,lz hc,fk hc,dU hc,ce hc,eI hc,eU hc,jq hc,bh,aa,e.1,e.2.1,e.2.2,true_and,and_self,Int.natCast_nonneg,IA,IB]⟩)
  obtain⟨q11,q12,rfl,q13,KF,NW,OX,OY,Ng,q19⟩:=g1;have c1:a1≤4000000000000000000:=by omega
  have Nl:a1 + 1≤4000000000000000000:=by omega
  have m1:mH.length≤4000000:=by omega
  refine BS.bind ((IH (a1) _ _ (by omega) ⟨by omega,p2,by omega,NW⟩).up) (fun x2 a2 d2 pZ g2=>?_) (fun c p hc=>(fb (ts:=ts) (en:=en) (p:=p) hc).mono fun k e v a' ep d'=>⟨rfl,by simp only [go_sem,fA,cN hc,dH hc,lz hc,fk hc,dU hc,ce hc,eI hc,eU hc,jq hc,bh,aa,e.1,e.2.1,e.2.2,true_and,and_self,Int.natCast_nonneg,IA,IB]⟩)
  obtain⟨q21,q22,rfl,q23,MP,q25,q26,q27,q28,q29⟩:=g2;have c2:a2≤4000000000000000000:=by omega
  have c21:a2 + 1≤4000000000000000000:=by omega
  have m2:pZ.length≤4000000:=by omega
  cases hel:aM ts a2 [101,108,115,101] with
  |true=>
   have hl1:=bx hel;simp only [go_sem,aa,am,aR,bh,aQ,Option.bind_assoc,reduceIte,IA,IB,aI c2,ab hs (w:=[101,108,115,101]) rfl c2,hel];refine BS.bind ((IH (a2 + 1) _ _ (by omega) ⟨by omega,p2,by omega,q25⟩).up) (fun x3 a3 d3 K3 g3=>?_) (fun c p hc=>(fb (ts:=ts) (en:=en) (p:=p) hc).mono fun k e v a' ep d'=>⟨rfl,by simp only [go_sem,fA,cN hc,dH hc,lz hc,fk hc,dU hc,ce hc,eI hc,eU hc,jq hc,bh,aa,e.1,e.2.1,e.2.2,true_and,and_self,Int.natCast_nonneg,IA,IB]⟩)
   obtain⟨q31,q32,rfl,q33,q34,q35,q36,q37,q38,q39⟩:=g3;have c3:a3≤4000000000000000000:=by omega
   have c31:a3 + 1≤4000000000000000000:=by omega
   have m3:K3.length≤4000000:=by omega
   simp only [go_sem,aa,am,aR,bh,aQ,Option.bind_assoc,reduceIte,IA,IB,hU m3,dQ m3];exact BS.ok (kB (by omega) (by omega) (by omega) (KF.trans (MP.trans q34)) q35 ⟨by simp;have:=MP.length_le;have:=q34.length_le;omega,by simp [b9,Ng,beq_iff_eq.1 q28,beq_iff_eq.1 q38,qd (MP.trans q34) OX OY,qd q34 q26 q27],by simp⟩ rfl (by rw [OD,ri (MP.trans q34) OX OY,ri q34 q26 q27];omega))
  |false=>simp only [go_sem,aa,am,aR,bh,aQ,Option.bind_assoc,reduceIte,IA,IB,aI c2,ab hs (w:=[101,108,115,101]) rfl c2,hel,hU m2,dQ m2];exact BS.ok (kB (by omega) (by omega) (by omega) (KF.trans MP) q25 ⟨by simp;have:=MP.length_le;omega,by simp [b9,Ng,beq_iff_eq.1 q28,qd MP OX OY],by simp⟩ rfl (by rw [xH,ri MP OX OY];omega))
 |false=>
 cases tf:aM ts a [119,104,105,108,101] with
 |true=>
  have hl0:=bx tf;refine BS.succ (BS.succ ?_);simp only [go_sem,nC (_ + 1),nM (_ + 1),bt,bP,Ib,jY,aa,am,aR,bh,aQ,Option.bind_assoc,reduceIte,hn,ai hs (w:=[102,111,114]) rfl b0,IA,IB,aI b0,bZ hs (w:=[42]) rfl,ab hs (w:=[42]) rfl b0,bZ hs (w:=[105,102]) rfl,ab hs (w:=[105,102]) rfl b0,bZ hs (w:=[119,104,105,108,101]) rfl,ab hs (w:=[119,104,105,108,101]) rfl b0,bZ hs (w:=[102,111,114]) rfl,ab hs (w:=[102,111,114]) rfl b0,bZ hs (w:=[114,101,97,100]) rfl,ab hs (w:=[114,101,97,100]) rfl b0,bZ hs (w:=[112,114,105,110,116]) rfl,ab hs (w:=[112,114,105,110,116]) rfl b0,bZ hs (w:=[97,115,115,101,114,116]) rfl,ab hs (w:=[97,115,115,101,114,116]) rfl b0,bZ hs (w:=[115,116,111,112]) rfl,ab hs (w:=[115,116,111,112]) rfl b0,bZ hs (w:=[114,101,116,117,114,110]) rfl,ab hs (w:=[114,101,116,117,114,110]) rfl b0,show aM ts a [42]=false from aC tf rfl,show aM ts a [105,102]=false from aC tf rfl,show aM ts a [102,111,114]=false from aC tf rfl,show aM ts a [114,101,97,100]=false from aC tf rfl,show aM ts a [112,114,105,110,116]=false from aC tf rfl,show aM ts a [97,115,115,101,114,116]=false from aC tf rfl,show aM ts a [115,116,111,112]=false from aC tf rfl,show aM ts a [114,101,116,117,114,110]=false from aC tf rfl,tf]
  refine BS.bind ((WC hs (a:=a + 1) ⟨by omega,p2,by omega,p4⟩).up) (fun x1 a1 d1 mH g1=>?_) (fun c p hc=>(fb (ts:=ts) (en:=en) (p:=p) hc).mono fun k e v a' ep d'=>⟨rfl,by simp only [go_sem,fA,cN hc,dH hc,lz hc,fk hc,dU hc,ce hc,eI hc,eU hc,jq hc,bh,aa,e.1,e.2.1,e.2.2,true_and,and_self,Int.natCast_nonneg,IA,IB]⟩)
  obtain⟨q11,q12,rfl,q13,KF,NW,OX,OY,Ng,q19⟩:=g1;have c1:a1≤4000000000000000000:=by omega
  have Nl:a1 + 1≤4000000000000000000:=by omega
  have m1:mH.length≤4000000:=by omega
  refine BS.bind ((IH (a1) _ _ (by omega) ⟨by omega,p2,by omega,NW⟩).up) (fun x2 a2 d2 pZ g2=>?_) (fun c p hc=>(fb (ts:=ts) (en:=en) (p:=p) hc).mono fun k e v a' ep d'=>⟨rfl,by simp only [go_sem,fA,cN hc,dH hc,lz hc,fk hc,dU hc,ce hc,eI hc,eU hc,jq hc,bh,aa,e.1,e.2.1,e.2.2,true_and,and_self,Int.natCast_nonneg,IA,IB]⟩)
  obtain⟨q21,q22,rfl,q23,MP,q25,q26,q27,q28,q29⟩:=g2;have c2:a2≤4000000000000000000:=by omega
  have c21:a2 + 1≤4000000000000000000:=by omega
  have m2:pZ.length≤4000000:=by omega
  simp only [go_sem,aa,am,aR,bh,aQ,Option.bind_assoc,reduceIte,IA,IB,hU m2,dQ m2];exact BS.ok (kB (by omega) (by omega) (by omega) (KF.trans MP) q25 ⟨by simp;have:=MP.length_le;omega,by simp [b9,Ng,beq_iff_eq.1 q28,qd MP OX OY],by simp⟩ rfl (by rw [xH,ri MP OX OY];omega))
 |false=>
 cases sx:aM ts a [102,111,114] with
 |true=>
  have hl0:=bx sx;refine BS.succ (BS.succ ?_);cases hm:tq ts (a + 1) 1 with
  |false=>
   simp only [go_sem,nC (_ + 1),nM (_ + 1),bt,bP,Ib,jY,aa,am,aR,bh,aQ,Option.bind_assoc,reduceIte,hn,ai hs (w:=[102,111,114]) rfl b0,IA,IB,aI b0,bZ hs (w:=[42]) rfl,ab hs (w:=[42]) rfl b0,bZ hs (w:=[105,102]) rfl,ab hs (w:=[105,102]) rfl b0,bZ hs (w:=[119,104,105,108,101]) rfl,ab hs (w:=[119,104,105,108,101]) rfl b0,bZ hs (w:=[102,111,114]) rfl,ab hs (w:=[102,111,114]) rfl b0,bZ hs (w:=[114,101,97,100]) rfl,ab hs (w:=[114,101,97,100]) rfl b0,bZ hs (w:=[112,114,105,110,116]) rfl,ab hs (w:=[112,114,105,110,116]) rfl b0,bZ hs (w:=[97,115,115,101,114,116]) rfl,ab hs (w:=[97,115,115,101,114,116]) rfl b0,bZ hs (w:=[115,116,111,112]) rfl,ab hs (w:=[115,116,111,112]) rfl b0,bZ hs (w:=[114,101,116,117,114,110]) rfl,ab hs (w:=[114,101,116,117,114,110]) rfl b0,show aM ts a [42]=false from aC sx rfl,show aM ts a [105,102]=false from aC sx rfl,show aM ts a [119,104,105,108,101]=false from aC sx rfl,show aM ts a [114,101,97,100]=false from aC sx rfl,show aM ts a [112,114,105,110,116]=false from aC sx rfl,show aM ts a [97,115,115,101,114,116]=false from aC sx rfl,show aM ts a [115,116,111,112]=false from aC sx rfl,show aM ts a [114,101,116,117,114,110]=false from aC sx rfl,sx,RW,jS,bN b1,cW b1,hm]
   exact BS.er (c:=6) (p:=pl ts en (a + 1)) (by decide) ((fb (ts:=ts) (en:=en) (c:=6) (p:=pl ts en (a + 1)) (by decide)).mono fun k e=>⟨rfl,by have hc:(6:Int)≠0:=(by decide);simp only [go_sem,fA,cN hc,dH hc,lz hc,fk hc,dU hc,ce hc,eI hc,eU hc,jq hc,bh,aa,e.1,e.2.1,e.2.2,true_and,and_self,Int.natCast_nonneg]⟩)
  |true=>
  have hl1:=jD hm;simp only [go_sem,nC (_ + 1),nM (_ + 1),bt,bP,Ib,jY,aa,am,aR,bh,aQ,Option.bind_assoc,reduceIte,hn,ai hs (w:=[102,111,114]) rfl b0,IA,IB,aI b0,bZ hs (w:=[42]) rfl,ab hs (w:=[42]) rfl b0,bZ hs (w:=[105,102]) rfl,ab hs (w:=[105,102]) rfl b0,bZ hs (w:=[119,104,105,108,101]) rfl,ab hs (w:=[119,104,105,108,101]) rfl b0,bZ hs (w:=[102,111,114]) rfl,ab hs (w:=[102,111,114]) rfl b0,bZ hs (w:=[114,101,97,100]) rfl,ab hs (w:=[114,101,97,100]) rfl b0,bZ hs (w:=[112,114,105,110,116]) rfl,ab hs (w:=[112,114,105,110,116]) rfl b0,bZ hs (w:=[97,115,115,101,114,116]) rfl,ab hs (w:=[97,115,115,101,114,116]) rfl b0,bZ hs (w:=[115,116,111,112]) rfl,ab hs (w:=[115,116,111,112]) rfl b0,bZ hs (w:=[114,101,116,117,114,110]) rfl,ab hs (w:=[114,101,116,117,114,110]) rfl b0,show aM ts a [42]=false from aC sx rfl,show aM ts a [105,102]=false from aC sx rfl,show aM ts a [119,104,105,108,101]=false from aC sx rfl,show aM ts a [114,101,97,100]=false from aC sx rfl,show aM ts a [112,114,105,110,116]=false from aC sx rfl,show aM ts a [97,115,115,101,114,116]=false from aC sx rfl,show aM ts a [115,116,111,112]=false from aC sx rfl,show aM ts a [114,101,116,117,114,110]=false from aC sx rfl,sx,RW,jS,bN b1,cW b1,hm,sK hl1]
  cases h1:aM ts (a + 1 + 1) [61] with
  |false=>simp only [go_sem,aL b2,ai hs (w:=[61]) rfl b2,h1,aa,am,aR,bh,aQ,Option.bind_assoc,reduceIte];exact BS.er (c:=6) (p:=pl ts en (a + 1 + 1)) (by decide) ((fb (ts:=ts) (en:=en) (c:=6) (p:=pl ts en (a + 1 + 1)) (by decide)).mono fun k e=>⟨rfl,by have hc:(6:Int)≠0:=(by decide);simp only [go_sem,fA,cN hc,dH hc,lz hc,fk hc,dU hc,ce hc,eI hc,eU hc,jq hc,bh,aa,e.1,e.2.1,e.2.2,true_and,and_self,Int.natCast_nonneg]⟩)
  |true=>
  have VY:=bx h1;simp only [go_sem,aL b2,ai hs (w:=[61]) rfl b2,h1,aa,am,aR,bh,aQ,Option.bind_assoc,reduceIte];refine BS.bind (EY hs (a:=a + 1 + 1 + 1) ⟨by omega,p2,by omega,p4⟩) (fun x1 a1 d1 mH g1=>?_) (fun c p hc=>(fb (ts:=ts) (en:=en) (p:=p) hc).mono fun k e v a' ep d'=>⟨rfl,by simp only [go_sem,fA,cN hc,dH hc,lz hc,fk hc,dU hc,ce hc,eI hc,eU hc,jq hc,bh,aa,e.1,e.2.1,e.2.2,true_and,and_self,Int.natCast_nonneg]⟩)
  obtain⟨q11,q12,rfl,q13,KF,NW,OX,OY,Ng,q19⟩:=g1;have c1:a1≤4000000000000000000:=by omega
  have Nl:a1 + 1≤4000000000000000000:=by omega
  have m1:mH.length≤4000000:=by omega
  cases h2:aM ts (a1) [46,46] with
  |false=>simp only [go_sem,aL c1,ai hs (w:=[46,46]) rfl c1,h2,aa,am,aR,bh,aQ,Option.bind_assoc,reduceIte];exact BS.er (c:=6) (p:=pl ts en (a1)) (by decide) ((fb (ts:=ts) (en:=en) (c:=6) (p:=pl ts en (a1)) (by decide)).mono fun k e=>⟨rfl,by have hc:(6:Int)≠0:=(by decide);simp only [go_sem,fA,cN hc,dH hc,lz hc,fk hc,dU hc,ce hc,eI hc,eU hc,jq hc,bh,aa,e.1,e.2.1,e.2.2,true_and,and_self,Int.natCast_nonneg]⟩)
  |true=>
  have RQ:=bx h2;simp only [go_sem,aL c1,ai hs (w:=[46,46]) rfl c1,h2,aa,am,aR,bh,aQ,Option.bind_assoc,reduceIte];refine BS.bind (EY hs (a:=a1 + 1) ⟨by omega,p2,by omega,NW⟩) (fun x2 a2 d2 pZ g2=>?_) (fun c p hc=>(fb (ts:=ts) (en:=en) (p:=p) hc).mono fun k e v a' ep d'=>⟨rfl,by simp only [go_sem,fA,cN hc,dH hc,lz hc,fk hc,dU hc,ce hc,eI hc,eU hc,jq hc,bh,aa,e.1,e.2.1,e.2.2,true_and,and_self,Int.natCast_nonneg]⟩)
  obtain⟨q21,q22,rfl,q23,MP,q25,q26,q27,q28,q29⟩:=g2;have c2:a2≤4000000000000000000:=by omega
  have c21:a2 + 1≤4000000000000000000:=by omega
  have m2:pZ.length≤4000000:=by omega
  simp only [go_sem,aa,am,aR,bh,aQ,Option.bind_assoc,reduceIte];refine BS.bind (IH (a2) _ _ (by omega) ⟨by omega,p2,by omega,q25⟩) (fun x3 a3 d3 K3 g3=>?_) (fun c p hc=>(fb (ts:=ts) (en:=en) (p:=p) hc).mono fun k e v a' ep d'=>⟨rfl,by simp only [go_sem,fA,cN hc,dH hc,lz hc,fk hc,dU hc,ce hc,eI hc,eU hc,jq hc,bh,aa,e.1,e.2.1,e.2.2,true_and,and_self,Int.natCast_nonneg]⟩)
  obtain⟨q31,q32,rfl,q33,q34,q35,q36,q37,q38,q39⟩:=g3;have c3:a3≤4000000000000000000:=by omega
  have c31:a3 + 1≤4000000000000000000:=by omega
  have m3:K3.length≤4000000:=by omega
  simp only [go_sem,aa,am,aR,bh,aQ,Option.bind_assoc,reduceIte,hU m3,dQ m3];exact BS.ok (kB (by omega) (by omega) (by omega) (KF.trans (MP.trans q34)) q35 ⟨by simp;have:=MP.length_le;have:=q34.length_le;omega,by simp [b9,Ng,q28,beq_iff_eq.1 q38,qd (MP.trans q34) OX OY,qd q34 q26 q27],by simp⟩ rfl (by rw [OD,ri (MP.trans q34) OX OY,ri q34 q26 q27];omega))
 |false=>
 refine BS.succ ?_;cases oo:aM ts a [114,101,97,100] with
 |true=>
  have hl0:=bx oo;cases hm:tq ts (a + 1) 1 with
  |false=>
   simp only [go_sem,nC,nM,bt,bP,aa,am,aR,bh,aQ,Option.bind_assoc,reduceIte,hn,aI b0,bZ hs (w:=[42]) rfl,ab hs (w:=[42]) rfl b0,bZ hs (w:=[105,102]) rfl,ab hs (w:=[105,102]) rfl b0,bZ hs (w:=[119,104,105,108,101]) rfl,ab hs (w:=[119,104,105,108,101]) rfl b0,bZ hs (w:=[102,111,114]) rfl,ab hs (w:=[102,111,114]) rfl b0,bZ hs (w:=[114,101,97,100]) rfl,ab hs (w:=[114,101,97,100]) rfl b0,bZ hs (w:=[112,114,105,110,116]) rfl,ab hs (w:=[112,114,105,110,116]) rfl b0,bZ hs (w:=[97,115,115,101,114,116]) rfl,ab hs (w:=[97,115,115,101,114,116]) rfl b0,bZ hs (w:=[115,116,111,112]) rfl,ab hs (w:=[115,116,111,112]) rfl b0,bZ hs (w:=[114,101,116,117,114,110]) rfl,ab hs (w:=[114,101,116,117,114,110]) rfl b0,show aM ts a [42]=false from aC oo rfl,show aM ts a [105,102]=false from aC oo rfl,show aM ts a [119,104,105,108,101]=false from aC oo rfl,show aM ts a [102,111,114]=false from aC oo rfl,show aM ts a [112,114,105,110,116]=false from aC oo rfl,show aM ts a [97,115,115,101,114,116]=false from aC oo rfl,show aM ts a [115,116,111,112]=false from aC oo rfl,show aM ts a [114,101,116,117,114,110]=false from aC oo rfl,oo,bN b1,cW b1,hm]
   exact BS.er (c:=6) (p:=pl ts en (a + 1)) (by decide) ((fb (ts:=ts) (en:=en) (c:=6) (p:=pl ts en (a + 1)) (by decide)).mono fun k e=>⟨rfl,by have hc:(6:Int)≠0:=(by decide);simp only [go_sem,fA,cN hc,dH hc,lz hc,fk hc,dU hc,ce hc,eI hc,eU hc,jq hc,bh,aa,e.1,e.2.1,e.2.2,true_and,and_self,Int.natCast_nonneg]⟩)
  |true=>
  have hl1:=jD hm;simp only [go_sem,nC,nM,bt,bP,aa,am,aR,bh,aQ,Option.bind_assoc,reduceIte,hn,aI b0,bZ hs (w:=[42]) rfl,ab hs (w:=[42]) rfl b0,bZ hs (w:=[105,102]) rfl,ab hs (w:=[105,102]) rfl b0,bZ hs (w:=[119,104,105,108,101]) rfl,ab hs (w:=[119,104,105,108,101]) rfl b0,bZ hs (w:=[102,111,114]) rfl,ab hs (w:=[102,111,114]) rfl b0,bZ hs (w:=[114,101,97,100]) rfl,ab hs (w:=[114,101,97,100]) rfl b0,bZ hs (w:=[112,114,105,110,116]) rfl,ab hs (w:=[112,114,105,110,116]) rfl b0,bZ hs (w:=[97,115,115,101,114,116]) rfl,ab hs (w:=[97,115,115,101,114,116]) rfl b0,bZ hs (w:=[115,116,111,112]) rfl,ab hs (w:=[115,116,111,112]) rfl b0,bZ hs (w:=[114,101,116,117,114,110]) rfl,ab hs (w:=[114,101,116,117,114,110]) rfl b0,show aM ts a [42]=false from aC oo rfl,show aM ts a [105,102]=false from aC oo rfl,show aM ts a [119,104,105,108,101]=false from aC oo rfl,show aM ts a [102,111,114]=false from aC oo rfl,show aM ts a [112,114,105,110,116]=false from aC oo rfl,show aM ts a [97,115,115,101,114,116]=false from aC oo rfl,show aM ts a [115,116,111,112]=false from aC oo rfl,show aM ts a [114,101,116,117,114,110]=false from aC oo rfl,oo,bN b1,cW b1,hm,km (d:=a + 1) b1,bj (iq hl1),sK hl1]
  cases h2:aM ts (a + 1 + 1) [59] with
  |false=>simp only [go_sem,aL b2,ai hs (w:=[59]) rfl b2,h2,aa,am,aR,bh,aQ,Option.bind_assoc,reduceIte];exact BS.er (c:=6) (p:=pl ts en (a + 1 + 1)) (by decide) ((fb (ts:=ts) (en:=en) (c:=6) (p:=pl ts en (a + 1 + 1)) (by decide)).mono fun k e=>⟨rfl,by have hc:(6:Int)≠0:=(by decide);simp only [go_sem,fA,cN hc,dH hc,lz hc,fk hc,dU hc,ce hc,eI hc,eU hc,jq hc,bh,aa,e.1,e.2.1,e.2.2,true_and,and_self,Int.natCast_nonneg]⟩)
  |true=>
  have RQ:=bx h2;simp only [go_sem,aL b2,ai hs (w:=[59]) rfl b2,h2,aa,am,aR,bh,aQ,Option.bind_assoc,reduceIte];simp only [go_sem,hU bn,dQ bn];exact BS.ok (kB (by omega) (by omega) (by omega) (List.prefix_refl _) p4 (rZ rfl (by decide)) rfl (by simp [jA]))
 |false=>
 cases te:aM ts a [112,114,105,110,116] with
 |true=>
  have hl0:=bx te;simp only [go_sem,nC,nM,bt,bP,aa,am,aR,bh,aQ,Option.bind_assoc,reduceIte,hn,aI b0,bZ hs (w:=[42]) rfl,ab hs (w:=[42]) rfl b0,bZ hs (w:=[105,102]) rfl,ab hs (w:=[105,102]) rfl b0,bZ hs (w:=[119,104,105,108,101]) rfl,ab hs (w:=[119,104,105,108,101]) rfl b0,bZ hs (w:=[102,111,114]) rfl,ab hs (w:=[102,111,114]) rfl b0,bZ hs (w:=[114,101,97,100]) rfl,ab hs (w:=[114,101,97,100]) rfl b0,bZ hs (w:=[112,114,105,110,116]) rfl,ab hs (w:=[112,114,105,110,116]) rfl b0,bZ hs (w:=[97,115,115,101,114,116]) rfl,ab hs (w:=[97,115,115,101,114,116]) rfl b0,bZ hs (w:=[115,116,111,112]) rfl,ab hs (w:=[115,116,111,112]) rfl b0,bZ hs (w:=[114,101,116,117,114,110]) rfl,ab hs (w:=[114,101,116,117,114,110]) rfl b0,show aM ts a [42]=false from aC te rfl,show aM ts a [105,102]=false from aC te rfl,show aM ts a [119,104,105,108,101]=false from aC te rfl,show aM ts a [102,111,114]=false from aC te rfl,show aM ts a [114,101,97,100]=false from aC te rfl,show aM ts a [97,115,115,101,114,116]=false from aC te rfl,show aM ts a [115,116,111,112]=false from aC te rfl,show aM ts a [114,101,116,117,114,110]=false from aC te rfl,te]
  refine BS.bind (EY hs (a:=a + 1) ⟨by omega,p2,by omega,p4⟩) (fun x1 a1 d1 mH g1=>?_) (fun c p hc=>(fb (ts:=ts) (en:=en) (p:=p) hc).mono fun k e v a' ep d'=>⟨rfl,by simp only [go_sem,fA,cN hc,dH hc,lz hc,fk hc,dU hc,ce hc,eI hc,eU hc,jq hc,bh,aa,e.1,e.2.1,e.2.2,true_and,and_self,Int.natCast_nonneg]⟩)
  obtain⟨q11,q12,rfl,q13,KF,NW,OX,OY,Ng,q19⟩:=g1;have c1:a1≤4000000000000000000:=by omega
  have Nl:a1 + 1≤4000000000000000000:=by omega
  have m1:mH.length≤4000000:=by omega
  cases h2:aM ts (a1) [59] with
  |false=>simp only [go_sem,aL c1,ai hs (w:=[59]) rfl c1,h2,aa,am,aR,bh,aQ,Option.bind_assoc,reduceIte];exact BS.er (c:=6) (p:=pl ts en (a1)) (by decide) ((fb (ts:=ts) (en:=en) (c:=6) (p:=pl ts en (a1)) (by decide)).mono fun k e=>⟨rfl,by have hc:(6:Int)≠0:=(by decide);simp only [go_sem,fA,cN hc,dH hc,lz hc,fk hc,dU hc,ce hc,eI hc,eU hc,jq hc,bh,aa,e.1,e.2.1,e.2.2,true_and,and_self,Int.natCast_nonneg]⟩)
  |true=>
  have RQ:=bx h2;simp only [go_sem,aL c1,ai hs (w:=[59]) rfl c1,h2,aa,am,aR,bh,aQ,Option.bind_assoc,reduceIte];simp only [go_sem,hU m1,dQ m1];exact BS.ok (kB (by omega) (by omega) (by omega) KF NW ⟨by simp;omega,by simpa [b9] using Ng,by simp⟩ rfl (by rw [oJ];exact q19))
 |false=>
 cases p9:aM ts a [97,115,115,101,114,116] with
 |true=>
  have hl0:=bx p9;simp only [go_sem,nC,nM,bt,bP,aa,am,aR,bh,aQ,Option.bind_assoc,reduceIte,hn,aI b0,bZ hs (w:=[42]) rfl,ab hs (w:=[42]) rfl b0,bZ hs (w:=[105,102]) rfl,ab hs (w:=[105,102]) rfl b0,bZ hs (w:=[119,104,105,108,101]) rfl,ab hs (w:=[119,104,105,108,101]) rfl b0,bZ hs (w:=[102,111,114]) rfl,ab hs (w:=[102,111,114]) rfl b0,bZ hs (w:=[114,101,97,100]) rfl,ab hs (w:=[114,101,97,100]) rfl b0,bZ hs (w:=[112,114,105,110,116]) rfl,ab hs (w:=[112,114,105,110,116]) rfl b0,bZ hs (w:=[97,115,115,101,114,116]) rfl,ab hs (w:=[97,115,115,101,114,116]) rfl b0,bZ hs (w:=[115,116,111,112]) rfl,ab hs (w:=[115,116,111,112]) rfl b0,bZ hs (w:=[114,101,116,117,114,110]) rfl,ab hs (w:=[114,101,116,117,114,110]) rfl b0,show aM ts a [42]=false from aC p9 rfl,show aM ts a [105,102]=false from aC p9 rfl,show aM ts a [119,104,105,108,101]=false from aC p9 rfl,show aM ts a [102,111,114]=false from aC p9 rfl,show aM ts a [114,101,97,100]=false from aC p9 rfl,show aM ts a [112,114,105,110,116]=false from aC p9 rfl,show aM ts a [115,116,111,112]=false from aC p9 rfl,show aM ts a [114,101,116,117,114,110]=false from aC p9 rfl,p9]
  refine BS.bind (WC hs (a:=a + 1) ⟨by omega,p2,by omega,p4⟩) (fun x1 a1 d1 mH g1=>?_) (fun c p hc=>(fb (ts:=ts) (en:=en) (p:=p) hc).mono fun k e v a' ep d'=>⟨rfl,by simp only [go_sem,fA,cN hc,dH hc,lz hc,fk hc,dU hc,ce hc,eI hc,eU hc,jq hc,bh,aa,e.1,e.2.1,e.2.2,true_and,and_self,Int.natCast_nonneg]⟩)
  obtain⟨q11,q12,rfl,q13,KF,NW,OX,OY,Ng,q19⟩:=g1;have c1:a1≤4000000000000000000:=by omega
  have Nl:a1 + 1≤4000000000000000000:=by omega
  have m1:mH.length≤4000000:=by omega
  cases h2:aM ts (a1) [59] with
  |false=>simp only [go_sem,aL c1,ai hs (w:=[59]) rfl c1,h2,aa,am,aR,bh,aQ,Option.bind_assoc,reduceIte];exact BS.er (c:=6) (p:=pl ts en (a1)) (by decide) ((fb (ts:=ts) (en:=en) (c:=6) (p:=pl ts en (a1)) (by decide)).mono fun k e=>⟨rfl,by have hc:(6:Int)≠0:=(by decide);simp only [go_sem,fA,cN hc,dH hc,lz hc,fk hc,dU hc,ce hc,eI hc,eU hc,jq hc,bh,aa,e.1,e.2.1,e.2.2,true_and,and_self,Int.natCast_nonneg]⟩)
  |true=>
  have RQ:=bx h2;simp only [go_sem,aL c1,ai hs (w:=[59]) rfl c1,h2,aa,am,aR,bh,aQ,Option.bind_assoc,reduceIte];simp only [go_sem,hU m1,dQ m1];exact BS.ok (kB (by omega) (by omega) (by omega) KF NW ⟨by simp;omega,by simpa [b9] using Ng,by simp⟩ rfl (by rw [oJ];exact q19))
 |false=>
 cases xD:aM ts a [115,116,111,112] with
 |true=>
  have hl0:=bx xD;simp only [go_sem,nC,nM,bt,bP,aa,am,aR,bh,aQ,Option.bind_assoc,reduceIte,hn,aI b0,bZ hs (w:=[42]) rfl,ab hs (w:=[42]) rfl b0,bZ hs (w:=[105,102]) rfl,ab hs (w:=[105,102]) rfl b0,bZ hs (w:=[119,104,105,108,101]) rfl,ab hs (w:=[119,104,105,108,101]) rfl b0,bZ hs (w:=[102,111,114]) rfl,ab hs (w:=[102,111,114]) rfl b0,bZ hs (w:=[114,101,97,100]) rfl,ab hs (w:=[114,101,97,100]) rfl b0,bZ hs (w:=[112,114,105,110,116]) rfl,ab hs (w:=[112,114,105,110,116]) rfl b0,bZ hs (w:=[97,115,115,101,114,116]) rfl,ab hs (w:=[97,115,115,101,114,116]) rfl b0,bZ hs (w:=[115,116,111,112]) rfl,ab hs (w:=[115,116,111,112]) rfl b0,bZ hs (w:=[114,101,116,117,114,110]) rfl,ab hs (w:=[114,101,116,117,114,110]) rfl b0,show aM ts a [42]=false from aC xD rfl,show aM ts a [105,102]=false from aC xD rfl,show aM ts a [119,104,105,108,101]=false from aC xD rfl,show aM ts a [102,111,114]=false from aC xD rfl,show aM ts a [114,101,97,100]=false from aC xD rfl,show aM ts a [112,114,105,110,116]=false from aC xD rfl,show aM ts a [97,115,115,101,114,116]=false from aC xD rfl,show aM ts a [114,101,116,117,114,110]=false from aC xD rfl,xD]
  cases h2:aM ts (a + 1) [59] with
  |false=>simp only [go_sem,aL b1,ai hs (w:=[59]) rfl b1,h2,aa,am,aR,bh,aQ,Option.bind_assoc,reduceIte];exact BS.er (c:=6) (p:=pl ts en (a + 1)) (by decide) ((fb (ts:=ts) (en:=en) (c:=6) (p:=pl ts en (a + 1)) (by decide)).mono fun k e=>⟨rfl,by have hc:(6:Int)≠0:=(by decide);simp only [go_sem,fA,cN hc,dH hc,lz hc,fk hc,dU hc,ce hc,eI hc,eU hc,jq hc,bh,aa,e.1,e.2.1,e.2.2,true_and,and_self,Int.natCast_nonneg]⟩)
  |true=>
  have RQ:=bx h2;simp only [go_sem,aL b1,ai hs (w:=[59]) rfl b1,h2,aa,am,aR,bh,aQ,Option.bind_assoc,reduceIte];simp only [go_sem,hU bn,dQ bn];exact BS.ok (kB (by omega) (by omega) (by omega) (List.prefix_refl _) p4 (rZ rfl (by decide)) rfl (by simp [jA]))
 |false=>
 cases qa:aM ts a [114,101,116,117,114,110] with
 |true=>
  have hl0:=bx qa;simp only [go_sem,nC,nM,bt,bP,aa,am,aR,bh,aQ,Option.bind_assoc,reduceIte,hn,aI b0,bZ hs (w:=[42]) rfl,ab hs (w:=[42]) rfl b0,bZ hs (w:=[105,102]) rfl,ab hs (w:=[105,102]) rfl b0,bZ hs (w:=[119,104,105,108,101]) rfl,ab hs (w:=[119,104,105,108,101]) rfl b0,bZ hs (w:=[102,111,114]) rfl,ab hs (w:=[102,111,114]) rfl b0,bZ hs (w:=[114,101,97,100]) rfl,ab hs (w:=[114,101,97,100]) rfl b0,bZ hs (w:=[112,114,105,110,116]) rfl,ab hs (w:=[112,114,105,110,116]) rfl b0,bZ hs (w:=[97,115,115,101,114,116]) rfl,ab hs (w:=[97,115,115,101,114,116]) rfl b0,bZ hs (w:=[115,116,111,112]) rfl,ab hs (w:=[115,116,111,112]) rfl b0,bZ hs (w:=[114,101,116,117,114,110]) rfl,ab hs (w:=[114,101,116,117,114,110]) rfl b0,show aM ts a [42]=false from aC qa rfl,show aM ts a [105,102]=false from aC qa rfl,show aM ts a [119,104,105,108,101]=false from aC qa rfl,show aM ts a [102,111,114]=false from aC qa rfl,show aM ts a [114,101,97,100]=false from aC qa rfl,show aM ts a [112,114,105,110,116]=false from aC qa rfl,show aM ts a [97,115,115,101,114,116]=false from aC qa rfl,show aM ts a [115,116,111,112]=false from aC qa rfl,qa]
  refine BS.bind (EY hs (a:=a + 1) ⟨by omega,p2,by omega,p4⟩) (fun x1 a1 d1 mH g1=>?_) (fun c p hc=>(fb (ts:=ts) (en:=en) (p:=p) hc).mono fun k e v a' ep d'=>⟨rfl,by simp only [go_sem,fA,cN hc,dH hc,lz hc,fk hc,dU hc,ce hc,eI hc,eU hc,jq hc,bh,aa,e.1,e.2.1,e.2.2,true_and,and_self,Int.natCast_nonneg]⟩)
  obtain⟨q11,q12,rfl,q13,KF,NW,OX,OY,Ng,q19⟩:=g1;have c1:a1≤4000000000000000000:=by omega
  have Nl:a1 + 1≤4000000000000000000:=by omega
  have m1:mH.length≤4000000:=by omega
  cases h2:aM ts (a1) [59] with
  |false=>simp only [go_sem,aL c1,ai hs (w:=[59]) rfl c1,h2,aa,am,aR,bh,aQ,Option.bind_assoc,reduceIte];exact BS.er (c:=6) (p:=pl ts en (a1)) (by decide) ((fb (ts:=ts) (en:=en) (c:=6) (p:=pl ts en (a1)) (by decide)).mono fun k e=>⟨rfl,by have hc:(6:Int)≠0:=(by decide);simp only [go_sem,fA,cN hc,dH hc,lz hc,fk hc,dU hc,ce hc,eI hc,eU hc,jq hc,bh,aa,e.1,e.2.1,e.2.2,true_and,and_self,Int.natCast_nonneg]⟩)
  |true=>
  have RQ:=bx h2;simp only [go_sem,aL c1,ai hs (w:=[59]) rfl c1,h2,aa,am,aR,bh,aQ,Option.bind_assoc,reduceIte];simp only [go_sem,hU m1,dQ m1];exact BS.ok (kB (by omega) (by omega) (by omega) KF NW ⟨by simp;omega,by simpa [b9] using Ng,by simp⟩ rfl (by rw [oJ];exact q19))
 |false=>simp only [go_sem,nC,nM,bt,bP,aa,am,aR,bh,aQ,Option.bind_assoc,reduceIte,hn,aI b0,bZ hs (w:=[42]) rfl,ab hs (w:=[42]) rfl b0,bZ hs (w:=[105,102]) rfl,ab hs (w:=[105,102]) rfl b0,bZ hs (w:=[119,104,105,108,101]) rfl,ab hs (w:=[119,104,105,108,101]) rfl b0,bZ hs (w:=[102,111,114]) rfl,ab hs (w:=[102,111,114]) rfl b0,bZ hs (w:=[114,101,97,100]) rfl,ab hs (w:=[114,101,97,100]) rfl b0,bZ hs (w:=[112,114,105,110,116]) rfl,ab hs (w:=[112,114,105,110,116]) rfl b0,bZ hs (w:=[97,115,115,101,114,116]) rfl,ab hs (w:=[97,115,115,101,114,116]) rfl b0,bZ hs (w:=[115,116,111,112]) rfl,ab hs (w:=[115,116,111,112]) rfl b0,bZ hs (w:=[114,101,116,117,114,110]) rfl,ab hs (w:=[114,101,116,117,114,110]) rfl b0,oq,LW,tf,sx,oo,te,p9,xD,qa,oY,Jq];exact BS.er (c:=6) (p:=pl ts en a) (by decide) ((fb (ts:=ts) (en:=en) (c:=6) (p:=pl ts en a) (by decide)).mono fun k e=>⟨rfl,by have hc:(6:Int)≠0:=(by decide);simp only [go_sem,fA,cN hc,dH hc,lz hc,fk hc,dU hc,ce hc,eI hc,eU hc,jq hc,bh,aa,e.1,e.2.1,e.2.2,true_and,and_self,Int.natCast_nonneg]⟩)
theorem Wr(hs:oU ts):∀ m a,ts.length - a≤m→∀ a',a≤a'→∀ d ns,xj ts a' d ns→StB ts en a' d ns∧BlB ts en a' d ns:=by
 intro m;induction m with
 |zero=>intro a hm a' ha d ns hp;exact⟨Pe hs hp fun a2 d2 pZ h2 p2=>by have:=p2.hi;have:=hp.hi;omega,Lp hs hp fun a2 d2 pZ h2 p2=>by have:=p2.hi;have:=hp.hi;omega⟩
 |succ m ih=>intro a hm a' ha d ns hp;exact⟨Pe hs hp fun a2 d2 pZ h2 p2=>(ih (a + 1) (by omega) a2 (by omega) d2 pZ p2).2,Lp hs hp fun a2 d2 pZ h2 p2=>(ih (a + 1) (by omega) a2 (by omega) d2 pZ p2).1⟩
theorem Y6(hs:oU ts)(hp:xj ts a d ns):StB ts en a d ns:=(Wr hs _ a (Nat.le_refl _) a (Nat.le_refl _) d ns hp).1
end
end Go.Fx.R5
namespace Go.Fx.R5
open Go Go.Fx
section
variable {ts:List yQ} {en:Int} {c p:Int} {a d:Nat} {ns:List eq}
def EO(pre:XI)(r:Nk)(o:Option ((Int×List eq×XI×Unit)⊕(Int×Int×Unit))):Prop:=match r with
 |.ok l a ns=>o=some (.inl ((a:Int),ns,pre ++ l,()))
 |.er c p=>o=some (.inr (c,p,()))
def EP(r:Nk)(o:Option (Int×List eq×Int×Int×XI×Unit)):Prop:=match r with
 |.ok l a ns=>o=some ((a:Int),ns,0,0,l,())
 |.er c p=>∃(l:XI) (a:Nat) (ns:List eq),o=some ((a:Int),ns,c,p,l,())∧l.length≤2000000
theorem Bs{w:an}(h:¬ a < ts.length):aM ts a w=false:=by
 cases h':aM ts a w with
 |false=>rfl
 |true=>exact absurd (bx h') h
theorem Qf{k:Int}(hk:vP k=true)(hs0:b9 k []=true)(h4:k≠4){l:XI}{y:eq}(hy:y.1=k)(I4:y.2.2.2.2 = [])(h:iO vP ns l)(hp:jl ns):
  jl (ns ++ [y])∧iO vP (ns ++ [y]) (l ++ [(ns.length:Int)]):=by
 obtain⟨k',a',n',s',l'⟩:=y;simp only at hy I4;subst hy;subst I4;refine⟨hp.add (rZ hs0 h4),(h.up (List.prefix_append _ _)).add (by omega) (by simp;omega) (by rw [qG];exact hk)⟩
theorem Sz(hs:oU ts):∀ m a (ns:List eq) (l:XI),ts.length - a≤m→xj ts a d ns→iO vP ns l→1≤l.length→l.length≤a→
  ∃ r,Nj ts vP a ns l.length (jA ns l) r∧co fun q k=>EO [] r (bY q k ts en (a:Int) ns l)∧EP (p7 ts en [41] r) (au q k ts en (a:Int) ns 0 0 l):=by
 have h7:=hs.len;intro m;induction m with
 |zero=>
  intro a ns l hm hp hk hl hl2;have bo:¬ a < ts.length:=by omega
  have b0:a≤4000000000000000000:=by have:=hp.hi;omega
  have bk:l.length≤4000000:=by have:=hp.hi;omega
  have bl:(l.length:Int) > 0:=by omega
  have hc:(6:Int)≠0:=by decide
  refine⟨.ok l a ns,⟨by omega,hp.hi,by omega,List.prefix_refl _,hp.all,hk,by omega,by omega⟩,co.succ (co.succ (co.of fun q k=>⟨?_,?_⟩))⟩
  ·simp only [go_sem,EO,List.nil_append,bY,aI b0,Bs bo,reduceIte]
  ·simp only [go_sem,p7,Bs bo,reduceIte]
   refine⟨l ++ [0],a,ns,?_,by have:=hp.hi;simp;omega⟩
   rw [au];simp only [go_sem,aa,bZ hs (w:=[41]) rfl,Bs bo,bl,ai hs (w:=[44]) rfl b0,reduceIte,bh,dU hc,ce hc,cq bk];rw [au];simp only [go_sem,aa,show((6:Int) == 0)=false from rfl]
 |succ m ih=>
  intro a ns l hm hp hk hl hl2;obtain⟨p1,p2,p3,p4⟩:=hp;have b0:a≤4000000000000000000:=by omega
  have b1:a + 1≤4000000000000000000:=by omega
  have bn:ns.length≤4000000:=by omega
  have bk:l.length≤4000000:=by omega
  have bl:(l.length:Int) > 0:=by omega
  have hc:(6:Int)≠0:=by decide
  cases E8:aM ts a [44] with
  |true=>
   have ma:aM ts a [41]=false:=aC E8 rfl;have bo:=bx E8;cases hn:tq ts (a + 1) 1 with
   |false=>
    refine⟨.er 6 (pl ts en (a + 1)),hc,co.succ (co.succ (co.of fun q k=>⟨?_,l ++ [0],a + 1,ns,?_,by simp;omega⟩))⟩
    ·simp only [go_sem,EO,bY,aI b0,E8,reduceIte,fP b1 bn,hn]
    ·rw [au]
     simp only [go_sem,aa,bZ hs (w:=[41]) rfl,ma,E8,bl,ai hs (w:=[44]) rfl b0,reduceIte,bh,cW b1,hn,ce hc,cq bk];rw [au];simp only [go_sem,aa,show((6:Int) == 0)=false from rfl]
   |true=>
    have RR:=jD hn;obtain⟨x1,x2⟩:=Qf (k:=5) (y:=(5,(tk ts (a + 1)).2.1,0,(tk ts (a + 1)).2.2.1,[])) rfl rfl (by decide) rfl rfl hk p4
    obtain⟨r,gi,gr⟩:=ih (a + 1 + 1) (ns ++ [(5,(tk ts (a + 1)).2.1,0,(tk ts (a + 1)).2.2.1,[])]) (l ++ [(ns.length:Int)]) (by omega) ⟨by omega,p2,by simp;omega,x1⟩ x2 (by simp) (by simp;omega)
    refine⟨r,gi.from (by omega) (by simp;omega) (List.prefix_append _ _) (by simp;omega) (by rw [qe,oJ,nN,yZ,pz (List.prefix_append _ _) hk.v];simp;omega),co.succ (gr.mono fun q k e=>⟨?_,?_⟩)⟩
    ·simp only [go_sem,bY,aI b0,E8,reduceIte,fP b1 bn,hn,cq bk]
     exact e.1
    ·simp only [go_sem,au,aa,bZ hs (w:=[41]) rfl,ma,E8,bl,ai hs (w:=[44]) rfl b0,reduceIte,bh,cW b1,hn,sK RR,dQ bn,cq bk]
     exact e.2
  |false=>
   cases ma:aM ts a [41] with
   |true=>
    refine⟨.ok l a ns,⟨by omega,p1,by omega,List.prefix_refl _,p4,hk,by omega,by omega⟩,co.succ (co.of fun q k=>⟨?_,?_⟩)⟩
    ·simp only [go_sem,EO,List.nil_append,bY,aI b0,E8,reduceIte]
    ·simp only [go_sem,p7,ma,reduceIte,EP,au,aa,bZ hs (w:=[41]) rfl]
   |false=>
    refine⟨.ok l a ns,⟨by omega,p1,by omega,List.prefix_refl _,p4,hk,by omega,by omega⟩,co.succ (co.succ (co.of fun q k=>⟨?_,?_⟩))⟩
    ·simp only [go_sem,EO,List.nil_append,bY,aI b0,E8,reduceIte]
    ·simp only [go_sem,p7,ma,reduceIte]
     refine⟨l ++ [0],a,ns,?_,by simp;omega⟩
     rw [au];simp only [go_sem,aa,bZ hs (w:=[41]) rfl,ma,E8,bl,ai hs (w:=[44]) rfl b0,reduceIte,bh,dU hc,ce hc,cq bk];rw [au];simp only [go_sem,aa,show((6:Int) == 0)=false from rfl]
theorem Sy(hs:oU ts)(hp:xj ts a d ns):∃ r,Nj ts vP a ns 0 0 r∧(∀ l' a' ep,r = .ok l' a' ep→aM ts a' [41]=true)∧Ev fun k=>
    (∀ f:XI×Int×List eq→IT,(aa f fun cD=>(aG ts (a:Int) [41]).bind fun r5=>
      bif !r5.1 then
       (eR ts en r5.2.1 ns 5).bind fun r=>match r with
       |.inl r6=>
        (lq ([]:XI) ([r6.1])).bind fun l=>
        (bY k k ts en r6.2.1 r6.2.2.1 l).bind fun r=>match r with
        |.inl o=>
         (a8 ts en o.1 ([41]:an)).bind fun r=>match r with
         |.inl r8=>
          cD (o.2.2.1,r8.1,o.2.1)
         |.inr r9=>
          some (.inr (r9.1,r9.2.1,()))
        |.inr o2=>
         some (.inr (o2.1,o2.2.1,()))
       |.inr r7=>
        some (.inr (r7.1,r7.2.1,()))
      else
       cD ([],r5.2.1,ns))=match r with | .ok l' a' ep=>f (l',((a' + 1:Nat):Int),ep) | .er c p=>some (.inr (c,p,())))∧EP r (au k k ts en (a:Int) ns 0 0 []):=by
  have h7:=hs.len;obtain⟨p1,p2,p3,p4⟩:=hp;have b0:a≤4000000000000000000:=by omega
  have bn:ns.length≤4000000:=by omega
  have hc:(6:Int)≠0:=by decide
  have a0:∀ v:Int,lq ([]:XI) [v]=some [v]:=fun v=>by simp [lq]
  cases ma:aM ts a [41] with
  |true=>
    have hS:Ev fun k=>EP (.ok [] a ns) (au k k ts en (a:Int) ns 0 0 []):=
      co.jN (p2:=fun q k=>EP (.ok [] a ns) (au q k ts en (a:Int) ns 0 0 [])) (co.succ (co.of fun q k=>by
        simp only [go_sem,EP,au,aa,bZ hs (w:=[41]) rfl,ma]))
    refine⟨.ok [] a ns,⟨by omega,p1,by omega,List.prefix_refl _,p4,iO.nil,by simp,by simp [jA]⟩,(fun _ _ _ h=>by cases h;exact ma),hS.mono fun k e=>⟨fun f=>?_,e⟩⟩
    simp only [go_sem,aa,aI b0,ma,reduceIte]
  |false=>
  cases hn:tq ts a 1 with
  |false=>
    have hL:Ev fun k=>EP (.er 6 (pl ts en a)) (au k k ts en (a:Int) ns 0 0 []):=
      co.jN (p2:=fun q k=>EP (.er 6 (pl ts en a)) (au q k ts en (a:Int) ns 0 0 [])) (co.succ (co.succ (co.of fun q k=>by
        refine⟨[0],a,ns,?_,by simp⟩
        rw [au];simp only [go_sem,aa,bZ hs (w:=[41]) rfl,ma,List.length_nil,show(((0:Nat):Int) > 0)=False from by simp,bh,cW b0,hn,reduceIte,ce hc,a0]
        rw [au];simp only [go_sem,aa,show((6:Int) == 0)=false from rfl])))
    refine⟨.er 6 (pl ts en a),hc,(fun _ _ _ h=>by cases h),hL.mono fun k e=>⟨fun f=>?_,e⟩⟩
    simp only [go_sem,aa,aI b0,ma,reduceIte,fP b0 bn,hn]
  |true=>
    have bo:=jD hn;obtain⟨x1,x2⟩:=Qf (k:=5) (y:=(5,(tk ts a).2.1,0,(tk ts a).2.2.1,[])) rfl rfl (by decide) rfl rfl (iO.nil (ns:=ns)) p4
    obtain⟨r,gi,gr⟩:=Sz (en:=en) (d:=d) hs _ (a + 1) (ns ++ [(5,(tk ts a).2.1,0,(tk ts a).2.2.1,[])]) ([] ++ [(ns.length:Int)]) (Nat.le_refl _) ⟨by omega,p2,by simp;omega,x1⟩ x2 (by simp) (by simp)
    have hI:Ev fun k=>EO [] r (bY k k ts en ((a + 1:Nat):Int) (ns ++ [(5,(tk ts a).2.1,0,(tk ts a).2.2.1,[])]) [(ns.length:Int)]):=(gr.mono fun q k e=>e.1).jN;have hS:Ev fun k=>EP (p7 ts en [41] r) (au k k ts en (a:Int) ns 0 0 []):=
      co.jN (p2:=fun q k=>EP (p7 ts en [41] r) (au q k ts en (a:Int) ns 0 0 [])) (co.succ (gr.mono fun q k e=>by
        simp only [go_sem,au,aa,bZ hs (w:=[41]) rfl,ma,List.length_nil,show(((0:Nat):Int) > 0)=False from by simp,bh,cW b0,hn,reduceIte,sK bo,dQ bn,a0]
        exact e.2))
    have hE:=hI.and hS;cases r with
    |er c p=>
      refine⟨.er c p,gi,(fun _ _ _ h=>by cases h),hE.mono fun k e=>⟨fun f=>?_,e.2⟩⟩
      simp only [go_sem,aa,aI b0,ma,reduceIte,fP b0 bn,hn,a0];rw [show bY k k ts en ((a + 1:Nat):Int) _ [(ns.length:Int)]=_ from e.1]
      rfl
    |ok l' a' ep=>
      have gi':LOk ts vP (a + 1) (ns ++ [(5,(tk ts a).2.1,0,(tk ts a).2.2.1,[])]) ([] ++ [(ns.length:Int)]).length (jA (ns ++ [(5,(tk ts a).2.1,0,(tk ts a).2.2.1,[])]) ([] ++ [(ns.length:Int)])) l' a' ep:=gi;obtain⟨g1,g2,g3,g4,g5,g6,g7,g8⟩:=gi';rw [List.nil_append,oJ,nN,yZ] at g8;simp only [List.length_append,List.length_cons,List.length_nil] at g3 g7 g8;have b4:a'≤4000000000000000000:=by omega
      cases h3:aM ts a' [41] with
      |true=>
        refine⟨.ok l' a' ep,⟨by omega,g2,by omega,(List.prefix_append _ _).trans g4,g5,g6,by omega,by omega⟩,(fun _ _ _ h=>by cases h;exact h3),hE.mono fun k e=>⟨fun f=>?_,?_⟩⟩
        · simp only [go_sem,aa,aI b0,ma,reduceIte,fP b0 bn,hn,a0]
          rw [show bY k k ts en ((a + 1:Nat):Int) _ [(ns.length:Int)]=_ from e.1]
          simp only [go_sem,aL b4,h3,reduceIte,List.nil_append]
        · have e2:=e.2
          simp only [p7,h3,reduceIte] at e2;exact e2
      |false=>
        refine⟨.er 6 (pl ts en a'),hc,(fun _ _ _ h=>by cases h),hE.mono fun k e=>⟨fun f=>?_,?_⟩⟩
        · simp only [go_sem,aa,aI b0,ma,reduceIte,fP b0 bn,hn,a0]
          rw [show bY k k ts en ((a + 1:Nat):Int) _ [(ns.length:Int)]=_ from e.1]
          simp only [go_sem,aL b4,h3,reduceIte]
        · have e2:=e.2
          simp only [go_sem,p7,h3,reduceIte] at e2;exact e2
theorem TO(hs:oU ts){kk:Int}(hk1:vP kk=true)(hk2:b9 kk []=true)(hk4:kk≠4)(pre:XI)(adH:pre.length≤1000000):∀ m a (ns:List eq) (l:XI),ts.length - a≤m→xj ts a d ns→iO vP ns l→l.length≤a→
  ∃ r,Nj ts vP a ns l.length (jA ns l) r∧co fun q k=>EO pre r (cG q k ts en kk (a:Int) ns (pre ++ l))∧EP r (cS q k ts en kk (a:Int) ns 0 0 l):=by
 have h7:=hs.len;intro m;induction m with
 |zero=>
  intro a ns l hm hp hk hl2;have bo:¬ a < ts.length:=by omega
  have b0:a≤4000000000000000000:=by have:=hp.hi;omega
  refine⟨.ok l a ns,⟨by omega,hp.hi,by omega,List.prefix_refl _,hp.all,hk,by omega,by omega⟩,co.succ (co.of fun q k=>⟨?_,?_⟩)⟩
  ·simp only [go_sem,EO,cG,aI b0,Bs bo,reduceIte]
  ·simp only [go_sem,EP,cS,ab hs (w:=[44]) rfl b0,Bs bo,reduceIte]
 |succ m ih=>
  intro a ns l hm hp hk hl2;obtain⟨p1,p2,p3,p4⟩:=hp;have b0:a≤4000000000000000000:=by omega
  have b1:a + 1≤4000000000000000000:=by omega
  have bn:ns.length≤4000000:=by omega
  have bk:l.length≤4000000:=by omega
  have bp:(pre ++ l).length≤4000000:=by simp;omega
  have hc:(6:Int)≠0:=by decide
  cases E8:aM ts a [44] with
  |false=>
   refine⟨.ok l a ns,⟨by omega,p1,by omega,List.prefix_refl _,p4,hk,by omega,by omega⟩,co.succ (co.of fun q k=>⟨?_,?_⟩)⟩
   ·simp only [go_sem,EO,cG,aI b0,E8,reduceIte]
   ·simp only [go_sem,EP,cS,ab hs (w:=[44]) rfl b0,E8,reduceIte]
  |true=>
   have bo:=bx E8;cases hn:tq ts (a + 1) 1 with
   |false=>
    refine⟨.er 6 (pl ts en (a + 1)),hc,co.succ (co.succ (co.of fun q k=>⟨?_,l ++ [0],a + 1,ns,?_,by simp;omega⟩))⟩
    ·simp only [go_sem,EO,cG,aI b0,E8,reduceIte,fP b1 bn,hn]
    ·rw [cS]
     simp only [go_sem,ab hs (w:=[44]) rfl b0,E8,reduceIte,bh,cW b1,hn,ce hc,cq bk];rw [cS];simp only [go_sem,dH hc]
   |true=>
    have RR:=jD hn;obtain⟨x1,x2⟩:=Qf (k:=kk) (y:=(kk,(tk ts (a + 1)).2.1,0,(tk ts (a + 1)).2.2.1,[])) hk1 hk2 hk4 rfl rfl hk p4;obtain⟨r,gi,gr⟩:=ih (a + 1 + 1) (ns ++ [(kk,(tk ts (a + 1)).2.1,0,(tk ts (a + 1)).2.2.1,[])]) (l ++ [(ns.length:Int)]) (by omega) ⟨by omega,p2,by simp;omega,x1⟩ x2 (by simp;omega)
    refine⟨r,gi.from (by omega) (by simp;omega) (List.prefix_append _ _) (by simp;omega) (by rw [qe,oJ,nN,yZ,pz (List.prefix_append _ _) hk.v];simp;omega),co.succ (gr.mono fun q k e=>⟨?_,?_⟩)⟩
    ·simp only [go_sem,cG,aI b0,E8,reduceIte,fP b1 bn,hn,cq bp,List.append_assoc]
     exact e.1
    ·simp only [go_sem,cS,ab hs (w:=[44]) rfl b0,E8,reduceIte,bh,cW b1,hn,sK RR,dQ bn,cq bk]
     exact e.2
theorem R7(hs:oU ts)(pre:XI)(adH:pre.length≤1000000):∀ m a (ns:List eq) (l:XI),ts.length - a≤m→xj ts a d ns→iO vP ns l→l.length≤a→
  ∃ r,Nj ts vP a ns l.length (jA ns l) r∧co fun q k=>EO pre r (ct q k ts en (a:Int) ns (pre ++ l))∧EP r (cR q k ts en (a:Int) ns 0 0 l):=by
 have h7:=hs.len;intro m;induction m with
 |zero=>
  intro a ns l hm hp hk hl2;have bo:¬ a < ts.length:=by omega
  have b0:a≤4000000000000000000:=by have:=hp.hi;omega
  refine⟨.ok l a ns,⟨by omega,hp.hi,by omega,List.prefix_refl _,hp.all,hk,by omega,by omega⟩,co.succ (co.of fun q k=>⟨?_,?_⟩)⟩
  ·simp only [go_sem,EO,ct,aa,sk b0,Bs bo]
  ·simp only [go_sem,EP,cR,aa,bZ hs (w:=[118,97,114]) rfl,bZ hs (w:=[114,101,102]) rfl,Bs bo]
 |succ m ih=>
  intro a ns l hm hp hk hl2;obtain⟨p1,p2,p3,p4⟩:=hp;have b0:a≤4000000000000000000:=by omega
  have b1:a + 1≤4000000000000000000:=by omega
  have bn:ns.length≤4000000:=by omega
  have bk:l.length≤4000000:=by omega
  have bp:(pre ++ l).length≤4000000:=by simp;omega
  have hc:(6:Int)≠0:=by decide
  by_cases hv:aM ts a [118,97,114]=true∨aM ts a [114,101,102]=true
  ·have bo:a < ts.length:=hv.elim bx bx
   obtain⟨kk,hk1,hk2,hk4,Vr,Vs⟩:∃ kk:Int,vP kk=true∧b9 kk []=true∧kk≠4∧
     (∀ q k,ct q (k + 1) ts en (a:Int) ns (pre ++ l)=(eR ts en ((a + 1:Nat):Int) ns kk).bind fun r=>match r with
      |.inl sO=>(lq (pre ++ l) ([sO.1])).bind fun l2=>(cG q q ts en kk sO.2.1 sO.2.2.1 l2).bind fun r=>match r with
       |.inl o3=>(a8 ts en o3.1 ([59]:an)).bind fun r=>match r with
        |.inl yp=>ct q k ts en yp.1 o3.2.1 o3.2.2.1
        |.inr AY=>some (.inr (AY.1,AY.2.1,()))
       |.inr o4=>some (.inr (o4.1,o4.2.1,()))
      |.inr sY=>some (.inr (sY.1,sY.2.1,())))∧
     (∀ q k,cR q (k + 1) ts en (a:Int) ns 0 0 l=(da ts ((a + 1:Nat):Int) en).bind fun r4=>(dB ts ((a + 1:Nat):Int) en 0 0).bind fun r5=>
      (aW ns r5.2.2.1 (kk,r4.1,0,r5.1,[])).bind fun r6=>(lq l ([r6.1])).bind fun l2=>
      (cS q q ts en kk r5.2.1 r6.2.1 r5.2.2.1 r5.2.2.2.1 l2).bind fun o=>(aO ts o.1 en o.2.2.1 o.2.2.2.1 ([59]:an)).bind fun r7=>
      cR q k ts en r7.1 o.2.1 r7.2.1 r7.2.2.1 o.2.2.2.2.1):=by
    rcases hv with hv | hv
    ·have hr:aM ts a [114,101,102]=false:=aC hv rfl
     exact⟨6,rfl,rfl,by decide,fun q k=>by simp only [go_sem,ct,aa,sk b0,hv,hr,af (show a < _ by omega)];rfl,
      fun q k=>by simp only [go_sem,cR,aa,bZ hs (w:=[118,97,114]) rfl,bZ hs (w:=[114,101,102]) rfl,hv,hr,af (show a < _ by omega)]⟩
    ·have hr:aM ts a [118,97,114]=false:=aC hv rfl
     exact⟨7,rfl,rfl,by decide,fun q k=>by simp only [go_sem,ct,aa,sk b0,hv,hr,af (show a < _ by omega)];rfl,
      fun q k=>by simp only [go_sem,cR,aa,bZ hs (w:=[118,97,114]) rfl,bZ hs (w:=[114,101,102]) rfl,hv,hr,af (show a < _ by omega)]⟩
   cases hn:tq ts (a + 1) 1 with
   |false=>
    refine⟨.er 6 (pl ts en (a + 1)),hc,?_⟩;have hL:Ev fun q=>∃ l',cS q q ts en kk ((a + 1:Nat):Int) ns 6 (pl ts en (a + 1)) (l ++ [0])=some (((a + 1:Nat):Int),ns,6,pl ts en (a + 1),l',())∧l'.length≤2000000:=
     co.jN (p2:=fun q k=>∃ l',cS q k ts en kk ((a + 1:Nat):Int) ns 6 (pl ts en (a + 1)) (l ++ [0])=some (((a + 1:Nat):Int),ns,6,pl ts en (a + 1),l',())∧l'.length≤2000000) (co.succ (co.of fun q k=>⟨l ++ [0],by simp only [go_sem,cS,dH hc],by simp;omega⟩))
    refine co.succ (co.succ (hL.tX.mono fun q k e=>?_));obtain⟨l',e,KV⟩:=e;refine⟨?_,l',a + 1,ns,?_,KV⟩
    ·simp only [go_sem,EO,Vr,fP b1 bn,hn,reduceIte]
    ·rw [Vs]
     simp only [go_sem,bh,cW b1,hn,reduceIte,ce hc,cq bk,e,cN hc];rw [cR];simp only [go_sem,aa,lz hc]
   |true=>
    have RR:=jD hn;obtain⟨x1,x2⟩:=Qf (k:=kk) (y:=(kk,(tk ts (a + 1)).2.1,0,(tk ts (a + 1)).2.2.1,[])) hk1 hk2 hk4 rfl rfl hk p4;obtain⟨r,gi,gr⟩:=TO (en:=en) (d:=d) hs hk1 hk2 hk4 pre adH _ (a + 1 + 1) (ns ++ [(kk,(tk ts (a + 1)).2.1,0,(tk ts (a + 1)).2.2.1,[])]) (l ++ [(ns.length:Int)]) (Nat.le_refl _) ⟨by omega,p2,by simp;omega,x1⟩ x2 (by simp;omega)
    have gr:=gr.jN;cases r with
    |er c p=>
     have hc:c≠0:=gi;refine⟨.er c p,gi,co.succ (co.succ (gr.tX.mono fun q k e=>?_))⟩;obtain⟨e1,l',a',ep,e2,KV⟩:=e;refine⟨?_,l',a',ep,?_,KV⟩
     ·simp only [go_sem,EO,Vr,fP b1 bn,hn,reduceIte,cq bp,List.append_assoc]
      rw [show cG q q ts en kk _ _ _=_ from e1];rfl
     ·rw [Vs]
      simp only [go_sem,bh,cW b1,hn,reduceIte,sK RR,dQ bn,cq bk,e2,cN hc];rw [cR];simp only [go_sem,aa,lz hc]
    |ok l' a' ep=>
     have gi':LOk ts vP (a + 1 + 1) (ns ++ [(kk,(tk ts (a + 1)).2.1,0,(tk ts (a + 1)).2.2.1,[])]) (l ++ [(ns.length:Int)]).length (jA (ns ++ [(kk,(tk ts (a + 1)).2.1,0,(tk ts (a + 1)).2.2.1,[])]) (l ++ [(ns.length:Int)])) l' a' ep:=gi;obtain⟨g1,g2,g3,g4,g5,g6,g7,g8⟩:=gi';rw [qe,oJ,nN,yZ,pz (List.prefix_append _ _) hk.v] at g8;simp only [List.length_append,List.length_cons,List.length_nil] at g3 g7 g8;have b4:a'≤4000000000000000000:=by omega
     cases I2:aM ts a' [59] with
     |false=>
      refine⟨.er 6 (pl ts en a'),hc,co.succ (co.succ (gr.tX.mono fun q k e=>?_))⟩;obtain⟨e1,e2⟩:=e;refine⟨?_,l',a',ep,?_,by omega⟩
      ·simp only [go_sem,EO,Vr,fP b1 bn,hn,reduceIte,cq bp,List.append_assoc]
       rw [show cG q q ts en kk _ _ _=_ from e1]
       simp only [go_sem,aL b4,I2,reduceIte]
      ·rw [Vs]
       simp only [go_sem,bh,cW b1,hn,reduceIte,sK RR,dQ bn,cq bk];rw [show cS q q ts en kk _ _ 0 0 _=_ from e2]
       simp only [go_sem,ai hs (w:=[59]) rfl b4,I2,reduceIte];rw [cR];simp only [go_sem,aa,lz hc]
     |true=>
      have ae1:=bx I2;obtain⟨r,fi,fr⟩:=ih (a' + 1) ep l' (by omega) ⟨by omega,p2,by omega,g5⟩ g6 (by omega)
      refine⟨r,fi.from (by omega) (by omega) ((List.prefix_append _ _).trans g4) (by omega) (by omega),co.succ ((gr.tX.and fr).mono fun q k e=>?_)⟩
      obtain⟨⟨e1,e2⟩,e3,e4⟩:=e;refine⟨?_,?_⟩
      ·simp only [go_sem,Vr,fP b1 bn,hn,reduceIte,cq bp,List.append_assoc]
       rw [show cG q q ts en kk _ _ _=_ from e1]
       simp only [go_sem,aL b4,I2,reduceIte];exact e3
      ·rw [Vs]
       simp only [go_sem,bh,cW b1,hn,reduceIte,sK RR,dQ bn,cq bk];rw [show cS q q ts en kk _ _ 0 0 _=_ from e2]
       simp only [go_sem,ai hs (w:=[59]) rfl b4,I2,reduceIte];exact e4
  ·simp only [not_or,Bool.not_eq_true] at hv
   refine⟨.ok l a ns,⟨by omega,p1,by omega,List.prefix_refl _,p4,hk,by omega,by omega⟩,co.succ (co.of fun q k=>⟨?_,?_⟩)⟩
   ·simp only [go_sem,EO,ct,aa,sk b0,hv.1,hv.2]
   ·simp only [go_sem,EP,cR,aa,bZ hs (w:=[118,97,114]) rfl,bZ hs (w:=[114,101,102]) rfl,hv.1,hv.2]
end
end Go.Fx.R5
namespace Go.Fx.R5
open Go Go.Fx
section
variable {ts:List yQ} {en:Int} {c p:Int} {a d:Nat} {ns:List eq}
theorem Oc(l:XI)(q:Nat):∀(m i k:Nat) (cB:XI),m + i=l.length→m < k→cB.length + m≤4000000→l.length≤4000000→eE q k l cB (i:Int)=some (cB ++ l.drop i,())
 |0,i,k + 1,cB,h,_,h2,_=>by
  have:¬ i < l.length:=by omega
  have e:l.drop i = []:=by simp;omega
  rw [e];simp [eE,this]
 |m + 1,i,k + 1,cB,h,hk,h2,h3=>by
  have bo:i < l.length:=by omega
  have e:l.drop i=l[i] :: l.drop (i + 1):=List.drop_eq_getElem_cons bo;have e2:=Oc l q m (i + 1) k (cB ++ [l[i]]) (by omega) (by omega) (by simp;omega) h3
  simp only [go_sem,eE,Int.ofNat_lt,bo,cQ bo,Int.toNat_natCast,cq (show cB.length≤4000000 by omega),af (show i < _ by omega),e2,e]
  simp
theorem Ry(l cB:XI)(k:Nat)(hk:l.length < k)(h:cB.length + l.length≤4000000):eE k k l cB 0=some (cB ++ l,()):=
 Oc l k l.length 0 k cB rfl hk h (by omega)
theorem aeF(l cB:XI)(h:cB.length + l.length≤4000000):Ev fun k=>eE k k l cB 0=some (cB ++ l,()):=⟨l.length + 1,fun k hk=>Ry l cB k (by omega) h⟩
theorem UT(q:Nat):∀ k t e p n d c a b,eF q k t e p n d c a b=eg (eA q) (lG q) (iS q) q k t e p n d c a b
 |0,_,_,_,_,_,_,_,_=>rfl
 |k + 1,t,e,p,n,d,c,a,b=>by simp only [eF,eg,UT q k]
theorem adb(hc:c≠0):Ev fun k=>(∀(a:Nat) (ns:List eq) (l:XI),au k k ts en (a:Int) ns c p l=some ((a:Int),ns,c,p,l,()))∧
  (∀(a:Nat) (ns:List eq) (d:Int) (l:XI),eF k k ts en (a:Int) ns d c p l=some ((a:Int),ns,d,c,p,l,())):=
 co.jN (p2:=fun q k=>(∀(a:Nat) (ns:List eq) (l:XI),au q k ts en (a:Int) ns c p l=some ((a:Int),ns,c,p,l,()))∧
  (∀(a:Nat) (ns:List eq) (d:Int) (l:XI),eF q k ts en (a:Int) ns d c p l=some ((a:Int),ns,d,c,p,l,()))) (co.succ (co.of fun q k=>⟨fun a ns l=>by
   simp only [go_sem,au,aa,beq_eq_false_iff_ne.2 hc],fun a ns d l=>by
   simp only [go_sem,eF,aa,beq_eq_false_iff_ne.2 hc]⟩))
theorem LN(hc:c≠0):Ev fun k=>(∀(a:Nat) (ns:List eq) (l:XI),au k k ts en (a:Int) ns c p l=some ((a:Int),ns,c,p,l,())):=(adb hc).mono fun _ e=>e.1
theorem aeC(hs:oU ts)(hp:xj ts a d ns):BS (xi ts (· == 4) 1 a d ns) (fun k=>cU k ts en (a:Int) (d:Int) ns) (fun k=>dg k ts (a:Int) en ns (d:Int) 0 0):=by
 have h7:=hs.len;obtain⟨p1,p2,p3,p4⟩:=hp;have b0:a≤4000000000000000000:=by omega
 have b1:a + 1≤4000000000000000000:=by omega
 have hc:(6:Int)≠0:=by decide
 cases hn:tq ts a 1 with
 |false=>
  refine BS.er (c:=6) (p:=pl ts en a) hc ((LN (ts:=ts) (en:=en) (p:=pl ts en a) hc).mono fun k e=>⟨?_,?_⟩)
  ·simp only [go_sem,cU,bN b0,hn,reduceIte]
  ·simp only [go_sem,dg,bh,cW b0,hn,reduceIte,cN hc,e,eI hc,fA,Int.natCast_nonneg,and_self]
 |true=>
 have bo:=jD hn;cases mi:aM ts (a + 1) [40] with
 |false=>
  refine BS.er (c:=6) (p:=pl ts en (a + 1)) hc ((LN (ts:=ts) (en:=en) (p:=pl ts en (a + 1)) hc).mono fun k e=>⟨?_,?_⟩)
  ·simp only [go_sem,cU,bN b0,hn,aL b1,mi,reduceIte]
  ·simp only [go_sem,dg,bh,cW b0,hn,ai hs (w:=[40]) rfl b1,mi,reduceIte,cN hc,e,eI hc,fA,Int.natCast_nonneg,and_self]
 |true=>
 have RR:=bx mi;obtain⟨r,hi,hx,hr⟩:=Sy (en:=en) hs (a:=a + 1 + 1) (d:=d) (ns:=ns) ⟨by omega,p2,by omega,p4⟩
 cases r with
 |er c p=>
  have hc:c≠0:=hi;refine BS.er (c:=c) (p:=p) hc (hr.mono fun k e=>?_);obtain⟨e1,l',a',ep,e2,_⟩:=e;refine⟨?_,?_⟩
  ·simp only [go_sem,cU,bN b0,hn,aL b1,mi,reduceIte]
   exact e1 _
  ·simp only [go_sem,dg,bh,cW b0,hn,ai hs (w:=[40]) rfl b1,mi,reduceIte,e2,cN hc,eI hc,fA,Int.natCast_nonneg,and_self]
 |ok l1 a1 mH=>
  have ma:=hx _ _ _ rfl;have hi':LOk ts vP (a + 1 + 1) ns 0 0 l1 a1 mH:=hi;obtain⟨g1,g2,g3,g4,g5,g6,g7,g8⟩:=hi';have L7:=bx ma;have c1:a1≤4000000000000000000:=by omega
  have c2:a1 + 1≤4000000000000000000:=by omega
  cases pY:aM ts (a1 + 1) [123] with
  |false=>
   refine BS.er (c:=6) (p:=pl ts en (a1 + 1)) hc (hr.mono fun k e=>?_);obtain⟨e1,e2⟩:=e;refine⟨?_,?_⟩
   ·simp only [go_sem,cU,bN b0,hn,aL b1,mi,reduceIte]
    refine(e1 _).trans ?_;simp only [go_sem,reduceIte,am,aL c2,pY]
   ·simp only [go_sem,dg,bh,cW b0,hn,ai hs (w:=[40]) rfl b1,mi,reduceIte,show au k k ts en ((a + 1 + 1:Nat):Int) ns 0 0 []=_ from e2,ai hs (w:=[41]) rfl c1,ma,ai hs (w:=[123]) rfl c2,pY,eI hc,fA,Int.natCast_nonneg,and_self]
  |true=>
  have afM:=bx pY;by_cases hd:d < 10
  rotate_left
  ·refine BS.er (c:=7) (p:=pl ts en (a1 + 1 + 1)) (by decide) (hr.mono fun k e=>?_)
   obtain⟨e1,e2⟩:=e;refine⟨?_,?_⟩
   ·simp only [go_sem,cU,bN b0,hn,aL b1,mi,reduceIte]
    refine(e1 _).trans ?_;simp only [go_sem,reduceIte,am,aL c2,pY,gG p2,hd]
   ·simp only [go_sem,dg,bh,cW b0,hn,ai hs (w:=[40]) rfl b1,mi,reduceIte,show au k k ts en ((a + 1 + 1:Nat):Int) ns 0 0 []=_ from e2,ai hs (w:=[41]) rfl c1,ma,ai hs (w:=[123]) rfl c2,pY,lB p2,hd,fA,Int.natCast_nonneg,and_self]
  obtain⟨r,gi,gr⟩:=R7 (en:=en) (d:=d) hs l1 (by omega) _ (a1 + 1 + 1) mH [] (Nat.le_refl _) ⟨by omega,p2,by omega,g5⟩ iO.nil (by simp)
  have gr:=gr.jN;simp only [List.append_nil] at gr;cases r with
  |er c p=>
   have hc:c≠0:=gi;obtain⟨K,gr⟩:=gr;refine BS.er (c:=c) (p:=p) hc ?_;have cpn:Ev fun k=>∀ l':XI,l'.length≤2000000→eE k k l' l1 0=some (l1 ++ l',()):=
    ⟨2000002,fun k hk l' h=>Ry l' l1 k (by omega) (by omega)⟩
   refine((((hr.and ⟨K,gr⟩).and cpn).and (adb (ts:=ts) (en:=en) (p:=p) hc))).mono fun k e=>?_;obtain⟨⟨⟨⟨e1,e2⟩,e3,l',a',ep,e4,KV⟩,e5⟩,_,e6⟩:=e;refine⟨?_,?_⟩
   ·simp only [go_sem,cU,bN b0,hn,aL b1,mi,reduceIte]
    refine(e1 _).trans ?_;simp only [go_sem,reduceIte,am,aL c2,pY,gG p2,hd,show ct k k ts en ((a1 + 1 + 1:Nat):Int) mH l1=_ from e3]
   ·simp only [go_sem,dg,bh,cW b0,hn,ai hs (w:=[40]) rfl b1,mi,reduceIte,show au k k ts en ((a + 1 + 1:Nat):Int) ns 0 0 []=_ from e2,ai hs (w:=[41]) rfl c1,ma,ai hs (w:=[123]) rfl c2,pY,lB p2,hd,pA,e4,e5 l' KV,e6,cN hc,ce hc,cq (show(l1 ++ l').length≤4000000 by simp;omega),fA,Int.natCast_nonneg,and_self]
  |ok l2 a2 pZ=>
   have gi':LOk ts vP (a1 + 1 + 1) mH ([]:XI).length (jA mH []) l2 a2 pZ:=gi;obtain⟨k1,k2,k3,k4,k5,k6,k7,k8⟩:=gi';rw [yZ] at k8;simp only [List.length_nil] at k7;obtain⟨r,fi,fx,fr⟩:=MY (en:=en) hs (d:=d + 1) (by omega) (a0:=0) (fun a' ep h p=>Y6 hs p) _ a2 pZ [] (Nat.le_refl _) (by omega) ⟨k2,by omega,by omega,k5⟩ iO.nil (by simp)
   have fI:Ev fun k=>XZ r (d + 1:Nat) (bS (dd k) (cX k) (hY k) (gp k) k k ts en (a2:Int) ((d + 1:Nat):Int) pZ []):=(fr.mono fun _ _ e=>e.1).jN;have fS:Ev fun k=>ND [] r (d + 1:Nat) (eF k k ts en (a2:Int) pZ ((d + 1:Nat):Int) 0 0 []):=(fr.mono fun _ _ e=>e.2).jN.mono fun k e=>by rw [UT];exact e
   have hcp:Ev fun k=>eE k k l2 l1 0=some (l1 ++ l2,()):=aeF l2 l1 (by omega)
   cases r with
   |er c p=>
    have hc:c≠0:=fi;have fI2:Ev fun k=>dd k ts en (a2:Int) ((d + 1:Nat):Int) pZ (pl ts en (a1 + 1))=some (.inr (c,p,())):=Ev.succ (fI.mono fun k e=>by
     rw [HF,fG,show bS _ _ _ _ k k ts en (a2:Int) ((d + 1:Nat):Int) pZ []=_ from e];rfl)
    refine BS.er (c:=c) (p:=p) hc (((((hr.and gr).and fI2).and fS).and hcp).mono fun k e=>?_);obtain⟨⟨⟨⟨⟨e1,e2⟩,e3,e4⟩,e5⟩,l',a',ep,d',e6⟩,e7⟩:=e;refine⟨?_,?_⟩
    ·simp only [go_sem,cU,bN b0,hn,aL b1,mi,reduceIte]
     refine(e1 _).trans ?_;simp only [go_sem,reduceIte,am,aL c2,pY,gG p2,hd,show ct k k ts en ((a1 + 1 + 1:Nat):Int) mH l1=_ from e3,e5]
    ·simp only [go_sem,dg,bh,cW b0,hn,ai hs (w:=[40]) rfl b1,mi,reduceIte,show au k k ts en ((a + 1 + 1:Nat):Int) ns 0 0 []=_ from e2,ai hs (w:=[41]) rfl c1,ma,ai hs (w:=[123]) rfl c2,pY,lB p2,hd,pA,show cR k k ts en ((a1 + 1 + 1:Nat):Int) mH 0 0 []=_ from e4,e7,e6,cN hc,ce hc,cq (show(l1 ++ l2).length≤4000000 by simp;omega),fA,Int.natCast_nonneg,and_self]
   |ok l3 a3 K3=>
    have adn:=fx _ _ _ rfl;have ae1:=bx adn;have fi':LOk ts NE a2 pZ ([]:XI).length (jA pZ []) l3 a3 K3:=fi;obtain⟨j1,j2,j3,j4,j5,j6,j7,j8⟩:=fi';rw [yZ] at j8;have c3:a3≤4000000000000000000:=by omega
    have m3:K3.length≤4000000:=by omega
    have sU:jl (K3 ++ [(8,pl ts en (a1 + 1),0,[],l3)]):=j5.add ⟨j6.v,Y2 j6,by simp,by simp at j7 ⊢;omega⟩
    have m4:(K3 ++ [(8,pl ts en (a1 + 1),0,[],l3)]:List eq).length≤4000000:=by simp;omega
    have fI2:Ev fun k=>dd k ts en (a2:Int) ((d + 1:Nat):Int) pZ (pl ts en (a1 + 1))=some (.inl ((K3.length:Int),((a3 + 1:Nat):Int),(d:Int),K3 ++ [(8,pl ts en (a1 + 1),0,[],l3)],())):=Ev.succ (fI.mono fun k e=>by
     rw [HF,fG,show bS _ _ _ _ k k ts en (a2:Int) ((d + 1:Nat):Int) pZ []=_ from e]
     simp only [go_sem,hU m3,km (show d≤_ by omega)])
    have kk:iO vP (K3 ++ [(8,pl ts en (a1 + 1),0,[],l3)]) (l1 ++ l2):=by
     have q1:=g6.up (k4.trans (j4.trans (List.prefix_append K3 [(8,pl ts en (a1 + 1),0,[],l3)])));have q2:=k6.up (j4.trans (List.prefix_append K3 [(8,pl ts en (a1 + 1),0,[],l3)]));refine⟨fun j hj=>?_,fun j hj=>?_⟩
     ·rcases List.mem_append.1 hj with hj | hj
      ·exact q1.v j hj
      ·exact q2.v j hj
     ·rcases List.mem_append.1 hj with hj | hj
      ·exact q1.c j hj
      ·exact q2.c j hj
    have bk:(l1 ++ l2).length≤4000000:=by simp;omega
    refine⟨.ok _ (a3 + 1) d ((K3 ++ [(8,pl ts en (a1 + 1),0,[],l3)]) ++ [(4,(tk ts a).2.1,0,(tk ts a).2.2.1,l1 ++ l2 ++ [(K3.length:Int)])]),kB (by omega) (by omega) (by simp;omega) (g4.trans (k4.trans (j4.trans (List.prefix_append _ _)))) sU ⟨?_,?_,fun _=>?_,by simp;omega⟩ rfl (by rw [qe,qe,oJ,nN,pz (k4.trans (j4.trans (List.prefix_append _ _))) g6.v,pz (j4.trans (List.prefix_append _ _)) k6.v];simp;omega),((((hr.and gr).and fI2).and fS).and hcp).mono fun k e=>?_⟩
    ·intro j hj
     rcases List.mem_append.1 hj with hj | hj
     ·exact kk.v j hj
     ·rw [List.mem_singleton.1 hj];simp;omega
    ·have:(l1 ++ l2).all (fun j=>vP (kd (K3 ++ [(8,pl ts en (a1 + 1),0,[],l3)]) j))=true:=List.all_eq_true.2 kk.c
     have:((l1 ++ l2).map (kd (K3 ++ [(8,pl ts en (a1 + 1),0,[],l3)]))).all vP=true:=by rw [List.all_map];exact this
     rw [show List.map (kd (K3 ++ [(8,pl ts en (a1 + 1),0,[],l3)])) (l1 ++ l2 ++ [(K3.length:Int)])=(l1 ++ l2).map (kd (K3 ++ [(8,pl ts en (a1 + 1),0,[],l3)])) ++ [8] by simp [qG]]
     show((_:XI).dropLast.all vP && _)=true;rw [List.dropLast_concat,this];simp
    ·rcases(Pk hs bo).k with ⟨_,_,_,h⟩ |⟨h,_⟩ |⟨h,_⟩ |⟨h,_⟩
     ·exact h
     ·rw [I5 hn] at h;cases h
     ·rw [I5 hn] at h;cases h
     ·rw [I5 hn] at h;cases h
    ·obtain⟨⟨⟨⟨e1,e2⟩,e3,e4⟩,e5⟩,e6⟩:=e.1
     have e7:=e.2;refine⟨?_,?_⟩
     ·simp only [go_sem,tY,cU,bN b0,hn,aL b1,mi,reduceIte]
      refine(e1 _).trans ?_;simp only [go_sem,reduceIte,am,aL c2,pY,gG p2,hd,show ct k k ts en ((a1 + 1 + 1:Nat):Int) mH l1=_ from e3,e5,cq bk,hU m4]
     ·simp only [go_sem,KY,dg,bh,cW b0,hn,ai hs (w:=[40]) rfl b1,mi,reduceIte,show au k k ts en ((a + 1 + 1:Nat):Int) ns 0 0 []=_ from e2,ai hs (w:=[41]) rfl c1,ma,ai hs (w:=[123]) rfl c2,pY,lB p2,hd,pA,show cR k k ts en ((a1 + 1 + 1:Nat):Int) mH 0 0 []=_ from e4,e7,show eF k k ts en (a2:Int) pZ ((d + 1:Nat):Int) 0 0 []=_ from e6,ai hs (w:=[125]) rfl c3,adn,dQ m3,List.nil_append,cq bk,dQ m4,sK bo,km (show d≤_ by omega)]
end
end Go.Fx.R5
namespace Go.Fx.R5
open Go Go.Fx
section
variable {ts:List yQ} {en:Int} {a d:Nat} {ns:List eq}
def Kw(r:Nk)(d:Int)(o:Option ((Int×Int×List eq×XI×Unit)⊕(Int×Int×Unit))):Prop:=match r with
 |.ok l a ns=>o=some (.inl ((a:Int),d,ns,l,()))
 |.er c p=>o=some (.inr (c,p,()))
theorem W5{k:Int}(hk:EM k=true)(hs0:b9 k []=true)(h4:k≠4){l:XI}{y:eq}(hy:y.1=k)(I4:y.2.2.2.2 = [])(h:iO EM ns l)(hp:jl ns):
  jl (ns ++ [y])∧iO EM (ns ++ [y]) (l ++ [(ns.length:Int)]):=by
 obtain⟨k',a',n',s',l'⟩:=y;simp only at hy I4;subst hy;subst I4;exact⟨hp.add (rZ hs0 h4),(h.up (List.prefix_append _ _)).add (by omega) (by simp;omega) (by rw [qG];exact hk)⟩
theorem ac9{c p:Int}(hc:c≠0):Ev fun k=>∀(a:Nat) (ns:List eq) (d:Int),fA c p (dg k ts (a:Int) en ns d c p):=
 (LN (ts:=ts) (en:=en) (p:=p) hc).mono fun k e a ns d=>by simp only [go_sem,dg,bh,dU hc,cN hc,e,eI hc,fA,Int.natCast_nonneg,and_self]
theorem QD(hs:oU ts):∀ m a (ns:List eq) (l:XI),ts.length - a≤m→xj ts a 0 ns→iO EM ns l→l.length≤a→
  ∃ r,Nj ts EM a ns l.length (jA ns l) r∧co fun q k=>Kw r 0 (aK q k ts en (a:Int) 0 ns l)∧ND [] r 0 (az q k ts en (a:Int) ns 0 0 0 l):=by
 have h7:=hs.len;have hc:(6:Int)≠0:=by decide
 intro m;induction m with
 |zero=>
  intro a ns l hm hp hk hl2;have bo:¬ a < ts.length:=by omega
  exact⟨.ok l a ns,⟨by omega,hp.hi,by omega,List.prefix_refl _,hp.all,hk,by omega,by omega⟩,co.succ (co.of fun q k=>⟨by simp only [go_sem,Kw,aK,Int.ofNat_lt,bo],
   by simp only [go_sem,ND,List.nil_append,az,aa,Int.ofNat_lt,bo]⟩)⟩
 |succ m ih=>
  intro a ns l hm hp hk hl2;obtain⟨p1,p2,p3,p4⟩:=hp;by_cases bo:a < ts.length
  rotate_left
  ·exact⟨.ok l a ns,⟨by omega,p1,by omega,List.prefix_refl _,p4,hk,by omega,by omega⟩,co.succ (co.of fun q k=>⟨by simp only [go_sem,Kw,aK,Int.ofNat_lt,bo],
    by simp only [go_sem,ND,List.nil_append,az,aa,Int.ofNat_lt,bo]⟩)⟩
  have b0:a≤4000000000000000000:=by omega
  have b1:a + 1≤4000000000000000000:=by omega
  have b2:a + 1 + 1≤4000000000000000000:=by omega
  have b3:a + 1 + 1 + 1≤4000000000000000000:=by omega
  have b4:a + 1 + 1 + 1 + 1≤4000000000000000000:=by omega
  have b5:a + 1 + 1 + 1 + 1 + 1≤4000000000000000000:=by omega
  have bn:ns.length≤4000000:=by omega
  have bk:l.length≤4000000:=by omega
  cases hA:aM ts a [97,114,114,97,121] with
  |true=>
   cases h1:tq ts (a + 1) 1 with
   |false=>
    refine⟨.er 6 (pl ts en (a + 1)),hc,co.succ (co.succ (co.of fun q k=>⟨?_,l ++ [0],a + 1,ns,0,?_⟩))⟩
    ·simp only [go_sem,Kw,aK,Int.ofNat_lt,bo,aI b0,reduceIte,bN b1,bN b3,aL b2,aL b4,aL b5,fP b1 bn,hU bn,cq bk,oY,hA,h1]
    ·rw [az]
     simp only [go_sem,aa,Int.ofNat_lt,bo,ab hs (w:=[97,114,114,97,121]) rfl b0,ab hs (w:=[118,97,114]) rfl b0,ai hs (w:=[102,117,110,99]) rfl b0,bh,cW b1,ai hs (w:=[91]) rfl b2,oF b3,ai hs (w:=[93]) rfl b4,ai hs (w:=[59]) rfl b5,ai hs (w:=[59]) rfl b2,reduceIte,dQ bn,cq bk,cN hc,xB hc,ce hc,dH hc,dU hc,hA,h1];rw [az];simp only [go_sem,aa,show((6:Int) == 0)=false from rfl]
   |true=>
   cases h2:aM ts (a + 1 + 1) [91] with
   |false=>
    refine⟨.er 6 (pl ts en (a + 1 + 1)),hc,co.succ (co.succ (co.of fun q k=>⟨?_,l ++ [0],a + 1 + 1,ns,0,?_⟩))⟩
    ·simp only [go_sem,Kw,aK,Int.ofNat_lt,bo,aI b0,reduceIte,bN b1,bN b3,aL b2,aL b4,aL b5,fP b1 bn,hU bn,cq bk,oY,hA,h1,h2]
    ·rw [az]
     simp only [go_sem,aa,Int.ofNat_lt,bo,ab hs (w:=[97,114,114,97,121]) rfl b0,ab hs (w:=[118,97,114]) rfl b0,ai hs (w:=[102,117,110,99]) rfl b0,bh,cW b1,ai hs (w:=[91]) rfl b2,oF b3,ai hs (w:=[93]) rfl b4,ai hs (w:=[59]) rfl b5,ai hs (w:=[59]) rfl b2,reduceIte,dQ bn,cq bk,cN hc,xB hc,ce hc,dH hc,dU hc,hA,h1,h2];rw [az];simp only [go_sem,aa,show((6:Int) == 0)=false from rfl]
   |true=>
   cases h3:tq ts (a + 1 + 1 + 1) 2 with
   |false=>
    refine⟨.er 6 (pl ts en (a + 1 + 1 + 1)),hc,co.succ (co.succ (co.of fun q k=>⟨?_,l ++ [0],a + 1 + 1 + 1,ns,0,?_⟩))⟩
    ·simp only [go_sem,Kw,aK,Int.ofNat_lt,bo,aI b0,reduceIte,bN b1,bN b3,aL b2,aL b4,aL b5,fP b1 bn,hU bn,cq bk,oY,hA,h1,h2,h3]
    ·rw [az]
     simp only [go_sem,aa,Int.ofNat_lt,bo,ab hs (w:=[97,114,114,97,121]) rfl b0,ab hs (w:=[118,97,114]) rfl b0,ai hs (w:=[102,117,110,99]) rfl b0,bh,cW b1,ai hs (w:=[91]) rfl b2,oF b3,ai hs (w:=[93]) rfl b4,ai hs (w:=[59]) rfl b5,ai hs (w:=[59]) rfl b2,reduceIte,dQ bn,cq bk,cN hc,xB hc,ce hc,dH hc,dU hc,hA,h1,h2,h3];rw [az];simp only [go_sem,aa,show((6:Int) == 0)=false from rfl]
   |true=>
   cases h4:aM ts (a + 1 + 1 + 1 + 1) [93] with
   |false=>
    refine⟨.er 6 (pl ts en (a + 1 + 1 + 1 + 1)),hc,co.succ (co.succ (co.of fun q k=>⟨?_,l ++ [0],a + 1 + 1 + 1 + 1,ns,0,?_⟩))⟩
    ·simp only [go_sem,Kw,aK,Int.ofNat_lt,bo,aI b0,reduceIte,bN b1,bN b3,aL b2,aL b4,aL b5,fP b1 bn,hU bn,cq bk,oY,hA,h1,h2,h3,h4]
    ·rw [az]
     simp only [go_sem,aa,Int.ofNat_lt,bo,ab hs (w:=[97,114,114,97,121]) rfl b0,ab hs (w:=[118,97,114]) rfl b0,ai hs (w:=[102,117,110,99]) rfl b0,bh,cW b1,ai hs (w:=[91]) rfl b2,oF b3,ai hs (w:=[93]) rfl b4,ai hs (w:=[59]) rfl b5,ai hs (w:=[59]) rfl b2,reduceIte,dQ bn,cq bk,cN hc,xB hc,ce hc,dH hc,dU hc,hA,h1,h2,h3,h4];rw [az];simp only [go_sem,aa,show((6:Int) == 0)=false from rfl]
   |true=>
   cases h5:aM ts (a + 1 + 1 + 1 + 1 + 1) [59] with
   |false=>
    refine⟨.er 6 (pl ts en (a + 1 + 1 + 1 + 1 + 1)),hc,co.succ (co.succ (co.of fun q k=>⟨?_,l ++ [0],a + 1 + 1 + 1 + 1 + 1,ns,0,?_⟩))⟩
    ·simp only [go_sem,Kw,aK,Int.ofNat_lt,bo,aI b0,reduceIte,bN b1,bN b3,aL b2,aL b4,aL b5,fP b1 bn,hU bn,cq bk,oY,hA,h1,h2,h3,h4,h5]
    ·rw [az]
     simp only [go_sem,aa,Int.ofNat_lt,bo,ab hs (w:=[97,114,114,97,121]) rfl b0,ab hs (w:=[118,97,114]) rfl b0,ai hs (w:=[102,117,110,99]) rfl b0,bh,cW b1,ai hs (w:=[91]) rfl b2,oF b3,ai hs (w:=[93]) rfl b4,ai hs (w:=[59]) rfl b5,ai hs (w:=[59]) rfl b2,reduceIte,dQ bn,cq bk,cN hc,xB hc,ce hc,dH hc,dU hc,hA,h1,h2,h3,h4,h5];rw [az];simp only [go_sem,aa,show((6:Int) == 0)=false from rfl]
   |true=>
   have l1:=jD h1;have l5:=bx h5;obtain⟨x1,x2⟩:=W5 (k:=2) (y:=(2,(tk ts (a + 1)).2.1,(tk ts (a + 1 + 1 + 1)).2.2.2,(tk ts (a + 1)).2.2.1,[])) rfl rfl (by decide) rfl rfl hk p4
   obtain⟨r,gi,gr⟩:=ih (a + 1 + 1 + 1 + 1 + 1 + 1) (ns ++ [(2,(tk ts (a + 1)).2.1,(tk ts (a + 1 + 1 + 1)).2.2.2,(tk ts (a + 1)).2.2.1,[])]) (l ++ [(ns.length:Int)]) (by omega) ⟨by omega,p2,by simp;omega,x1⟩ x2 (by simp;omega)
   refine⟨r,gi.from (by omega) (by simp;omega) (List.prefix_append _ _) (by simp;omega) (by rw [qe,oJ,nN,yZ,pz (List.prefix_append _ _) hk.v];simp;omega),co.succ (gr.mono fun q k e=>⟨?_,?_⟩)⟩
   ·simp only [go_sem,aK,Int.ofNat_lt,bo,aI b0,reduceIte,bN b1,bN b3,aL b2,aL b4,aL b5,fP b1 bn,hU bn,cq bk,oY,hA,h1,h2,h3,h4,h5]
    exact e.1
   ·rw [az]
    simp only [go_sem,aa,Int.ofNat_lt,bo,ab hs (w:=[97,114,114,97,121]) rfl b0,ab hs (w:=[118,97,114]) rfl b0,ai hs (w:=[102,117,110,99]) rfl b0,bh,cW b1,ai hs (w:=[91]) rfl b2,oF b3,ai hs (w:=[93]) rfl b4,ai hs (w:=[59]) rfl b5,ai hs (w:=[59]) rfl b2,reduceIte,dQ bn,cq bk,hA,h1,h2,h3,h4,h5,sK l1];exact e.2
  |false=>
  cases hV:aM ts a [118,97,114] with
  |true=>
   cases h1:tq ts (a + 1) 1 with
   |false=>
    refine⟨.er 6 (pl ts en (a + 1)),hc,co.succ (co.succ (co.of fun q k=>⟨?_,l ++ [0],a + 1,ns,0,?_⟩))⟩
    ·simp only [go_sem,Kw,aK,Int.ofNat_lt,bo,aI b0,reduceIte,bN b1,bN b3,aL b2,aL b4,aL b5,fP b1 bn,hU bn,cq bk,oY,hA,hV,h1]
    ·rw [az]
     simp only [go_sem,aa,Int.ofNat_lt,bo,ab hs (w:=[97,114,114,97,121]) rfl b0,ab hs (w:=[118,97,114]) rfl b0,ai hs (w:=[102,117,110,99]) rfl b0,bh,cW b1,ai hs (w:=[91]) rfl b2,oF b3,ai hs (w:=[93]) rfl b4,ai hs (w:=[59]) rfl b5,ai hs (w:=[59]) rfl b2,reduceIte,dQ bn,cq bk,cN hc,xB hc,ce hc,dH hc,dU hc,hA,hV,h1];rw [az];simp only [go_sem,aa,show((6:Int) == 0)=false from rfl]
   |true=>
   cases h2:aM ts (a + 1 + 1) [59] with
   |false=>
    refine⟨.er 6 (pl ts en (a + 1 + 1)),hc,co.succ (co.succ (co.of fun q k=>⟨?_,l ++ [0],a + 1 + 1,ns,0,?_⟩))⟩
    ·simp only [go_sem,Kw,aK,Int.ofNat_lt,bo,aI b0,reduceIte,bN b1,bN b3,aL b2,aL b4,aL b5,fP b1 bn,hU bn,cq bk,oY,hA,hV,h1,h2]
    ·rw [az]
     simp only [go_sem,aa,Int.ofNat_lt,bo,ab hs (w:=[97,114,114,97,121]) rfl b0,ab hs (w:=[118,97,114]) rfl b0,ai hs (w:=[102,117,110,99]) rfl b0,bh,cW b1,ai hs (w:=[91]) rfl b2,oF b3,ai hs (w:=[93]) rfl b4,ai hs (w:=[59]) rfl b5,ai hs (w:=[59]) rfl b2,reduceIte,dQ bn,cq bk,cN hc,xB hc,ce hc,dH hc,dU hc,hA,hV,h1,h2];rw [az];simp only [go_sem,aa,show((6:Int) == 0)=false from rfl]
   |true=>
   have l1:=jD h1;have l5:=bx h2;obtain⟨x1,x2⟩:=W5 (k:=3) (y:=(3,(tk ts (a + 1)).2.1,0,(tk ts (a + 1)).2.2.1,[])) rfl rfl (by decide) rfl rfl hk p4
   obtain⟨r,gi,gr⟩:=ih (a + 1 + 1 + 1) (ns ++ [(3,(tk ts (a + 1)).2.1,0,(tk ts (a + 1)).2.2.1,[])]) (l ++ [(ns.length:Int)]) (by omega) ⟨by omega,p2,by simp;omega,x1⟩ x2 (by simp;omega)
   refine⟨r,gi.from (by omega) (by simp;omega) (List.prefix_append _ _) (by simp;omega) (by rw [qe,oJ,nN,yZ,pz (List.prefix_append _ _) hk.v];simp;omega),co.succ (gr.mono fun q k e=>⟨?_,?_⟩)⟩
   ·simp only [go_sem,aK,Int.ofNat_lt,bo,aI b0,reduceIte,bN b1,bN b3,aL b2,aL b4,aL b5,fP b1 bn,hU bn,cq bk,oY,hA,hV,h1,h2]
    exact e.1
   ·rw [az]
    simp only [go_sem,aa,Int.ofNat_lt,bo,ab hs (w:=[97,114,114,97,121]) rfl b0,ab hs (w:=[118,97,114]) rfl b0,ai hs (w:=[102,117,110,99]) rfl b0,bh,cW b1,ai hs (w:=[91]) rfl b2,oF b3,ai hs (w:=[93]) rfl b4,ai hs (w:=[59]) rfl b5,ai hs (w:=[59]) rfl b2,reduceIte,dQ bn,cq bk,hA,hV,h1,h2,sK l1];exact e.2
  |false=>
  cases hF:aM ts a [102,117,110,99] with
  |false=>
   refine⟨.er 6 (pl ts en a),hc,co.succ (co.succ ((ac9 (ts:=ts) (en:=en) (p:=pl ts en a) hc).tX.mono fun q k e=>?_))⟩;obtain⟨v,a',ep,d',e⟩:=fA.wa (e a ns 0);refine⟨?_,l ++ [v],a',ep,d',?_⟩
   ·simp only [go_sem,Kw,aK,Int.ofNat_lt,bo,aI b0,reduceIte,bN b1,bN b3,aL b2,aL b4,aL b5,fP b1 bn,hU bn,cq bk,oY,hA,hV,hF]
   ·rw [az]
    simp only [go_sem,aa,Int.ofNat_lt,bo,ab hs (w:=[97,114,114,97,121]) rfl b0,ab hs (w:=[118,97,114]) rfl b0,ai hs (w:=[102,117,110,99]) rfl b0,bh,cW b1,ai hs (w:=[91]) rfl b2,oF b3,ai hs (w:=[93]) rfl b4,ai hs (w:=[59]) rfl b5,ai hs (w:=[59]) rfl b2,reduceIte,dQ bn,cq bk,hA,hV,hF,e];rw [az];simp only [go_sem,aa,show((6:Int) == 0)=false from rfl]
  |true=>
  obtain⟨r,hi,hr⟩:=aeC (en:=en) hs (a:=a + 1) (d:=0) (ns:=ns) ⟨by omega,p2,by omega,p4⟩
  cases r with
  |er c p=>
   have hc':c≠0:=hi;refine⟨.er c p,hi,co.succ (co.succ (hr.tX.mono fun q k e=>?_))⟩;obtain⟨e1,v,a',ep,d',e2⟩:=e;refine⟨?_,l ++ [v],a',ep,d',?_⟩
   ·simp only [go_sem,Kw,aK,Int.ofNat_lt,bo,aI b0,reduceIte,bN b1,bN b3,aL b2,aL b4,aL b5,fP b1 bn,hU bn,cq bk,oY,hA,hV,hF,show cU q ts en ((a + 1:Nat):Int) 0 ns=_ from e1]
   ·rw [az]
    simp only [go_sem,aa,Int.ofNat_lt,bo,ab hs (w:=[97,114,114,97,121]) rfl b0,ab hs (w:=[118,97,114]) rfl b0,ai hs (w:=[102,117,110,99]) rfl b0,bh,cW b1,ai hs (w:=[91]) rfl b2,oF b3,ai hs (w:=[93]) rfl b4,ai hs (w:=[59]) rfl b5,ai hs (w:=[59]) rfl b2,reduceIte,dQ bn,cq bk,hA,hV,hF,show dg q ts ((a + 1:Nat):Int) en ns 0 0 0=_ from e2]
    rw [az];simp only [go_sem,aa,beq_eq_false_iff_ne.2 hc']
  |ok v a1 d1 mH=>
   obtain⟨q1,q2,rfl,q3,q4,q5,q6,q7,q8,q9⟩:=hi;obtain⟨r,gi,gr⟩:=ih a1 mH (l ++ [v]) (by omega) ⟨q2,p2,by omega,q5⟩ ((hk.up q4).add q6 q7 (by rw [beq_iff_eq.1 q8];rfl)) (by simp;omega)
   refine⟨r,gi.from (by omega) (by omega) q4 (by simp;omega) (by rw [qe,oJ,pz q4 hk.v];omega),co.succ ((hr.tX.and gr).mono fun q k e=>?_)⟩
   obtain⟨⟨e1,e2⟩,e3,e4⟩:=e;refine⟨?_,?_⟩
   ·simp only [go_sem,aK,Int.ofNat_lt,bo,aI b0,reduceIte,bN b1,bN b3,aL b2,aL b4,aL b5,fP b1 bn,hU bn,cq bk,oY,hA,hV,hF,show cU q ts en ((a + 1:Nat):Int) 0 ns=_ from e1]
    exact e3
   ·rw [az]
    simp only [go_sem,aa,Int.ofNat_lt,bo,ab hs (w:=[97,114,114,97,121]) rfl b0,ab hs (w:=[118,97,114]) rfl b0,ai hs (w:=[102,117,110,99]) rfl b0,bh,cW b1,ai hs (w:=[91]) rfl b2,oF b3,ai hs (w:=[93]) rfl b4,ai hs (w:=[59]) rfl b5,ai hs (w:=[59]) rfl b2,reduceIte,dQ bn,cq bk,hA,hV,hF,show dg q ts ((a + 1:Nat):Int) en ns 0 0 0=_ from e2]
    exact e4
structure Tj(ns:List eq):Prop where
 all:jl ns
 len:ns.length≤1401
 afP:∃(ns0:List eq) (l:XI),ns=ns0 ++ [(1,0,0,[],l)]∧iO EM ns0 l∧jA ns0 l≤ns0.length
theorem TW(t:an):(∃ ns,Tj ns∧Ev fun k=>gK k t=some (ns,(0,0),())∧pf k t=some (ns,(0,0),()))∨
  ∃(c p:Int),c≠0∧Ev fun k=>gK k t=some ([],(c,p),())∧pf k t=some ([],(c,p),()):=by
 rcases X9 t with ⟨ts,hl,h7,hok,he⟩ |⟨c,p,hc,he⟩
 ·have hs:oU ts:=⟨h7,hok⟩
  obtain⟨r,hi,hr⟩:=QD (en:=(t.length:Int)) hs _ 0 [] [] (Nat.le_refl _) ⟨by omega,by omega,by simp,jl.nil⟩ iO.nil (by simp)
  have hr:=hr.jN;cases r with
  |er c p=>
   have hc:c≠0:=hi;refine .inr ⟨c,p,hc,(he.and hr).mono fun k e=>?_⟩;obtain⟨⟨e1,e2⟩,e3,l',a',ep,d',e4⟩:=e;have e3:aK k k ts (t.length:Int) 0 0 [] []=_:=e3;have e4:az k k ts (t.length:Int) 0 [] 0 0 0 []=_:=e4;refine⟨?_,?_⟩
   ·simp only [go_sem,gK,qP,e1,e4,ce hc,bne_iff_ne.2 hc]
   ·simp only [go_sem,pf,od,e2,e3]
  |ok l a ns=>
   have hi':LOk ts EM 0 [] 0 (jA [] []) l a ns:=hi;obtain⟨g1,g2,g3,g4,g5,g6,g7,g8⟩:=hi';rw [yZ] at g8;simp only [List.length_nil] at g3 g8;have m:ns.length≤4000000:=by omega
   refine .inl ⟨ns ++ [(1,0,0,[],l)],⟨g5.add ⟨g6.v,?_,by simp,by simp at g7 ⊢;omega⟩,by simp;omega,ns,l,rfl,g6,by omega⟩,(he.and hr).mono fun k e=>?_⟩
   ·have:(l.map (kd ns)).all EM=true:=by rw [List.all_map];exact List.all_eq_true.2 g6.c
    simpa [b9] using this
   ·obtain⟨⟨e1,e2⟩,e3,e4⟩:=e
    have e3:aK k k ts (t.length:Int) 0 0 [] []=_:=e3;have e4:az k k ts (t.length:Int) 0 [] 0 0 0 []=_:=e4;refine⟨?_,?_⟩
    ·simp only [go_sem,gK,qP,e1,e4,dQ m,List.nil_append]
    ·simp only [go_sem,pf,od,e2,e3,hU m]
 ·refine .inr ⟨c,p,hc,he.mono fun k e=>?_⟩
  simp only [go_sem,gK,pf,e.1,e.2,bne_iff_ne.2 hc,and_self]
end
end Go.Fx.R5
namespace Go.Fx.R5
open Go Go.Fx
abbrev AS:=XA
abbrev FS:=XF
abbrev yE:=AS×XS×FS
def nq{α:Type}(p:α→Bool):List α→Int→Int
 |[],_=>-1
 |x :: r,i=>bif p x then i else nq p r (i + 1)
section
variable {α:Type} {p:α→Bool}
theorem qM:∀(l:List α) (i:Int),0≤i→(nq p l i = -1∧∀ x∈l,p x=false)∨(∃ n x,nq p l i=i + (n:Nat)∧l[n]? = some x∧p x=true)
 |[],i,h=>.inl ⟨rfl,by simp⟩
 |x :: r,i,h=>by
  cases hp:p x with
  |true=>exact .inr ⟨0,x,by simp [nq,hp],rfl,hp⟩
  |false=>
   rcases qM r (i + 1) (by omega) with ⟨e,f⟩ |⟨n,y,e,f,g⟩
   ·exact .inl ⟨by simp [nq,hp,e],by simpa [hp] using f⟩
   ·exact .inr ⟨n + 1,y,by simp [nq,hp,e];omega,by simpa using f,g⟩
theorem H4{l:List α}(h:0≤nq p l 0):∃(n:Nat) (x:α),nq p l 0=(n:Int)∧l[n]? = some x∧p x=true:=by
 rcases qM (p:=p) l 0 (by omega) with ⟨e,_⟩ |⟨n,x,e,f,g⟩
 ·omega
 ·exact⟨n,x,by omega,f,g⟩
theorem Vb{l:List α}(h:¬ 0≤nq p l 0):nq p l 0 = -1∧∀ x∈l,p x=false:=by
 rcases qM (p:=p) l 0 (by omega) with e |⟨n,x,e,f,g⟩
 ·exact e
 ·omega
theorem Bv{l:List α}:0≤nq p l 0↔∃ x∈l,p x=true:=by
 constructor
 ·intro h
  obtain⟨n,x,_,f,g⟩:=H4 h;exact⟨x,List.mem_of_getElem? f,g⟩
 ·rintro⟨x,hx,g⟩
  apply Decidable.byContradiction;intro h;rw [(Vb h).2 x hx] at g;cases g
theorem YI{l:List α}(h:0≤nq p l 0):nq p l 0 < l.length:=by obtain⟨n,x,e,f,_⟩:=H4 h;have:=(List.getElem?_eq_some_iff.1 f).1;omega
end
def plX(n:Int):Unit⊕(Int×Unit):=bif decide (0≤n) then .inr (n,()) else .inl ()
def plY(k n:Int):Unit⊕(Int×Int×Unit):=bif decide (0≤n) then .inr (k,n,()) else .inl ()
theorem yn{α:Type}{p:α→Bool}{l:List α}{i:Nat}(h:i < l.length):nq p (l.drop i) (i:Int)=bif p l[i] then(i:Int) else nq p (l.drop (i + 1)) ((i + 1:Nat):Int):=by rw [List.drop_eq_getElem_cons h];rfl
theorem UW(l:XF)(s:an)(hl:l.length≤1000000):∀ m i,m + i=l.length→co fun q k=>mM q k l s (i:Int)=some (plX (nq (fun x=>x.1 == s) (l.drop i) (i:Int)))
 |0,i,h=>by
  have h2:¬ i < l.length:=by omega
  have e:l.drop i = []:=by simp;omega
  rw [e];exact co.succ (co.of fun q k=>by simp only [go_sem,mM,Int.ofNat_lt,h2];rfl)
 |m + 1,i,h=>by
  have bo:i < l.length:=by omega
  refine co.succ ((UW l s hl m (i + 1) (by omega)).mono fun q k e=>?_)
  simp only [go_sem,mM,Int.ofNat_lt,bo,cQ bo,af (show i < _ by omega),e,yn (p:=fun x:(an×Int×XS×XS×Int)=>x.1 == s) bo]
  cases (l[i].1 == s) with
  |true=>simp [plX,plY]
  |false=>simp
theorem UY(l:XS)(s:an)(hl:l.length≤1000000):∀ m i,m + i=l.length→co fun q k=>lM q k l s (i:Int)=some (plX (nq (fun x=>x == s) (l.drop i) (i:Int)))
 |0,i,h=>by
  have h2:¬ i < l.length:=by omega
  have e:l.drop i = []:=by simp;omega
  rw [e];exact co.succ (co.of fun q k=>by simp only [go_sem,lM,Int.ofNat_lt,h2];rfl)
 |m + 1,i,h=>by
  have bo:i < l.length:=by omega
  refine co.succ ((UY l s hl m (i + 1) (by omega)).mono fun q k e=>?_)
  simp only [go_sem,lM,Int.ofNat_lt,bo,cQ bo,af (show i < _ by omega),e,yn (p:=fun x:an=>x == s) bo]
  cases (l[i] == s) with
  |true=>simp [plX,plY]
  |false=>simp
theorem Ye(l:XA)(s:an)(hl:l.length≤1000000):∀ m i,m + i=l.length→co fun q k=>lL q k l s (i:Int)=some (plX (nq (fun x=>x.1 == s) (l.drop i) (i:Int)))
 |0,i,h=>by
  have h2:¬ i < l.length:=by omega
  have e:l.drop i = []:=by simp;omega
  rw [e];exact co.succ (co.of fun q k=>by simp only [go_sem,lL,Int.ofNat_lt,h2];rfl)
 |m + 1,i,h=>by
  have bo:i < l.length:=by omega
  refine co.succ ((Ye l s hl m (i + 1) (by omega)).mono fun q k e=>?_)
  simp only [go_sem,lL,Int.ofNat_lt,bo,cQ bo,af (show i < _ by omega),e,yn (p:=fun x:(an×Int)=>x.1 == s) bo]
  cases (l[i].1 == s) with
  |true=>simp [plX,plY]
  |false=>simp
theorem UX(l:XF)(s:an)(hl:l.length≤1000000):∀ m i,m + i=l.length→co fun q k=>kw q k l (l.length:Int) (i:Int)=some (plX (nq (fun x=>x.1 == ([109,97,105,110]:an)) (l.drop i) (i:Int)))
 |0,i,h=>by
  have h2:¬ i < l.length:=by omega
  have e:l.drop i = []:=by simp;omega
  rw [e];exact co.succ (co.of fun q k=>by simp only [go_sem,kw,Int.ofNat_lt,h2];rfl)
 |m + 1,i,h=>by
  have bo:i < l.length:=by omega
  refine co.succ ((UX l s hl m (i + 1) (by omega)).mono fun q k e=>?_)
  simp only [go_sem,kw,Int.ofNat_lt,bo,cQ bo,af (show i < _ by omega),e,yn (p:=fun x:(an×Int×XS×XS×Int)=>x.1 == ([109,97,105,110]:an)) bo]
  cases (l[i].1 == ([109,97,105,110]:an)) with
  |true=>simp [plX,plY]
  |false=>simp
theorem Yf(l:XS)(s:an)(hl:l.length≤1000000):∀ m i,m + i=l.length→co fun q k=>jR q k s l (l.length:Int) (i:Int)=some (plX (nq (fun x=>x == s) (l.drop i) (i:Int)))
 |0,i,h=>by
  have h2:¬ i < l.length:=by omega
  have e:l.drop i = []:=by simp;omega
  rw [e];exact co.succ (co.of fun q k=>by simp only [go_sem,jR,Int.ofNat_lt,h2];rfl)
 |m + 1,i,h=>by
  have bo:i < l.length:=by omega
  refine co.succ ((Yf l s hl m (i + 1) (by omega)).mono fun q k e=>?_)
  simp only [go_sem,jR,Int.ofNat_lt,bo,cQ bo,af (show i < _ by omega),e,yn (p:=fun x:an=>x == s) bo]
  cases (l[i] == s) with
  |true=>simp [plX,plY]
  |false=>simp
theorem aba(l:XA)(s:an)(hl:l.length≤1000000):∀ m i,m + i=l.length→co fun q k=>jt q k s l (l.length:Int) (i:Int)=some (plY 1 (nq (fun x=>x.1 == s) (l.drop i) (i:Int)))
 |0,i,h=>by
  have h2:¬ i < l.length:=by omega
  have e:l.drop i = []:=by simp;omega
  rw [e];exact co.succ (co.of fun q k=>by simp only [go_sem,jt,Int.ofNat_lt,h2];rfl)
 |m + 1,i,h=>by
  have bo:i < l.length:=by omega
  refine co.succ ((aba l s hl m (i + 1) (by omega)).mono fun q k e=>?_)
  simp only [go_sem,jt,Int.ofNat_lt,bo,cQ bo,af (show i < _ by omega),e,yn (p:=fun x:(an×Int)=>x.1 == s) bo]
  cases (l[i].1 == s) with
  |true=>simp [plX,plY]
  |false=>simp
theorem abb(l:XF)(s:an)(hl:l.length≤1000000):∀ m i,m + i=l.length→co fun q k=>ju q k s l (l.length:Int) (i:Int)=some (plY 5 (nq (fun x=>x.1 == s) (l.drop i) (i:Int)))
 |0,i,h=>by
  have h2:¬ i < l.length:=by omega
  have e:l.drop i = []:=by simp;omega
  rw [e];exact co.succ (co.of fun q k=>by simp only [go_sem,ju,Int.ofNat_lt,h2];rfl)
 |m + 1,i,h=>by
  have bo:i < l.length:=by omega
  refine co.succ ((abb l s hl m (i + 1) (by omega)).mono fun q k e=>?_)
  simp only [go_sem,ju,Int.ofNat_lt,bo,cQ bo,af (show i < _ by omega),e,yn (p:=fun x:(an×Int×XS×XS×Int)=>x.1 == s) bo]
  cases (l[i].1 == s) with
  |true=>simp [plX,plY]
  |false=>simp
theorem aeA{n:Int}{α:Type}{f:Int→Option α}{g:Option α}(h:-1≤n):(match plX n with | .inl _=>g | .inr o2=>f o2.1)=bif decide (0≤n) then f n else g:=by unfold plX;cases decide (0≤n)<;>rfl
theorem afm{α:Type}{p:α→Bool}(l:List α):-1≤nq p l 0:=by rcases qM (p:=p) l 0 (by omega) with e |⟨n,x,e,_⟩<;>omega
theorem H9(l:XS)(s:an)(hl:l.length≤1000000):Ev fun k=>hZ k l s=some (nq (fun x=>x == s) l 0,()):=
 (UY l s hl l.length 0 rfl).jN.mono fun k e=>by
  simp only [go_sem,hZ,show lM k k l s 0=_ from e,List.drop_zero,plX]
  rcases qM (p:=fun x=>x == s) l 0 (by omega) with ⟨e,_⟩ |⟨n,x,e,_⟩<;>(simp only [Int.natCast_zero,e];simp)
theorem QH(t:yE)(s:an)(hl:t.2.2.length≤1000000):Ev fun k=>kc k t s=some (nq (fun x=>x.1 == s) t.2.2 0,()):=
 (UW t.2.2 s hl t.2.2.length 0 rfl).jN.mono fun k e=>by
  simp only [go_sem,kc,show mM k k t.2.2 s 0=_ from e,List.drop_zero,plX]
  rcases qM (p:=fun x:an×Int×XS×XS×Int=>x.1 == s) t.2.2 0 (by omega) with ⟨e,_⟩ |⟨n,x,e,_⟩<;>(simp only [Int.natCast_zero,e];simp)
theorem aak(t:yE)(s:an)(hl:t.1.length≤1000000):Ev fun k=>nL k t s=some (nq (fun x=>x.1 == s) t.1 0,()):=
 (Ye t.1 s hl t.1.length 0 rfl).jN.mono fun k e=>by
  simp only [go_sem,nL,show lL k k t.1 s 0=_ from e,List.drop_zero,plX]
  rcases qM (p:=fun x:an×Int=>x.1 == s) t.1 0 (by omega) with ⟨e,_⟩ |⟨n,x,e,_⟩<;>(simp only [Int.natCast_zero,e];simp)
theorem ab9(t:yE)(hl:t.2.2.length≤1000000):Ev fun k=>uO k t=some (nq (fun x=>x.1 == ([109,97,105,110]:an)) t.2.2 0,()):=
 (UX t.2.2 [] hl t.2.2.length 0 rfl).jN.mono fun k e=>by
  simp only [go_sem,uO,show kw k k t.2.2 (t.2.2.length:Int) 0=_ from e,List.drop_zero,plX]
  rcases qM (p:=fun x:an×Int×XS×XS×Int=>x.1 == ([109,97,105,110]:an)) t.2.2 0 (by omega) with ⟨e,_⟩ |⟨n,x,e,_⟩<;>(simp only [Int.natCast_zero,e];simp)
theorem XX(l:XS)(s:an)(hl:l.length≤1000000):Ev fun k=>mE k l s=some (nq (fun x=>x == s) l 0,()):=
 (Yf l s hl l.length 0 rfl).jN.mono fun k e=>by
  simp only [go_sem,mE,show jR k k s l (l.length:Int) 0=_ from e,List.drop_zero,plX]
  rcases qM (p:=fun x=>x == s) l 0 (by omega) with ⟨e,_⟩ |⟨n,x,e,_⟩<;>(simp only [Int.natCast_zero,e];simp)
def NH(t:yE)(s:an):Int×Int:=
 bif decide (0≤nq (fun x=>x.1 == s) t.1 0) then(1,nq (fun x=>x.1 == s) t.1 0) else
 bif decide (0≤nq (fun x=>x == s) t.2.1 0) then(2,nq (fun x=>x == s) t.2.1 0) else
 bif decide (0≤nq (fun x=>x.1 == s) t.2.2 0) then(5,nq (fun x=>x.1 == s) t.2.2 0) else(0,0)
def nk(t:yE)(fn s:an):Int×Int:=
 match t.2.2.find? (fun x=>x.1 == fn) with
 |none=>NH t s
 |some x=>bif decide (0≤nq (fun y=>y == s) x.2.2.1 0) then(3,nq (fun y=>y == s) x.2.2.1 0) else
  bif decide (0≤nq (fun y=>y == s) x.2.2.2.1 0) then(4,nq (fun y=>y == s) x.2.2.2.1 0) else NH t s
structure iD(t:yE):Prop where
 a:t.1.length≤4
 g:t.2.1.length≤4
 f:t.2.2.length≤6
 i:∀ x∈t.2.2,x.2.2.1.length≤8∧x.2.2.2.1.length≤3∧0≤x.2.1∧x.2.1≤3
theorem YH{α:Type}{p:α→Bool}:∀(l:List α),(nq p l 0 = -1∧l.find? p=none)∨∃(n:Nat) (x:α),nq p l 0=(n:Int)∧l[n]? = some x∧l.find? p=some x:=by
 have key:∀(l:List α) (i:Int),0≤i→(nq p l i = -1∧l.find? p=none)∨∃(n:Nat) (x:α),nq p l i=i + (n:Int)∧l[n]? = some x∧l.find? p=some x:=by
  intro l;induction l with
  |nil=>intro i _;exact .inl ⟨rfl,rfl⟩
  |cons y r ih=>
   intro i hi;cases hp:p y with
   |true=>exact .inr ⟨0,y,by simp [nq,hp],rfl,by simp [hp]⟩
   |false=>
    rcases ih (i + 1) (by omega) with ⟨e,f⟩ |⟨n,x,e,f,g⟩
    ·exact .inl ⟨by simp [nq,hp,e],by simp [hp,f]⟩
    ·exact .inr ⟨n + 1,x,by simp [nq,hp,e];omega,by simpa using f,by simp [hp,g]⟩
 intro l;rcases key l 0 (by omega) with h |⟨n,x,e,f,g⟩
 ·exact .inl h
 ·exact .inr ⟨n,x,by omega,f,g⟩
theorem ge0(n:Int):decide (n≥0)=decide (0≤n):=rfl
theorem T6{t:yE}(ht:iD t)(fn s:an):Ev fun k=>cM k t fn s=some ((nk t fn s).1,(nk t fn s).2,()):=by
 have e1:=QH t fn (by have:=ht.f;omega)
 have e2:=aak t s (by have:=ht.a;omega)
 have e3:=H9 t.2.1 s (by have:=ht.g;omega)
 have e4:=QH t s (by have:=ht.f;omega)
 have tail:∀ k,nL k t s=some (nq (fun x=>x.1 == s) t.1 0,())→hZ k t.2.1 s=some (nq (fun x=>x == s) t.2.1 0,())→kc k t s=some (nq (fun x=>x.1 == s) t.2.2 0,())→
   ((nL k t s).bind fun r6=>
   bif decide (r6.1≥0) then
    (nL k t s).bind fun r7=>
    some ((1:Int),r7.1,())
   else
    (hZ k t.2.1 s).bind fun r8=>
    bif decide (r8.1≥0) then
     (hZ k t.2.1 s).bind fun r9=>
     some (2,r9.1,())
    else
     (kc k t s).bind fun mY=>
     bif decide (mY.1≥0) then
      (kc k t s).bind fun pT=>
      some (5,pT.1,())
     else
      some (0,0,()))=some ((NH t s).1,(NH t s).2,()):=by
  intro k a1 a2 a3;simp only [go_sem,a1,a2,a3,NH,ge0];cases decide (0≤nq (fun x=>x.1 == s) t.1 0)<;>cases decide (0≤nq (fun x=>x == s) t.2.1 0)<;>cases decide (0≤nq (fun x=>x.1 == s) t.2.2 0)<;>rfl
 rcases YH (p:=fun x:an×Int×XS×XS×Int=>x.1 == fn) t.2.2 with ⟨f1,f2⟩ |⟨n,x,f1,f2,f3⟩
 ·refine((e1.and e2).and (e3.and e4)).mono fun k e=>?_
  simp only [go_sem,cM,e.1.1,f1,aa,ge0,show decide ((0:Int)≤-1)=false from rfl,nk,f2]
  exact tail k e.1.2 e.2.1 e.2.2
 ·have hb:=ht.i x (List.mem_of_getElem? f2)
  have e5:=H9 x.2.2.1 s (by omega)
  have e6:=H9 x.2.2.2.1 s (by omega)
  refine(((e1.and e2).and (e3.and e4)).and (e5.and e6)).mono fun k e=>?_;simp only [go_sem,cM,e.1.1.1,f1,aa,ge0,show decide ((0:Int)≤(n:Int))=true by simp,bj f2,e.2.1,e.2.2,nk,f3]
  cases decide (0≤nq (fun y=>y == s) x.2.2.1 0) with
  |true=>rfl
  |false=>
   cases decide (0≤nq (fun y=>y == s) x.2.2.2.1 0) with
   |true=>rfl
   |false=>simp only [go_sem];exact tail k e.1.1.2 e.1.2.1 e.1.2.2
def k0X(s:an):Option (an×Int×XS×XS×Int)→Unit⊕(Int×Int×Unit)
 |none=>.inl ()
 |some x=>bif decide (0≤nq (fun y=>y == s) x.2.2.1 0) then .inr (3,nq (fun y=>y == s) x.2.2.1 0,()) else(bif decide (0≤nq (fun y=>y == s) x.2.2.2.1 0) then .inr (4,nq (fun y=>y == s) x.2.2.2.1 0,()) else .inl ())
theorem UP{F:FS}(hF:∀ x∈F,x.2.2.1.length≤8∧x.2.2.2.1.length≤3)(hl:F.length≤6)(fn s:an):∀ m i,m + i=F.length→co fun q k=>kp q k fn s F (F.length:Int) (i:Int) =
  some (k0X s ((F.drop i).find? (fun x=>x.1 == fn)))
 |0,i,h=>by
  have h2:¬ i < F.length:=by omega
  have e:F.drop i = []:=by simp;omega
  rw [e];exact co.succ (co.of fun q k=>by simp only [go_sem,kp,Int.ofNat_lt,h2];rfl)
 |m + 1,i,h=>by
  have bo:i < F.length:=by omega
  have hb:=hF F[i] (List.getElem_mem bo);refine co.succ (((UP hF hl fn s m (i + 1) (by omega)).and ((XX F[i].2.2.1 s (by omega)).and (XX F[i].2.2.2.1 s (by omega))).tX).mono fun q k e=>?_)
  rw [List.drop_eq_getElem_cons bo,List.find?_cons];simp only [go_sem,kp,Int.ofNat_lt,bo,cQ bo,af (show i < _ by omega),e.1,e.2.1,e.2.2,ge0]
  cases (F[i].1 == fn) with
  |false=>rfl
  |true=>simp only [go_sem,k0X];cases decide (0≤nq (fun y=>y == s) F[i].2.2.1 0)<;>cases decide (0≤nq (fun y=>y == s) F[i].2.2.2.1 0)<;>rfl
theorem XW{t:yE}(ht:iD t)(fn s:an):Ev fun k=>fE k t fn s=some ((nk t fn s).1,(nk t fn s).2,()):=by
 have e1:=(UP (fun x hx=>let h:=ht.i x hx;⟨h.1,h.2.1⟩) ht.f fn s t.2.2.length 0 rfl).jN
 have e2:=(aba t.1 s (by have:=ht.a;omega) t.1.length 0 rfl).jN
 have e3:=XX t.2.1 s (by have:=ht.g;omega)
 have e4:=(abb t.2.2 s (by have:=ht.f;omega) t.2.2.length 0 rfl).jN
 refine((e1.and e2).and (e3.and e4)).mono fun k e=>?_;obtain⟨⟨e1,e2⟩,e3,e4⟩:=e;have e1:kp k k fn s t.2.2 (t.2.2.length:Int) 0=_:=e1;have e2:jt k k s t.1 (t.1.length:Int) 0=_:=e2;have e4:ju k k s t.2.2 (t.2.2.length:Int) 0=_:=e4;simp only [List.drop_zero,Int.natCast_zero] at e1 e2 e4;have tail:((jt k k s t.1 (t.1.length:Int) 0).bind fun r=>match r with
  |.inl o3=>
   (mE k t.2.1 s).bind fun r1=>
   bif decide (r1.1≥0) then
    some ((2:Int),r1.1,())
   else
    (ju k k s t.2.2 (t.2.2.length:Int) 0).bind fun r=>match r with
    |.inl o5=>
     some (0,0,())
    |.inr o6=>
     some (o6.1,o6.2.1,())
  |.inr o4=>
   some (o4.1,o4.2.1,()))=some ((NH t s).1,(NH t s).2,()):=by
   simp only [go_sem,e2,e3,e4,NH,ge0,plY];cases decide (0≤nq (fun x=>x.1 == s) t.1 0)<;>cases decide (0≤nq (fun x=>x == s) t.2.1 0)<;>cases decide (0≤nq (fun x=>x.1 == s) t.2.2 0)<;>rfl
 simp only [go_sem,fE,e1,nk];cases hf:t.2.2.find? (fun x=>x.1 == fn) with
 |none=>simp only [hf,k0X];exact tail
 |some x=>
   simp only [hf,k0X];cases decide (0≤nq (fun y=>y == s) x.2.2.1 0) with
   |true=>rfl
   |false=>
     cases decide (0≤nq (fun y=>y == s) x.2.2.2.1 0) with
     |true=>rfl
     |false=>simp only [go_sem];exact tail
end Go.Fx.R5
namespace Go.Fx.R5
open Go Go.Fx
theorem D8(D:AS)(n s:an)(v:Int):qh (qI D n v) s=if n=s then v else qh D s:=by
 induction D with
 |nil=>by_cases h:n=s<;>simp [qI,qh,h]
 |cons p r ih=>
  by_cases h:p.1=n
  ·subst h;by_cases h2:p.1=s<;>simp [qI,qh,h2]
  ·simp only [go_sem,qI,h,qh,ih]
   by_cases h2:p.1=s
   ·have:¬ n=s:=fun e=>h (by rw [h2,e])
    simp [h2,this]
   ·simp [h2]
def po(t:yE)(s:an):Prop:=(∃ x∈t.1,x.1=s)∨s∈t.2.1∨∃ x∈t.2.2,x.1=s
theorem U1(t:yE)(s:an):(NH t s).1≠0↔po t s:=by
 have h1:(0≤nq (fun x:an×Int=>x.1 == s) t.1 0)↔∃ x∈t.1,x.1=s:=by rw [Bv];simp
 have h2:(0≤nq (fun x=>x == s) t.2.1 0)↔s∈t.2.1:=by rw [Bv];simp
 have h3:(0≤nq (fun x:an×Int×XS×XS×Int=>x.1 == s) t.2.2 0)↔∃ x∈t.2.2,x.1=s:=by rw [Bv];simp
 unfold po;rw [←h1,←h2,←h3];simp only [NH];by_cases g1:0≤nq (fun x:an×Int=>x.1 == s) t.1 0
 ·simp [g1]
 ·by_cases g2:0≤nq (fun x=>x == s) t.2.1 0
  ·simp [g1,g2]
  ·by_cases g3:0≤nq (fun x:an×Int×XS×XS×Int=>x.1 == s) t.2.2 0<;>simp [g1,g2,g3]
theorem Z2{t:yE}{s:an}(h:∀ x∈t.2.2,x.1≠[]):nk t [] s=NH t s:=by
 have:t.2.2.find? (fun x=>x.1 == ([]:an))=none:=by rw [List.find?_eq_none];intro x hx;simpa using h x hx
 simp only [nk,this]
theorem ZD{F:FS}(hd:F.Pairwise fun x y=>x.1≠y.1):∀{f:Nat} {x:an×Int×XS×XS×Int},F[f]? = some x→F.find? (fun y=>y.1 == x.1)=some x:=by
 induction F with
 |nil=>intro f x h;simp at h
 |cons y r ih=>
  intro f x h;obtain⟨h1,h2⟩:=List.pairwise_cons.1 hd;cases f with
  |zero=>simp at h;subst h;simp
  |succ f=>
   have h:r[f]? = some x:=by simpa using h
   have:y.1≠x.1:=h1 x (List.mem_of_getElem? h);rw [List.find?_cons,beq_eq_false_iff_ne.2 this];exact ih h2 h
theorem aco{t:yE}(hd:t.2.2.Pairwise fun x y=>x.1≠y.1){f:Nat}{x:an×Int×XS×XS×Int}(h:t.2.2[f]? = some x)(s:an):
  (nk t x.1 s).1≠0↔(s∈x.2.2.1∨s∈x.2.2.2.1)∨po t s:=by
 have h2:(0≤nq (fun y=>y == s) x.2.2.1 0)↔s∈x.2.2.1:=by rw [Bv];simp
 have h3:(0≤nq (fun y=>y == s) x.2.2.2.1 0)↔s∈x.2.2.2.1:=by rw [Bv];simp
 simp only [nk,ZD hd h];rw [←h2,←h3,←U1];by_cases g2:0≤nq (fun y=>y == s) x.2.2.1 0
 ·simp [g2]
 ·by_cases g3:0≤nq (fun y=>y == s) x.2.2.2.1 0<;>simp [g2,g3]
structure P1(ns:List eq)(t:yE)(D:AS):Prop where
 iw:iD t
 ne:∀ x∈t.2.2,x.1≠[]
 bd:∀ x∈t.2.2,0≤x.2.2.2.2∧x.2.2.2.2 < ns.length∧kd ns x.2.2.2.2=8∧wt ns x.2.2.2.2≤ns.length
 W9:t.2.2.Pairwise fun x y=>x.1≠y.1
 dec:∀ s,0 < qh D s↔po t s
theorem Nb{ns:List eq}{i:Nat}{x:eq}(h:ns[i]? = some x)(hk:∀ j∈x.2.2.2.2,0≤j∧j < (i:Int)):wt ns (i:Int)=1 + jA ns x.2.2.2.2:=by
 obtain⟨hl,hx⟩:=List.getElem?_eq_some_iff.1 h;have hp:ns.take i ++ [x] <+: ns:=⟨ns.drop (i + 1),by rw [←hx];simp⟩
 have GE:ns.take i <+: ns:=List.take_prefix _ _;have jI:(ns.take i).length=i:=by simp;omega
 rw [ri hp (by omega) (by simp;omega)]
 have:=nN (ns:=ns.take i) (x:=x);rw [jI] at this;rw [this,pz GE (fun j hj=>by rw [jI];exact hk j hj)]
theorem Zl{ns:List eq}{l:XI}{j:Int}(h:j∈l):wt ns j≤jA ns l:=by
 induction l with
 |nil=>cases h
 |cons a l ih=>
  have e:jA ns (a :: l)=wt ns a + jA ns l:=by simp [jA]
  rcases List.mem_cons.1 h with rfl | h
  ·omega
  ·have:=ih h;omega
theorem uB{ns:List eq}{j:Int}(h0:0≤j)(h1:j < ns.length):∃ x,ns[j.toNat]? = some x∧kd ns j=x.1∧bH ns j=some x:=by
 have:j.toNat < ns.length:=by omega
 refine⟨ns[j.toNat],by simp [this],by simp [kd,this],?_⟩
 have:bH ns ((j.toNat:Nat):Int)=some ns[j.toNat]:=cQ this;rwa [Int.toNat_of_nonneg h0] at this
theorem Y1{ns:List eq}{i:Nat}{x:eq}(h:nO ns i x)(hk:x.1=4):∃ b,x.2.2.2.2.getLast? = some b∧0≤b∧b < i∧kd ns b=8∧(∀ j∈x.2.2.2.2.dropLast,0≤j∧j < i∧vP (kd ns j)=true):=by
 have hs:=h.shp;rw [hk] at hs;have hs:((x.2.2.2.2.map (kd ns)).dropLast.all vP && ((x.2.2.2.2.map (kd ns)).getLast? == some 8))=true:=hs;simp only [Bool.and_eq_true,beq_iff_eq] at hs;cases hl:x.2.2.2.2.getLast? with
 |none=>rw [List.getLast?_map,hl] at hs;simp at hs
 |some b=>
  have hb:=List.mem_of_getLast? hl;have:=h.cB b hb;refine⟨b,rfl,this.1,this.2,?_,fun j hj=>?_⟩
  ·rw [List.getLast?_map,hl] at hs;simpa using hs.2
  ·have:=h.cB j ((List.dropLast_sublist _).subset hj)
   refine⟨this.1,this.2,?_⟩;have h1:=hs.1;rw [←List.map_dropLast,List.all_map,List.all_eq_true] at h1;exact h1 j hj
theorem X6{l:XI}{b:Int}(h:l.getLast? = some b)(hl:l.length≤1000000):bH l (dq ((l.length:Int) - 1))=some b:=by
 have gY:l≠[]:=by intro e;rw [e] at h;cases h
 have hp:=List.length_pos_iff.2 gY;rw [eM (by omega) (by omega),show(l.length:Int) - 1=((l.length - 1:Nat):Int) by omega]
 exact bj (by rw [←h,List.getLast?_eq_getElem?])
theorem GC{t:yE}{s:an}{t':yE}(h:(∃ z,t' = (t.1 ++ [(s,z)],t.2.1,t.2.2))∨t' = (t.1,t.2.1 ++ [s],t.2.2)∨∃ z,t' = (t.1,t.2.1,t.2.2 ++ [(s,z)]))(u:an):po t' u↔s=u∨po t u:=by
 rcases h with ⟨z,rfl⟩ | rfl |⟨z,rfl⟩
 ·simp only [po,List.mem_append,List.mem_singleton]
  constructor
  ·rintro(⟨x,hx | rfl,rfl⟩ | h | h)
   ·exact .inr (.inl ⟨x,hx,rfl⟩)
   ·exact .inl rfl
   ·exact .inr (.inr (.inl h))
   ·exact .inr (.inr (.inr h))
  ·rintro(rfl |⟨x,hx,rfl⟩ | h | h)
   ·exact .inl ⟨_,.inr rfl,rfl⟩
   ·exact .inl ⟨x,.inl hx,rfl⟩
   ·exact .inr (.inl h)
   ·exact .inr (.inr h)
 ·simp only [po,List.mem_append,List.mem_singleton]
  constructor
  ·rintro(h |(h | rfl) | h)
   ·exact .inr (.inl h)
   ·exact .inr (.inr (.inl h))
   ·exact .inl rfl
   ·exact .inr (.inr (.inr h))
  ·rintro(rfl | h | h | h)
   ·exact .inr (.inl (.inr rfl))
   ·exact .inl h
   ·exact .inr (.inl (.inl h))
   ·exact .inr (.inr h)
 ·simp only [po,List.mem_append,List.mem_singleton]
  constructor
  ·rintro(h | h |⟨x,hx | rfl,rfl⟩)
   ·exact .inr (.inl h)
   ·exact .inr (.inr (.inl h))
   ·exact .inr (.inr (.inr ⟨x,hx,rfl⟩))
   ·exact .inl rfl
  ·rintro(rfl | h | h |⟨x,hx,rfl⟩)
   ·exact .inr (.inr ⟨_,.inr rfl,rfl⟩)
   ·exact .inl h
   ·exact .inr (.inl h)
   ·exact .inr (.inr ⟨x,.inl hx,rfl⟩)
theorem PJ{t t':yE}{D:AS}{s:an}(h:∀ u,0 < qh D u↔po t u)(h2:∀ u,po t' u↔s=u∨po t u):∀ u,0 < qh (qI D s 1) u↔po t' u:=by
 intro u;rw [D8,h2];by_cases e:s=u
 ·simp [e]
 ·simp [e,h]
theorem VM{ns:List eq}{t:yE}{D:AS}(hp:P1 ns t D){j:Int}{x:eq}(h0:0≤j)(hx:ns[j.toNat]? = some x)(zJ:bH ns j=some x)(hn:nO ns j.toNat x)(hk:EM x.1=true)(hl:ns.length≤100000)(hw:wt ns j≤ns.length):
  (∃ c,c≠0∧∃ A' G' F' D',Ev (fun k=>kF k t.1 t.2.1 t.2.2 x=some (t.1,t.2.1,t.2.2,c,()))∧eJ t.1 t.2.1 t.2.2 ns j D=some (c,A',G',F',D',()))∨
  ∃(t':yE) (D':AS),P1 ns t' D'∧t'.2.2.length=t.2.2.length + (if x.1=4 then 1 else 0)∧((∀ f∈t.2.2,f.2.1=0∧f.2.2.1 = []∧f.2.2.2.1 = [])→∀ f∈t'.2.2,f.2.1=0∧f.2.2.1 = []∧f.2.2.2.1 = [])∧
   Ev (fun k=>kF k t.1 t.2.1 t.2.2 x=some (t'.1,t'.2.1,t'.2.2,0,()))∧eJ t.1 t.2.1 t.2.2 ns j D=some (0,t'.1,t'.2.1,t'.2.2,D',()):=by
 obtain⟨A,G,F⟩:=t;have hj:j.toNat < ns.length:=(List.getElem?_eq_some_iff.1 hx).1;have hs:=T6 hp.iw ([]:an) x.2.2.2.1;rw [Z2 hp.ne] at hs;have Tv:=hp.dec x.2.2.2.1;have adO:=U1 (A,G,F) x.2.2.2.1;have ha:=hp.iw.a;have hg:=hp.iw.g;have hf:=hp.iw.f;simp only at ha hg hf;by_cases ht:po (A,G,F) x.2.2.2.1
 ·have h1:0 < qh D x.2.2.2.1:=Tv.2 ht
  have h2:((NH (A,G,F) x.2.2.2.1).1 != 0)=true:=bne_iff_ne.2 (adO.2 ht);refine .inl ⟨9,by decide,A,G,F,D,hs.mono fun k e=>?_,?_⟩
  ·simp only [go_sem,kF,e,h2]
  ·simp only [go_sem,eJ,zJ,gt_iff_lt,h1]
 ·have h1:¬ 0 < qh D x.2.2.2.1:=fun h=>ht (Tv.1 h)
  have h2:((NH (A,G,F) x.2.2.2.1).1 != 0)=false:=by
   cases h:((NH (A,G,F) x.2.2.2.1).1 != 0) with
   |false=>rfl
   |true=>exact absurd (adO.1 (bne_iff_ne.1 h)) ht
  have hk:x.1=2∨x.1=3∨x.1=4:=by simpa [EM,or_assoc] using hk
  rcases hk with hk | hk | hk
  ·
   have hin:sP x.2.2.1 1 64=some (decide (1≤x.2.2.1) && decide (x.2.2.1≤64),()):=by simp only [sP,aa,ge_iff_le];cases decide (1≤x.2.2.1)<;>rfl
   by_cases Kt:A.length=4∨¬ (1≤x.2.2.1∧x.2.2.1≤64)
   ·refine .inl ⟨8,by decide,A,G,F,qI D x.2.2.2.1 1,hs.mono fun k e=>?_,?_⟩
    ·by_cases h4:A.length=4
     ·simp only [go_sem,kF,e,h2,hk,aa,h4,show decide (((4:Nat):Int)≥4)=true from rfl]
     ·have hb:(decide (1≤x.2.2.1) && decide (x.2.2.1≤64))=false:=by
       rcases Kt with h | h
       ·exact absurd h h4
       ·simpa using h
      simp only [go_sem,kF,e,h2,hk,aa,show decide ((A.length:Int)≥4)=false from decide_eq_false (by omega),hin,hb]
    ·by_cases h4:A.length=4
     ·simp only [go_sem,eJ,zJ,gt_iff_lt,h1,hk,aa,h4,show(((4:Nat):Int) == 4)=true from rfl]
     ·have h5:((A.length:Int) == 4)=false:=by simp;omega
      by_cases h6:x.2.2.1 < 1
      ·simp only [go_sem,eJ,zJ,gt_iff_lt,h1,hk,aa,h5,h6]
      ·have h7:64 < x.2.2.1:=by omega
       simp only [go_sem,eJ,zJ,gt_iff_lt,h1,hk,aa,h5,h6,h7]
   ·simp only [not_or,Decidable.not_not] at Kt
    have Kq:lq A [(x.2.2.2.1,x.2.2.1)]=some (A ++ [(x.2.2.2.1,x.2.2.1)]):=p6 (by simp;omega)
    have h5:((A.length:Int) == 4)=false:=by simp;omega
    have h6:¬ x.2.2.1 < 1:=by omega
    have h7:¬ 64 < x.2.2.1:=by omega
    refine .inr ⟨(A ++ [(x.2.2.2.1,x.2.2.1)],G,F),qI D x.2.2.2.1 1,⟨⟨by simp;omega,hg,hf,hp.iw.i⟩,hp.ne,hp.bd,hp.W9,PJ hp.dec (GC (.inl ⟨_,rfl⟩))⟩,by simp [hk],fun h=>h,hs.mono fun k e=>?_,?_⟩
    ·simp only [go_sem,kF,e,h2,hk,aa,show decide ((A.length:Int)≥4)=false from decide_eq_false (by omega),hin,Kt.2.1,Kt.2.2,Bool.and_self,Kq]
    ·simp only [go_sem,eJ,zJ,gt_iff_lt,h1,hk,aa,h5,h6,h7,Kq]
  ·
   have e2:((3:Int) == 2)=false:=rfl;by_cases Kt:G.length=4
   ·refine .inl ⟨8,by decide,A,G,F,qI D x.2.2.2.1 1,hs.mono fun k e=>?_,?_⟩
    ·simp only [go_sem,kF,e,h2,hk,e2,Kt,show decide (((4:Nat):Int)≥4)=true from rfl]
    ·simp only [go_sem,eJ,zJ,gt_iff_lt,h1,hk,e2,aa,Kt,show(((4:Nat):Int) == 4)=true from rfl]
   ·have Kq:lq G [x.2.2.2.1]=some (G ++ [x.2.2.2.1]):=p6 (by simp;omega)
    have h5:((G.length:Int) == 4)=false:=by simp;omega
    refine .inr ⟨(A,G ++ [x.2.2.2.1],F),qI D x.2.2.2.1 1,⟨⟨ha,by simp;omega,hf,hp.iw.i⟩,hp.ne,hp.bd,hp.W9,PJ hp.dec (GC (.inr (.inl rfl)))⟩,by simp [hk],fun h=>h,hs.mono fun k e=>?_,?_⟩
    ·simp only [go_sem,kF,e,h2,hk,e2,show decide ((G.length:Int)≥4)=false from decide_eq_false (by omega),Kq]
    ·simp only [go_sem,eJ,zJ,gt_iff_lt,h1,hk,e2,aa,h5,Kq]
  ·
   obtain⟨b,hb,b0,b1,b2,_⟩:=Y1 hn hk;have e2:((4:Int) == 2)=false:=rfl;have e3:((4:Int) == 3)=false:=rfl;have Gb:=X6 hb (by have:=hn.nm.2;omega)
   by_cases Kt:F.length=6
   ·refine .inl ⟨8,by decide,A,G,F,qI D x.2.2.2.1 1,hs.mono fun k e=>?_,?_⟩
    ·simp only [go_sem,kF,e,h2,hk,e2,e3,Kt,show decide (((6:Nat):Int)≥6)=true from rfl]
    ·simp only [go_sem,eJ,zJ,gt_iff_lt,h1,hk,e2,e3,aa,Kt,show(((6:Nat):Int) == 6)=true from rfl]
   ·have Kq:lq F [(x.2.2.2.1,0,[],[],b)]=some (F ++ [(x.2.2.2.1,0,[],[],b)]):=p6 (by simp;omega)
    have h5:((F.length:Int) == 6)=false:=by simp;omega
    refine .inr ⟨(A,G,F ++ [(x.2.2.2.1,0,[],[],b)]),qI D x.2.2.2.1 1,⟨⟨ha,hg,by simp;omega,?_⟩,?_,?_,?_,PJ hp.dec (GC (.inr (.inr ⟨_,rfl⟩)))⟩,by simp [hk],?_,hs.mono fun k e=>?_,?_⟩
    ·intro y hy
     rcases List.mem_append.1 hy with hy | hy
     ·exact hp.iw.i y hy
     ·rw [List.mem_singleton.1 hy];simp
    ·intro y hy
     rcases List.mem_append.1 hy with hy | hy
     ·exact hp.ne y hy
     ·rw [List.mem_singleton.1 hy];exact hn.nm.1 hk
    ·intro y hy
     rcases List.mem_append.1 hy with hy | hy
     ·exact hp.bd y hy
     ·rw [List.mem_singleton.1 hy]
      have h1:=Nb hx hn.cB;rw [Int.toNat_of_nonneg h0] at h1;have h2:=Zl (ns:=ns) (List.mem_of_getLast? hb);exact⟨b0,by show b < _;omega,b2,by show wt ns b≤_;omega⟩
    ·refine List.pairwise_append.2 ⟨hp.W9,List.pairwise_singleton _ _,fun y hy z hz=>?_⟩
     rw [List.mem_singleton.1 hz];exact fun e=>ht (.inr (.inr ⟨y,hy,e⟩))
    ·intro h f hf
     rcases List.mem_append.1 hf with hf | hf
     ·exact h f hf
     ·rw [List.mem_singleton.1 hf];exact⟨rfl,rfl,rfl⟩
    ·simp only [go_sem,kF,e,h2,hk,e2,e3,show decide ((F.length:Int)≥6)=false from decide_eq_false (by omega),Gb,Kq]
    ·simp only [go_sem,eJ,zJ,gt_iff_lt,h1,hk,e2,e3,aa,h5,Gb,Kq]
end Go.Fx.R5
namespace Go.Fx.R5
open Go Go.Fx
def cnt(ns:List eq)(l:XI):Nat:=(l.filter fun j=>kd ns j == 4).length
def aaC(t:yE):Prop:=∀ f∈t.2.2,f.2.1=0∧f.2.2.1 = []∧f.2.2.2.1 = []
section
variable {ns:List eq} {cB:XI}
theorem US(fo:jl ns)(hk:iO EM ns cB){i:Nat}(hi:i < cB.length):∃ x:eq,bH cB (i:Int)=some cB[i]∧bH ns cB[i]=some x∧ns[cB[i].toNat]? = some x∧nO ns cB[i].toNat x∧EM x.1=true∧kd ns cB[i]=x.1∧0≤cB[i]:=by have hv:=hk.v _ (List.getElem_mem hi);obtain⟨x,e1,e2,e3⟩:=uB hv.1 hv.2;exact⟨x,cQ hi,e3,e1,fo _ _ e1,by rw [←e2];exact hk.c _ (List.getElem_mem hi),e2,hv.1⟩
theorem Oe(fo:jl ns)(hl:ns.length≤100000)(hk:iO EM ns cB)(zA:cB.length≤5000)(hks:jA ns cB≤ns.length):∀ m i (t:yE) (D:AS),m + i=cB.length→P1 ns t D→aaC t→
  (∃(c p:Int),c≠0∧co fun q k=>df q k ns cB 0 0 t.1 t.2.1 t.2.2 (i:Int)=some (.inr (c,p,()))∧dI q k ns cB (cB.length:Int) t.1 t.2.1 t.2.2 0 0 D (i:Int)=some (.inr (c,p,())))∨
  ∃(t':yE) (D':AS),P1 ns t' D'∧aaC t'∧t'.2.2.length=t.2.2.length + cnt ns (cB.drop i)∧co fun q k=>df q k ns cB 0 0 t.1 t.2.1 t.2.2 (i:Int)=some (.inl (0,0,t'.1,t'.2.1,t'.2.2,()))∧
   dI q k ns cB (cB.length:Int) t.1 t.2.1 t.2.2 0 0 D (i:Int)=some (.inl (t'.1,t'.2.1,t'.2.2,0,0,D',()))
 |0,i,t,D,h,hp,hf=>by
  have h2:¬ i < cB.length:=by omega
  refine .inr ⟨t,D,hp,hf,?_,co.succ (co.of fun q k=>⟨?_,?_⟩)⟩
  ·have:cB.drop i = []:=by simp;omega
   simp [this,cnt]
  ·simp only [go_sem,df,Int.ofNat_lt,h2]
  ·simp only [go_sem,dI,Int.ofNat_lt,h2]
 |m + 1,i,t,D,h,hp,hf=>by
  have bo:i < cB.length:=by omega
  obtain⟨x,e1,e2,e3,e4,e5,e6,e7⟩:=US fo hk bo;have hwk:=Zl (ns:=ns) (List.getElem_mem bo);rcases VM hp e7 e3 e2 e4 e5 hl (by omega) with ⟨c,hc,A',G',F',D',g1,g2⟩ |⟨t',D',zK,jI,sV,g1,g2⟩
  ·refine .inl ⟨c,x.2.1,hc,co.succ (g1.tX.mono fun q k e=>⟨?_,?_⟩)⟩
   ·simp only [go_sem,df,pj,Int.ofNat_lt,bo,e1,e2,e,bne_iff_ne.2 hc]
   ·simp only [go_sem,dI,Int.ofNat_lt,bo,e1,e2,g2,bne_iff_ne.2 hc]
  ·have hdr:cnt ns (cB.drop i)=(if x.1=4 then 1 else 0) + cnt ns (cB.drop (i + 1)):=by
    rw [List.drop_eq_getElem_cons bo];simp only [cnt,List.filter_cons,e6];by_cases h4:x.1=4<;>simp [h4]<;>omega
   have abk:∀{q k r},kF q t.1 t.2.1 t.2.2 x=some (t'.1,t'.2.1,t'.2.2,0,())→df q k ns cB 0 0 t'.1 t'.2.1 t'.2.2 ((i + 1:Nat):Int)=r→df q (k + 1) ns cB 0 0 t.1 t.2.1 t.2.2 (i:Int)=r:=by intro q k r a1 a2;simp only [go_sem,df,pj,Int.ofNat_lt,bo,e1,e2,a1,af (show i < _ by omega),a2]
   have abl:∀{q k r},dI q k ns cB (cB.length:Int) t'.1 t'.2.1 t'.2.2 0 0 D' ((i + 1:Nat):Int)=r→dI q (k + 1) ns cB (cB.length:Int) t.1 t.2.1 t.2.2 0 0 D (i:Int)=r:=by intro q k r a2;simp only [go_sem,dI,Int.ofNat_lt,bo,e1,g2,af (show i < _ by omega),a2]
   rcases Oe fo hl hk zA hks m (i + 1) t' D' (by omega) zK (sV hf) with ⟨c,p,hc,he⟩ |⟨t2,D2,q1,q2,q3,he⟩
   ·exact .inl ⟨c,p,hc,co.succ ((g1.tX.and he).mono fun q k e=>⟨abk e.1 e.2.1,abl e.2.2⟩)⟩
   ·exact .inr ⟨t2,D2,q1,q2,by omega,co.succ ((g1.tX.and he).mono fun q k e=>⟨abk e.1 e.2.1,abl e.2.2⟩)⟩
end
section
variable {ns:List eq} {t:yE} {D:AS}
theorem Uk{F:FS}{A:AS}{G:XS}{f:Nat}{x y:an×Int×XS×XS×Int}(hx:F[f]? = some x)(hn:y.1=x.1)(u:an):po (A,G,F.set f y) u↔po (A,G,F) u:=by
 have:(∃ z∈F.set f y,z.1=u)↔∃ z∈F,z.1=u:=by
  have h1:(F.set f y).map (·.1)=F.map (·.1):=by
   rw [List.map_set,hn];have:(F.map (·.1))[f]? = some x.1:=by simp [hx]
   apply List.ext_getElem?;intro n;rw [List.getElem?_set];by_cases e:f=n
   ·subst e
    obtain⟨bo,Oz⟩:=List.getElem?_eq_some_iff.1 hx;simp [bo,Oz]
   ·simp [e]
  have:∀ F':FS,(∃ z∈F',z.1=u)↔u∈F'.map (·.1):=fun F'=>by simp
  rw [this,this,h1]
 simp only [po,this]
theorem Xa{F:FS}{f:Nat}{x y:an×Int×XS×XS×Int}(hx:F[f]? = some x)(hn:y.1=x.1)(h:F.Pairwise fun x y=>x.1≠y.1):(F.set f y).Pairwise fun x y=>x.1≠y.1:=by
 have h1:(F.set f y).map (·.1)=F.map (·.1):=by
  rw [List.map_set,hn];apply List.ext_getElem?;intro n;rw [List.getElem?_set];by_cases e:f=n
  ·subst e
   obtain⟨bo,Oz⟩:=List.getElem?_eq_some_iff.1 hx;simp [bo,Oz]
  ·simp [e]
 have h2:∀ F':FS,F'.Pairwise (fun x y=>x.1≠y.1)↔(F'.map (·.1)).Pairwise (·≠·):=fun F'=>by rw [List.pairwise_map]
 rw [h2,h1,←h2];exact h
theorem P1.set(hp:P1 ns t D){f:Nat}{x y:an×Int×XS×XS×Int}(hx:t.2.2[f]? = some x)(hn:y.1=x.1)(hb:y.2.2.2.2=x.2.2.2.2)(hi:y.2.2.1.length≤8∧y.2.2.2.1.length≤3∧0≤y.2.1∧y.2.1≤3):P1 ns (t.1,t.2.1,t.2.2.set f y) D:=by
 have hm:∀ z∈t.2.2.set f y,z∈t.2.2∨z=y:=fun z hz=>List.mem_or_eq_of_mem_set hz;have hxm:=List.mem_of_getElem? hx;refine⟨⟨hp.iw.a,hp.iw.g,by simpa using hp.iw.f,fun z hz=>?_⟩,fun z hz=>?_,fun z hz=>?_,Xa hx hn hp.W9,fun s=>?_⟩
 ·rcases hm z hz with h | rfl
  ·exact hp.iw.i z h
  ·exact hi
 ·rcases hm z hz with h | rfl
  ·exact hp.ne z h
  ·rw [hn];exact hp.ne x hxm
 ·rcases hm z hz with h | rfl
  ·exact hp.bd z h
  ·rw [hb];exact hp.bd x hxm
 ·rw [hp.dec];exact(Uk hx hn s).symm
theorem abc(is rs:XS)(n s:an):(s∈is ++ [n]∨s∈rs)↔n=s∨(s∈is∨s∈rs):=by
 rw [List.mem_append,List.mem_singleton];constructor
 ·rintro((h | rfl) | h)
  ·exact .inr (.inl h)
  ·exact .inl rfl
  ·exact .inr (.inr h)
 ·rintro(rfl | h | h)
  ·exact .inl (.inr rfl)
  ·exact .inl (.inl h)
  ·exact .inr h
theorem adX(is rs:XS)(n s:an):(s∈is∨s∈rs ++ [n])↔n=s∨(s∈is∨s∈rs):=by
 rw [List.mem_append,List.mem_singleton];constructor
 ·rintro(h | h | rfl)
  ·exact .inr (.inl h)
  ·exact .inr (.inr h)
  ·exact .inl rfl
 ·rintro(rfl | h | h)
  ·exact .inr (.inr rfl)
  ·exact .inl h
  ·exact .inr (.inl h)
def Te(ns:List eq)(D:AS)(K:XI)(f:Nat)(nm:an)(body:Int)(t:yE)(ps:Int)(is rs:XS)(pe:AS)(i:Nat):Prop:=
 (∃(c p:Int),c≠0∧co fun q k=>(∃ A G F,dC q k K ns (f:Int) t.1 t.2.1 t.2.2 0 0 (i:Int)=some (.inr (c,p,A,G,F,())))∧
  ∃ GF EL ER,bT q k D ns K.dropLast (K.dropLast.length:Int) 0 0 ps is rs pe (i:Int)=some (.inr (c,p,GF,EL,ER,())))∨
 ∃(GF:Int) (EL ER:XS),P1 ns (t.1,t.2.1,t.2.2.set f (nm,GF,EL,ER,body)) D∧co fun q k=>dC q k K ns (f:Int) t.1 t.2.1 t.2.2 0 0 (i:Int)=some (.inl (t.1,t.2.1,t.2.2.set f (nm,GF,EL,ER,body),0,0,()))∧
  bT q k D ns K.dropLast (K.dropLast.length:Int) 0 0 ps is rs pe (i:Int)=some (.inl (0,0,GF,EL,ER,()))
theorem YC(fo:jl ns){K:XI}{f:Nat}(hK:∀ j∈K.dropLast,0≤j∧j < (ns.length:Int)∧vP (kd ns j)=true)(hKl:K.length≤5000){nm:an}{body:Int}:∀ m i (t:yE) (ps:Int) (is rs:XS) (pe:AS),m + i=K.dropLast.length→P1 ns t D→t.2.2[f]? = some (nm,ps,is,rs,body)→(∀ s,0 < qh pe s↔(s∈is∨s∈rs))→
  Te ns D K f nm body t ps is rs pe i:=by
 intro m;have mu:K.dropLast.length=K.length - 1:=List.length_dropLast;induction m with
 |zero=>
  intro i t ps is rs pe h hp hx ho;have h1:¬ (i + 1:Nat) < K.length:=by omega
  have h2:¬ i < K.dropLast.length:=by omega
  have I3:t.2.2.set f (nm,ps,is,rs,body)=t.2.2:=by obtain⟨hl,he⟩:=List.getElem?_eq_some_iff.1 hx;rw [←he];simp
  refine .inr ⟨ps,is,rs,by rw [I3];exact hp,co.succ (co.of fun q k=>⟨?_,?_⟩)⟩
  ·simp only [go_sem,dC,af (show i < _ by omega),Int.ofNat_lt,h1,I3]
  ·simp only [go_sem,bT,Int.ofNat_lt,h2]
 |succ m ih=>
  intro i t ps is rs pe h hp hx ho;obtain⟨A,G,F⟩:=t;have hx:F[f]? = some (nm,ps,is,rs,body):=hx;have bo:i < K.dropLast.length:=by omega
  have h1:(i + 1:Nat) < K.length:=by omega
  have Gc:i < K.length:=by omega
  have hj:K.dropLast[i]=K[i]:=by simp
  have hv:=hK _ (List.getElem_mem bo);rw [hj] at hv;obtain⟨x,e1,e2,e3⟩:=uB hv.1 hv.2.1;rw [e2] at hv;have hbb:=hp.iw.i _ (List.mem_of_getElem? hx);simp only at hbb;have hnk:=T6 hp.iw nm x.2.2.2.1;have js:=aco hp.W9 (t:=(A,G,F)) (f:=f) hx x.2.2.2.1;have Tv:=hp.dec x.2.2.2.1;simp only at js;have i1:bH K (i:Int)=some K[i]:=cQ Gc;have i2:bH K.dropLast (i:Int)=some K[i]:=by rw [cQ bo,hj]
  have i3:bH F (f:Int)=some (nm,ps,is,rs,body):=bj hx;have ft:((f:Int)).toNat=f:=Int.toNat_natCast f;by_cases htw:(x.2.2.2.1∈is∨x.2.2.2.1∈rs)∨po (A,G,F) x.2.2.2.1
  ·have hz:((nk (A,G,F) nm x.2.2.2.1).1 != 0)=true:=bne_iff_ne.2 (js.2 htw)
   refine .inl ⟨9,x.2.1,by decide,co.succ (hnk.tX.mono fun q k e=>⟨⟨A,G,F,?_⟩,ps,is,rs,?_⟩)⟩
   ·simp only [go_sem,dC,af (show i < _ by omega),Int.ofNat_lt,h1,i1,e3,ft,i3,e,hz]
   ·have:((decide (qh D x.2.2.2.1 > 0)) ||(decide (qh pe x.2.2.2.1 > 0)))=true:=by
     simp only [Bool.or_eq_true,decide_eq_true_eq,gt_iff_lt,Tv,ho];exact htw.elim .inr .inl
    simp only [go_sem,bT,Int.ofNat_lt,bo,i2,e3,ze,this]
  ·have hz:((nk (A,G,F) nm x.2.2.2.1).1 != 0)=false:=by
    cases hh:((nk (A,G,F) nm x.2.2.2.1).1 != 0) with
    |false=>rfl
    |true=>exact absurd (js.1 (bne_iff_ne.1 hh)) htw
   have hor:((decide (qh D x.2.2.2.1 > 0)) ||(decide (qh pe x.2.2.2.1 > 0)))=false:=by simp only [Bool.or_eq_false_iff,decide_eq_false_iff_not,gt_iff_lt,Tv,ho];exact⟨fun h=>htw (.inr h),fun h=>htw (.inl h)⟩
   have ho':∀{EL ER:XS},((∀ s,(s∈EL∨s∈ER)↔x.2.2.2.1=s∨(s∈is∨s∈rs)))→∀ s,0 < qh (qI pe x.2.2.2.1 1) s↔(s∈EL∨s∈ER):=fun hh s=>by
    rw [D8,hh];by_cases e:x.2.2.2.1=s
    ·simp [e]
    ·simp [e,ho]
   have sw:∀(GF:Int) (EL ER:XS),EL.length≤8∧ER.length≤3∧0≤GF∧GF≤3→(∀ s,(s∈EL∨s∈ER)↔x.2.2.2.1=s∨(s∈is∨s∈rs))→
     (∀ q k r,cM q (A,G,F) nm x.2.2.2.1=some ((nk (A,G,F) nm x.2.2.2.1).1,(nk (A,G,F) nm x.2.2.2.1).2,())→dC q k K ns (f:Int) A G (F.set f (nm,GF,EL,ER,body)) 0 0 ((i + 1:Nat):Int)=r→dC q (k + 1) K ns (f:Int) A G F 0 0 (i:Int)=r)→
     (∀ q k r,bT q k D ns K.dropLast (K.dropLast.length:Int) 0 0 GF EL ER (qI pe x.2.2.2.1 1) ((i + 1:Nat):Int)=r→bT q (k + 1) D ns K.dropLast (K.dropLast.length:Int) 0 0 ps is rs pe (i:Int)=r)→
     Te ns D K f nm body (A,G,F) ps is rs pe i:=fun GF EL ER hb hh s1 s2=>by
    have I3:P1 ns (A,G,F.set f (nm,GF,EL,ER,body)) D:=hp.set (t:=(A,G,F)) hx rfl rfl hb;have L5:(F.set f (nm,GF,EL,ER,body))[f]? = some (nm,GF,EL,ER,body):=by have:=(List.getElem?_eq_some_iff.1 hx).1;simp [this]
    rcases ih (i + 1) (A,G,F.set f (nm,GF,EL,ER,body)) GF EL ER (qI pe x.2.2.2.1 1) (by omega) I3 L5 (ho' hh) with ⟨c,p,hc,he⟩ |⟨ps2,is2,rs2,GE,he⟩
    ·exact .inl ⟨c,p,hc,co.succ ((hnk.tX.and he).mono fun q k e=>⟨by obtain⟨A',G',F',e2⟩:=e.2.1;exact⟨A',G',F',s1 q k _ e.1 e2⟩,by obtain⟨p',i',r',e2⟩:=e.2.2;exact⟨p',i',r',s2 q k _ e2⟩⟩)⟩
    ·refine .inr ⟨ps2,is2,rs2,?_,co.succ ((hnk.tX.and he).mono fun q k e=>⟨?_,s2 q k _ e.2.2⟩)⟩
     ·simpa only [List.set_set] using GE
     ·have:=s1 q k _ e.1 e.2.1
      simpa only [List.set_set] using this
   have lim:∀(afD:∀ q k,cM q (A,G,F) nm x.2.2.2.1=some ((nk (A,G,F) nm x.2.2.2.1).1,(nk (A,G,F) nm x.2.2.2.1).2,())→dC q (k + 1) K ns (f:Int) A G F 0 0 (i:Int)=some (.inr (8,x.2.1,A,G,F,())))
     (aeV:∀ q k,∃ GF EL ER,bT q (k + 1) D ns K.dropLast (K.dropLast.length:Int) 0 0 ps is rs pe (i:Int)=some (.inr (8,x.2.1,GF,EL,ER,()))),Te ns D K f nm body (A,G,F) ps is rs pe i:=
    fun hf1 hf2=>Or.inl ⟨8,x.2.1,by decide,co.succ (hnk.tX.mono fun q k e=>⟨⟨A,G,F,hf1 q k e⟩,hf2 q k⟩)⟩
   have hkk:x.1=5∨x.1=6∨x.1=7:=by simpa [vP,or_assoc] using hv.2.2
   rcases hkk with hkk | hkk | hkk
   ·
    have n1:((5:Int) == 7)=false:=rfl;have n2:((5:Int) != 7)=true:=rfl;have hai:lq is [x.2.2.2.1]=some (is ++ [x.2.2.2.1]):=p6 (by simp;omega)
    by_cases hl:is.length=8∨ps=3
    ·refine lim (fun q k e=>?_) (fun q k=>⟨dq (ps + 1),is ++ [x.2.2.2.1],rs,?_⟩)
     ·by_cases h8:is.length=8
      ·simp only [go_sem,dC,aa,af (show i < _ by omega),Int.ofNat_lt,h1,i1,e3,ft,i3,e,hz,hkk,n1,n2,h8,show decide (((8:Nat):Int)≥8)=true from rfl]
      ·have h3:ps=3:=hl.resolve_left h8
       simp only [go_sem,dC,aa,af (show i < _ by omega),Int.ofNat_lt,h1,i1,e3,ft,i3,e,hz,hkk,n1,n2,show decide ((is.length:Int)≥8)=false from decide_eq_false (by omega),h3,show decide ((3:Int)≥3)=true from rfl]
     ·have hb:(((is.length:Int) == 8) ||(ps == 3))=true:=by
       rcases hl with h | h
       ·simp [h]
       ·simp [h]
      simp only [go_sem,bT,Int.ofNat_lt,bo,i2,e3,ze,hor,hkk,n1,hb,hai];simp only [go_sem,aa]
    ·simp only [not_or] at hl
     have hw:dq (ps + 1)=ps + 1:=eM (by omega) (by omega)
     refine sw (ps + 1) (is ++ [x.2.2.2.1]) rs ⟨by simp;omega,by omega,by omega,by omega⟩ (abc is rs _) (fun q k r e er=>?_) (fun q k r er=>?_)
     ·simp only [go_sem,dC,aa,af (show i < _ by omega),Int.ofNat_lt,h1,i1,e3,ft,i3,e,hz,hkk,n1,n2,show decide ((is.length:Int)≥8)=false from decide_eq_false (by omega),show decide (ps≥3)=false from decide_eq_false (by omega),hai,hw,Nat.beq_refl,Bool.and_self,er]
     ·have hb:(((is.length:Int) == 8) ||(ps == 3))=false:=by
       simp only [Bool.or_eq_false_iff,beq_eq_false_iff_ne];exact⟨by omega,hl.2⟩
      simp only [go_sem,bT,Int.ofNat_lt,bo,i2,e3,ze,hor,hkk,n1,hb,hai,hw];simp only [go_sem,aa,af (show i < _ by omega),er]
   ·
    have n1:((6:Int) == 7)=false:=rfl;have n2:((6:Int) != 7)=true:=rfl;have n3:((6:Int) == 5)=false:=rfl;have hai:lq is [x.2.2.2.1]=some (is ++ [x.2.2.2.1]):=p6 (by simp;omega)
    by_cases hl:is.length=8
    ·refine lim (fun q k e=>?_) (fun q k=>⟨ps,is ++ [x.2.2.2.1],rs,?_⟩)
     ·simp only [go_sem,dC,aa,af (show i < _ by omega),Int.ofNat_lt,h1,i1,e3,ft,i3,e,hz,hkk,n1,n2,hl,show decide (((8:Nat):Int)≥8)=true from rfl]
     ·simp only [go_sem,bT,Int.ofNat_lt,bo,i2,e3,ze,hor,hkk,n1,n3,hl,hai]
      simp only [go_sem,aa,show(((8:Nat):Int) == 8)=true from rfl]
    ·refine sw ps (is ++ [x.2.2.2.1]) rs ⟨by simp;omega,by omega,by omega,by omega⟩ (abc is rs _) (fun q k r e er=>?_) (fun q k r er=>?_)
     ·simp only [go_sem,dC,aa,af (show i < _ by omega),Int.ofNat_lt,h1,i1,e3,ft,i3,e,hz,hkk,n1,n2,n3,show decide ((is.length:Int)≥8)=false from decide_eq_false (by omega),hai,Nat.beq_refl,Bool.and_self,er]
     ·have hb:((is.length:Int) == 8)=false:=by simp;omega
      simp only [go_sem,bT,Int.ofNat_lt,bo,i2,e3,ze,hor,hkk,n1,n3,hb,hai];simp only [go_sem,aa,af (show i < _ by omega),er]
   ·
    have n2:((7:Int) != 7)=false:=rfl;have n3:((7:Int) == 5)=false:=rfl;have hai:lq rs [x.2.2.2.1]=some (rs ++ [x.2.2.2.1]):=p6 (by simp;omega)
    by_cases hl:rs.length=3
    ·refine lim (fun q k e=>?_) (fun q k=>⟨ps,is,rs ++ [x.2.2.2.1],?_⟩)
     ·simp only [go_sem,dC,aa,af (show i < _ by omega),Int.ofNat_lt,h1,i1,e3,ft,i3,e,hz,hkk,hl,show decide (((3:Nat):Int)≥3)=true from rfl]
     ·simp only [go_sem,bT,Int.ofNat_lt,bo,i2,e3,ze,hor,hkk,hl,hai]
      simp only [go_sem,aa,show(((3:Nat):Int) == 3)=true from rfl]
    ·refine sw ps is (rs ++ [x.2.2.2.1]) ⟨by omega,by simp;omega,by omega,by omega⟩ (adX is rs _) (fun q k r e er=>?_) (fun q k r er=>?_)
     ·simp only [go_sem,dC,aa,af (show i < _ by omega),Int.ofNat_lt,h1,i1,e3,ft,i3,e,hz,hkk,n2,n3,show decide ((rs.length:Int)≥3)=false from decide_eq_false (by omega),hai,Nat.beq_refl,Bool.and_self,er]
     ·have hb:((rs.length:Int) == 3)=false:=by simp;omega
      simp only [go_sem,bT,Int.ofNat_lt,bo,i2,e3,ze,hor,hkk,hb,hai];simp only [go_sem,aa,af (show i < _ by omega),er]
end
end Go.Fx.R5
namespace Go.Fx.R5
open Go Go.Fx
section
variable {ns:List eq} {cB:XI} {D:AS}
theorem Y9{K:XI}(h:K≠[])(hl:K.length≤5000):sub K 0 (dq ((K.length:Int) - 1))=some K.dropLast:=by
 have hp:=List.length_pos_iff.2 h;have:=GB (l:=K) (m:=0) (n:=K.length - 1) (by omega) (by omega)
 rw [eM (by omega) (by omega),show(K.length:Int) - 1=((K.length - 1:Nat):Int) by omega]
 rw [show(0:Int)=((0:Nat):Int) from rfl,this,List.drop_zero,List.dropLast_eq_take]
theorem TK(fo:jl ns)(hl:ns.length≤100000)(hk:iO EM ns cB)(zA:cB.length≤5000):∀ m i f (t:yE),m + i=cB.length→P1 ns t D→t.2.2.length=f + cnt ns (cB.drop i)→(∀ n x,f≤n→t.2.2[n]? = some x→x.2.1=0∧x.2.2.1 = []∧x.2.2.2.1 = [])→
  (∃(c p:Int),c≠0∧co fun q k=>cT q k ns cB 0 0 t.1 t.2.1 t.2.2 (f:Int) (i:Int)=some (.inr (c,p,()))∧dl q k ns cB (cB.length:Int) t.2.2 0 0 D (f:Int) (i:Int)=some (.inr (c,p,())))∨
  ∃(F':FS),P1 ns (t.1,t.2.1,F') D∧co fun q k=>cT q k ns cB 0 0 t.1 t.2.1 t.2.2 (f:Int) (i:Int)=some (.inl (0,0,t.1,t.2.1,F',()))∧
   dl q k ns cB (cB.length:Int) t.2.2 0 0 D (f:Int) (i:Int)=some (.inl (F',0,0,())):=by
 intro m;induction m with
 |zero=>
  intro i f t h hp hc hf;have h2:¬ i < cB.length:=by omega
  refine .inr ⟨t.2.2,hp,co.succ (co.of fun q k=>⟨?_,?_⟩)⟩
  ·simp only [go_sem,cT,Int.ofNat_lt,h2]
  ·simp only [go_sem,dl,Int.ofNat_lt,h2]
 |succ m ih=>
  intro i f t h hp hc hf;have bo:i < cB.length:=by omega
  obtain⟨x,e1,e2,e3,e4,e5,e6,e7⟩:=US fo hk bo;have hdr:cnt ns (cB.drop i)=(if x.1=4 then 1 else 0) + cnt ns (cB.drop (i + 1)):=by rw [List.drop_eq_getElem_cons bo];simp only [cnt,List.filter_cons,e6];by_cases h4:x.1=4<;>simp [h4]<;>omega
  by_cases h4:x.1=4
  rotate_left
  ·have b1:(x.1 == 4)=false:=beq_eq_false_iff_ne.2 h4
   have b2:(x.1 != 4)=true:=bne_iff_ne.2 h4;rw [if_neg h4] at hdr;rcases ih (i + 1) f t (by omega) hp (by omega) hf with ⟨c,p,g,he⟩ |⟨F',g,he⟩
   ·refine .inl ⟨c,p,g,co.succ (he.mono fun q k e=>⟨?_,?_⟩)⟩
    ·simp only [go_sem,cT,aa,Int.ofNat_lt,bo,e1,e2,b1,af (show i < _ by omega),e.1]
    ·simp only [go_sem,dl,aa,Int.ofNat_lt,bo,e1,e2,b2,af (show i < _ by omega),e.2]
   ·refine .inr ⟨F',g,co.succ (he.mono fun q k e=>⟨?_,?_⟩)⟩
    ·simp only [go_sem,cT,aa,Int.ofNat_lt,bo,e1,e2,b1,af (show i < _ by omega),e.1]
    ·simp only [go_sem,dl,aa,Int.ofNat_lt,bo,e1,e2,b2,af (show i < _ by omega),e.2]
  ·rw [if_pos h4] at hdr
   have b1:(x.1 == 4)=true:=beq_iff_eq.2 h4;have b2:(x.1 != 4)=false:=by rw [h4];rfl
   obtain⟨b,hb,_,_,_,hlc⟩:=Y1 e4 h4;have gY:x.2.2.2.2≠[]:=by intro e;rw [e] at hb;cases hb
   have adw:=e4.nm.2;have aeT:f < t.2.2.length:=by omega
   obtain⟨nm,ps,is,rs,body,L5⟩:∃ nm ps is rs body,t.2.2[f]? = some (nm,ps,is,rs,body):=⟨_,_,_,_,_,by rw [List.getElem?_eq_getElem aeT]⟩
   obtain⟨z1,z2,z3⟩:=hf f _ (Nat.le_refl _) L5;simp only at z1 z2 z3;subst z1;subst z2;subst z3;have adv:bH t.2.2 (f:Int)=some (nm,0,[],[],body):=bj L5;have L7:=(List.getElem?_eq_some_iff.1 e3).1;have how:=YC fo (K:=x.2.2.2.2) (f:=f) (fun j hj=>⟨(hlc j hj).1,by have:=(hlc j hj).2.1;omega,(hlc j hj).2.2⟩) adw (nm:=nm) (body:=body) x.2.2.2.2.dropLast.length 0 t 0 [] [] [] (by omega) hp L5 (fun s=>by simp [qh])
   have qb:=Y9 gY adw;have ft:((f:Int)).toNat=f:=Int.toNat_natCast f;have hf6:=hp.iw.f;rcases how with ⟨c,p,hc0,he⟩ |⟨GF,EL,ER,GE,he⟩
   ·have he:Ev fun k=>(∃ A G F,dC k k x.2.2.2.2 ns (f:Int) t.1 t.2.1 t.2.2 0 0 0=some (.inr (c,p,A,G,F,())))∧
      ∃ GF EL ER,bT k k D ns x.2.2.2.2.dropLast (x.2.2.2.2.dropLast.length:Int) 0 0 0 [] [] [] 0=some (.inr (c,p,GF,EL,ER,())):=he.jN
    refine .inl ⟨c,p,hc0,co.succ (he.tX.mono fun q k e=>?_)⟩;obtain⟨⟨A',G',F',e8⟩,GF,EL,ER,e9⟩:=e;refine⟨?_,?_⟩
    ·simp only [go_sem,cT,pk,BF,aa,Int.ofNat_lt,bo,e1,e2,b1,e8,bne_iff_ne.2 hc0]
    ·simp only [go_sem,dl,pQ,rY,aa,Int.ofNat_lt,bo,e1,e2,b2,adv,ft,qb,e9,bne_iff_ne.2 hc0]
   ·have he:Ev fun k=>dC k k x.2.2.2.2 ns (f:Int) t.1 t.2.1 t.2.2 0 0 0=some (.inl (t.1,t.2.1,t.2.2.set f (nm,GF,EL,ER,body),0,0,()))∧
      bT k k D ns x.2.2.2.2.dropLast (x.2.2.2.2.dropLast.length:Int) 0 0 0 [] [] [] 0=some (.inl (0,0,GF,EL,ER,())):=he.jN
    have s1:∀{q k r},dC q q x.2.2.2.2 ns (f:Int) t.1 t.2.1 t.2.2 0 0 0=some (.inl (t.1,t.2.1,t.2.2.set f (nm,GF,EL,ER,body),0,0,()))→cT q k ns cB 0 0 t.1 t.2.1 (t.2.2.set f (nm,GF,EL,ER,body)) ((f + 1:Nat):Int) ((i + 1:Nat):Int)=r→
      cT q (k + 1) ns cB 0 0 t.1 t.2.1 t.2.2 (f:Int) (i:Int)=r:=fun a1 a2=>by
     simp only [go_sem,cT,pk,BF,aa,Int.ofNat_lt,bo,e1,e2,b1,a1,af (show i < _ by omega),af (show f < _ by omega),a2]
    have s2:∀{q k r},bT q q D ns x.2.2.2.2.dropLast (x.2.2.2.2.dropLast.length:Int) 0 0 0 [] [] [] 0=some (.inl (0,0,GF,EL,ER,()))→dl q k ns cB (cB.length:Int) (t.2.2.set f (nm,GF,EL,ER,body)) 0 0 D ((f + 1:Nat):Int) ((i + 1:Nat):Int)=r→
      dl q (k + 1) ns cB (cB.length:Int) t.2.2 0 0 D (f:Int) (i:Int)=r:=fun a1 a2=>by
     simp only [go_sem,dl,pQ,rY,aa,Int.ofNat_lt,bo,e1,e2,b2,adv,ft,qb,a1,af (show i < _ by omega),af (show f < _ by omega),a2]
    rcases ih (i + 1) (f + 1) (t.1,t.2.1,t.2.2.set f (nm,GF,EL,ER,body)) (by omega) GE (by simp;omega) (fun n y hn hy=>hf n y (by omega) (by
      have:(t.2.2.set f (nm,GF,EL,ER,body))[n]? = some y:=hy;rwa [List.getElem?_set_ne (by omega)] at this)) with ⟨c,p,g,hh⟩ |⟨F',g,hh⟩
    ·exact .inl ⟨c,p,g,co.succ ((he.tX.and hh).mono fun q k e=>⟨s1 e.1.1 e.2.1,s2 e.1.2 e.2.2⟩)⟩
    ·exact .inr ⟨F',g,co.succ ((he.tX.and hh).mono fun q k e=>⟨s1 e.1.1 e.2.1,s2 e.1.2 e.2.2⟩)⟩
end
end Go.Fx.R5
namespace Go.Fx.R5
open Go Go.Fx
def W(t:yE)(fn s:an)(a b:Int):Int:=if(nk t fn s).1=0 then 10 else if(nk t fn s).1=a∨(nk t fn s).1=b then 0 else 11
def J1(l:XS)(D:AS):Prop:=∀ s,0 < qh D s↔s∈l
def GV(t:yE)(fn:an)(l:XS)(s:an)(a b:Int):Int:=if W t fn s a b≠0 then W t fn s a b else if s∈l then 11 else 0
def KQ(c a:Int):Int:=if c=0 then 0 else a
section
variable {t:yE} {fn s:an} {ns:List eq} {l:XS} {D:AS}
theorem DK(ht:iD t)(s:an)(lr a b:Int):Ev fun k=>gQ k t.1 t.2.1 t.2.2 fn 0 0 s lr a b=some (W t fn s a b,KQ (W t fn s a b) lr,()):=
 (T6 ht fn s).mono fun k e=>by
  simp only [go_sem,gQ,show cM k (t.1,t.2.1,t.2.2) fn s=_ from e,cj,aa,W,KQ]
  by_cases h0:(nk t fn s).1=0
  ·simp [h0]
  ·by_cases ha:(nk t fn s).1=a
   ·have h0':¬ a=0:=fun h=>h0 (ha.trans h)
    simp [ha,h0',beq_eq_false_iff_ne.2 h0']
   ·by_cases hb:(nk t fn s).1=b
    ·have h0':¬ b=0:=fun h=>h0 (hb.trans h)
     have ha':(b != a)=true:=bne_iff_ne.2 fun h=>ha (hb.trans h);simp [hb,h0',beq_eq_false_iff_ne.2 h0',ha']
    ·simp [h0,ha,hb,beq_eq_false_iff_ne.2 h0,bne,beq_eq_false_iff_ne.2 ha,beq_eq_false_iff_ne.2 hb]
theorem Vo{c p:Int}(hc:c≠0)(ht:iD t)(s:an)(lr a b:Int):Ev fun k=>gQ k t.1 t.2.1 t.2.2 fn c p s lr a b=some (c,p,()):=
 (T6 ht fn s).mono fun k e=>by
  simp only [go_sem,gQ,show cM k (t.1,t.2.1,t.2.2) fn s=_ from e,cj,beq_eq_false_iff_ne.2 hc,aa]
  cases ((nk t fn s).1 == 0)<;>cases ((nk t fn s).1 != a)<;>cases ((nk t fn s).1 != b)<;>rfl
theorem px(l:XS)(s:an):decide (0≤nq (fun x=>x == s) l 0)=decide (s∈l):=decide_eq_decide.2 (by rw [Bv];simp)
theorem abh(ht:iD t)(hl:l.length≤1000000)(s:an)(lr:Int):Ev fun k=>tU k t.1 t.2.1 t.2.2 fn l 0 0 s lr = some (l,GV t fn l s 3 2,KQ (GV t fn l s 3 2) lr,()):=
 ((DK (fn:=fn) ht s lr 3 2).and (H9 l s hl)).mono fun k e=>by
  simp only [go_sem,tU,e.1,e.2,ge0,px,cj,GV,KQ];by_cases hw:W t fn s 3 2=0
  ·by_cases hm:s∈l<;>simp [hw,hm]
  ·by_cases hm:s∈l<;>simp [hw,hm,beq_eq_false_iff_ne.2 hw]
theorem TM(q:Nat)(n a:Int)(k:Nat):eo q (k + 2) n [a] 1 0=some (bif a == n then .inr (0,()) else .inl ()):=by
 rw [eo];simp only [go_sem,show decide ((0:Int) < 1)=true from rfl,show bH [a] 0=some a from rfl,show dq (0 + 1)=1 from rfl]
 rw [eo];simp only [go_sem,show decide ((1:Int) < 1)=false from rfl]
 cases (a == n)<;>rfl
theorem TN(q:Nat)(n a b:Int)(k:Nat):eo q (k + 3) n [a,b] 2 0=some (bif a == n then .inr (0,()) else bif b == n then .inr (0,()) else .inl ()):=by
 rw [eo];simp only [go_sem,show decide ((0:Int) < 2)=true from rfl,show bH [a,b] 0=some a from rfl,show dq (0 + 1)=1 from rfl]
 rw [eo];simp only [go_sem,show decide ((1:Int) < 2)=true from rfl,show bH [a,b] 1=some b from rfl,show dq (1 + 1)=2 from rfl]
 rw [eo];simp only [go_sem,show decide ((2:Int) < 2)=false from rfl]
 cases (a == n)<;>cases (b == n)<;>rfl
theorem D4(ht:iD t)(s:an)(a:Int):Ev fun k=>dJ k t.1 t.2.1 t.2.2 fn s [a]=some (W t fn s a a,()):=
 ((XW ht fn s).and ⟨2,fun k hk=>hk⟩).mono fun k e=>by
  obtain⟨j,rfl⟩:∃ j,k=j + 2:=⟨k - 2,by omega⟩
  simp only [go_sem,dJ,gC,show fE (j + 2) (t.1,t.2.1,t.2.2) fn s=_ from e.1,show((([a]:XI).length:Int))=1 from rfl,TM,W,or_self]
  by_cases h0:(nk t fn s).1=0
  ·simp [h0]
  ·by_cases ha:(nk t fn s).1=a
   ·have:¬ a=0:=fun h=>h0 (ha.trans h)
    simp [ha,this,beq_eq_false_iff_ne.2 this]
   ·have:(a == (nk t fn s).1)=false:=beq_eq_false_iff_ne.2 (Ne.symm ha)
    simp [h0,ha,this,beq_eq_false_iff_ne.2 h0]
theorem ZR(ht:iD t)(s:an)(a b:Int):Ev fun k=>dJ k t.1 t.2.1 t.2.2 fn s [a,b]=some (W t fn s a b,()):=
 ((XW ht fn s).and ⟨3,fun k hk=>hk⟩).mono fun k e=>by
  obtain⟨j,rfl⟩:∃ j,k=j + 3:=⟨k - 3,by omega⟩
  simp only [go_sem,dJ,gC,show fE (j + 3) (t.1,t.2.1,t.2.2) fn s=_ from e.1,show((([a,b]:XI).length:Int))=2 from rfl,TN,W]
  by_cases h0:(nk t fn s).1=0
  ·simp [h0]
  ·by_cases ha:(nk t fn s).1=a
   ·have:¬ a=0:=fun h=>h0 (ha.trans h)
    simp [ha,this,beq_eq_false_iff_ne.2 this]
   ·have h1:(a == (nk t fn s).1)=false:=beq_eq_false_iff_ne.2 (Ne.symm ha)
    by_cases hb:(nk t fn s).1=b
    ·have h0':¬ b=0:=fun h=>h0 (hb.trans h)
     have h1':(a == b)=false:=beq_eq_false_iff_ne.2 fun h=>ha (hb.trans h.symm);simp [hb,h0',beq_eq_false_iff_ne.2 h0',h1']
    ·have h2:(b == (nk t fn s).1)=false:=beq_eq_false_iff_ne.2 (Ne.symm hb)
     simp [h0,ha,hb,h1,h2,beq_eq_false_iff_ne.2 h0]
theorem UJ{k:Nat}{c:Int}{ks:XI}{a b:Int}(hr:J1 l D)(e:dJ k t.1 t.2.1 t.2.2 fn s ks=some (W t fn s a b,())):mF k t.1 t.2.1 t.2.2 fn D s ks=some (GV t fn l s a b,()):=by
 simp only [go_sem,mF,e,GV];by_cases hw:W t fn s a b=0
 ·have:=hr s
  by_cases hm:s∈l
  ·have h:qh D s > 0:=this.2 hm
   simp [hw,hm,h]
  ·have h:¬ qh D s > 0:=fun h=>hm (this.1 h)
   simp [hw,hm,h]
 ·simp [hw,bne_iff_ne.2 hw]
def oD(t:yE)(fn:an)(l:XS)(x:eq):Int:=
 if x.1=25 then W t fn x.2.2.2.1 3 2 else if x.1=26∨x.1=10 then W t fn x.2.2.2.1 1 1 else
 if x.1=27∨x.1=11∨x.1=13∨x.1=34∨x.1=12 then W t fn x.2.2.2.1 4 4 else
 if x.1=17∨x.1=22 then GV t fn l x.2.2.2.1 3 2 else if x.1=16 then GV t fn l x.2.2.2.1 3 3 else 0
theorem Vm(ht:iD t)(hl:l.length≤1000000){i:Nat}{x:eq}(hx:ns[i]? = some x):Ev fun k=>gE k t.1 t.2.1 t.2.2 ns fn l 0 0 (i:Int)=some (l,oD t fn l x,KQ (oD t fn l x) x.2.1,()):=by
 obtain⟨kk,lr,nu,nm,ks⟩:=x;refine((((DK (fn:=fn) ht nm lr 3 2).and (DK (fn:=fn) ht nm lr 1 1)).and ((DK (fn:=fn) ht nm lr 4 4).and (abh (fn:=fn) ht hl nm lr))).and ((DK (fn:=fn) ht nm lr 3 3).and (H9 l nm hl))).mono fun k e=>?_;obtain⟨⟨⟨e1,e2⟩,e3,e4⟩,e5,e6⟩:=e;by_cases h25:kk=25
 ·subst h25
  simp only [go_sem,gE,bj hx,aa,show((25:Int) == 25)=true from rfl,show((25:Int) == 26)=false from rfl,show((25:Int) == 10)=false from rfl,show((25:Int) == 27)=false from rfl,show((25:Int) == 11)=false from rfl,show((25:Int) == 13)=false from rfl,show((25:Int) == 34)=false from rfl,show((25:Int) == 12)=false from rfl,show((25:Int) == 17)=false from rfl,show((25:Int) == 22)=false from rfl,show((25:Int) == 16)=false from rfl,e1,e2,e3,e4,e5,e6,ge0,px,cj,oD,Int.reduceEq,reduceIte,or_true,true_or,or_false,false_or,or_self]
 by_cases h26:kk=26
 ·subst h26
  simp only [go_sem,gE,bj hx,aa,show((26:Int) == 25)=false from rfl,show((26:Int) == 26)=true from rfl,show((26:Int) == 10)=false from rfl,show((26:Int) == 27)=false from rfl,show((26:Int) == 11)=false from rfl,show((26:Int) == 13)=false from rfl,show((26:Int) == 34)=false from rfl,show((26:Int) == 12)=false from rfl,show((26:Int) == 17)=false from rfl,show((26:Int) == 22)=false from rfl,show((26:Int) == 16)=false from rfl,e1,e2,e3,e4,e5,e6,ge0,px,cj,oD,Int.reduceEq,reduceIte,or_true,true_or,or_false,false_or,or_self]
 by_cases h10:kk=10
 ·subst h10
  simp only [go_sem,gE,bj hx,aa,show((10:Int) == 25)=false from rfl,show((10:Int) == 26)=false from rfl,show((10:Int) == 10)=true from rfl,show((10:Int) == 27)=false from rfl,show((10:Int) == 11)=false from rfl,show((10:Int) == 13)=false from rfl,show((10:Int) == 34)=false from rfl,show((10:Int) == 12)=false from rfl,show((10:Int) == 17)=false from rfl,show((10:Int) == 22)=false from rfl,show((10:Int) == 16)=false from rfl,e1,e2,e3,e4,e5,e6,ge0,px,cj,oD,Int.reduceEq,reduceIte,or_true,true_or,or_false,false_or,or_self]
 by_cases h27:kk=27
 ·subst h27
  simp only [go_sem,gE,bj hx,aa,show((27:Int) == 25)=false from rfl,show((27:Int) == 26)=false from rfl,show((27:Int) == 10)=false from rfl,show((27:Int) == 27)=true from rfl,show((27:Int) == 11)=false from rfl,show((27:Int) == 13)=false from rfl,show((27:Int) == 34)=false from rfl,show((27:Int) == 12)=false from rfl,show((27:Int) == 17)=false from rfl,show((27:Int) == 22)=false from rfl,show((27:Int) == 16)=false from rfl,e1,e2,e3,e4,e5,e6,ge0,px,cj,oD,Int.reduceEq,reduceIte,or_true,true_or,or_false,false_or,or_self]
 by_cases h11:kk=11
 ·subst h11
  simp only [go_sem,gE,bj hx,aa,show((11:Int) == 25)=false from rfl,show((11:Int) == 26)=false from rfl,show((11:Int) == 10)=false from rfl,show((11:Int) == 27)=false from rfl,show((11:Int) == 11)=true from rfl,show((11:Int) == 13)=false from rfl,show((11:Int) == 34)=false from rfl,show((11:Int) == 12)=false from rfl,show((11:Int) == 17)=false from rfl,show((11:Int) == 22)=false from rfl,show((11:Int) == 16)=false from rfl,e1,e2,e3,e4,e5,e6,ge0,px,cj,oD,Int.reduceEq,reduceIte,or_true,true_or,or_false,false_or,or_self]
 by_cases h13:kk=13
 ·subst h13
  simp only [go_sem,gE,bj hx,aa,show((13:Int) == 25)=false from rfl,show((13:Int) == 26)=false from rfl,show((13:Int) == 10)=false from rfl,show((13:Int) == 27)=false from rfl,show((13:Int) == 11)=false from rfl,show((13:Int) == 13)=true from rfl,show((13:Int) == 34)=false from rfl,show((13:Int) == 12)=false from rfl,show((13:Int) == 17)=false from rfl,show((13:Int) == 22)=false from rfl,show((13:Int) == 16)=false from rfl,e1,e2,e3,e4,e5,e6,ge0,px,cj,oD,Int.reduceEq,reduceIte,or_true,true_or,or_false,false_or,or_self]
 by_cases h34:kk=34
 ·subst h34
  simp only [go_sem,gE,bj hx,aa,show((34:Int) == 25)=false from rfl,show((34:Int) == 26)=false from rfl,show((34:Int) == 10)=false from rfl,show((34:Int) == 27)=false from rfl,show((34:Int) == 11)=false from rfl,show((34:Int) == 13)=false from rfl,show((34:Int) == 34)=true from rfl,show((34:Int) == 12)=false from rfl,show((34:Int) == 17)=false from rfl,show((34:Int) == 22)=false from rfl,show((34:Int) == 16)=false from rfl,e1,e2,e3,e4,e5,e6,ge0,px,cj,oD,Int.reduceEq,reduceIte,or_true,true_or,or_false,false_or,or_self]
 by_cases JE:kk=12
 ·subst JE
  simp only [go_sem,gE,bj hx,aa,show((12:Int) == 25)=false from rfl,show((12:Int) == 26)=false from rfl,show((12:Int) == 10)=false from rfl,show((12:Int) == 27)=false from rfl,show((12:Int) == 11)=false from rfl,show((12:Int) == 13)=false from rfl,show((12:Int) == 34)=false from rfl,show((12:Int) == 12)=true from rfl,show((12:Int) == 17)=false from rfl,show((12:Int) == 22)=false from rfl,show((12:Int) == 16)=false from rfl,e1,e2,e3,e4,e5,e6,ge0,px,cj,oD,Int.reduceEq,reduceIte,or_true,true_or,or_false,false_or,or_self]
 by_cases h17:kk=17
 ·subst h17
  simp only [go_sem,gE,bj hx,aa,show((17:Int) == 25)=false from rfl,show((17:Int) == 26)=false from rfl,show((17:Int) == 10)=false from rfl,show((17:Int) == 27)=false from rfl,show((17:Int) == 11)=false from rfl,show((17:Int) == 13)=false from rfl,show((17:Int) == 34)=false from rfl,show((17:Int) == 12)=false from rfl,show((17:Int) == 17)=true from rfl,show((17:Int) == 22)=false from rfl,show((17:Int) == 16)=false from rfl,e1,e2,e3,e4,e5,e6,ge0,px,cj,oD,Int.reduceEq,reduceIte,or_true,true_or,or_false,false_or,or_self]
 by_cases Dd:kk=22
 ·subst Dd
  simp only [go_sem,gE,bj hx,aa,show((22:Int) == 25)=false from rfl,show((22:Int) == 26)=false from rfl,show((22:Int) == 10)=false from rfl,show((22:Int) == 27)=false from rfl,show((22:Int) == 11)=false from rfl,show((22:Int) == 13)=false from rfl,show((22:Int) == 34)=false from rfl,show((22:Int) == 12)=false from rfl,show((22:Int) == 17)=false from rfl,show((22:Int) == 22)=true from rfl,show((22:Int) == 16)=false from rfl,e1,e2,e3,e4,e5,e6,ge0,px,cj,oD,Int.reduceEq,reduceIte,or_true,true_or,or_false,false_or,or_self]
 by_cases E6:kk=16
 ·subst E6
  simp only [go_sem,gE,bj hx,aa,show((16:Int) == 25)=false from rfl,show((16:Int) == 26)=false from rfl,show((16:Int) == 10)=false from rfl,show((16:Int) == 27)=false from rfl,show((16:Int) == 11)=false from rfl,show((16:Int) == 13)=false from rfl,show((16:Int) == 34)=false from rfl,show((16:Int) == 12)=false from rfl,show((16:Int) == 17)=false from rfl,show((16:Int) == 22)=false from rfl,show((16:Int) == 16)=true from rfl,e1,e2,e3,e4,e5,e6,ge0,px,cj,oD,Int.reduceEq,reduceIte,or_true,true_or,or_false,false_or,or_self]
  simp only [GV,KQ];by_cases hw:W t fn nm 3 3=0
  ·by_cases hm:nm∈l<;>simp [hw,hm]
  ·by_cases hm:nm∈l<;>simp [hw,hm,beq_eq_false_iff_ne.2 hw]
 simp only [go_sem,gE,bj hx,aa,beq_eq_false_iff_ne.2 h25,h25,beq_eq_false_iff_ne.2 h26,h26,beq_eq_false_iff_ne.2 h10,h10,beq_eq_false_iff_ne.2 h27,h27,beq_eq_false_iff_ne.2 h11,h11,beq_eq_false_iff_ne.2 h13,h13,beq_eq_false_iff_ne.2 h34,h34,beq_eq_false_iff_ne.2 JE,JE,beq_eq_false_iff_ne.2 h17,h17,beq_eq_false_iff_ne.2 Dd,Dd,beq_eq_false_iff_ne.2 E6,E6,oD,or_self,reduceIte];rfl
theorem Ge(ht:iD t)(l:XS)(x:eq):Ev fun k=>∀ D,J1 l D→cI k t.1 t.2.1 t.2.2 fn D x=some (if x.1=9 then GV t fn l x.2.2.2.1 3 2 else oD t fn l x,()):=by
 obtain⟨kk,lr,nu,nm,ks⟩:=x;refine(((ZR (fn:=fn) ht nm 3 2).and (D4 (fn:=fn) ht nm 1)).and ((D4 (fn:=fn) ht nm 4).and (D4 (fn:=fn) ht nm 3))).mono fun k e=>?_;obtain⟨⟨e1,e2⟩,e3,e4⟩:=e;intro D hr;have e5:=UJ (c:=0) hr e1;have e6:=UJ (c:=0) hr e4;by_cases h25:kk=25
 ·subst h25
  simp only [go_sem,cI,aa,show((25:Int) == 25)=true from rfl,show((25:Int) == 26)=false from rfl,show((25:Int) == 10)=false from rfl,show((25:Int) == 27)=false from rfl,show((25:Int) == 11)=false from rfl,show((25:Int) == 13)=false from rfl,show((25:Int) == 34)=false from rfl,show((25:Int) == 12)=false from rfl,show((25:Int) == 17)=false from rfl,show((25:Int) == 22)=false from rfl,show((25:Int) == 9)=false from rfl,show((25:Int) == 16)=false from rfl,e1,e2,e3,e5,e6,oD,Int.reduceEq,reduceIte,or_true,true_or,or_false,false_or,or_self]
 by_cases h26:kk=26
 ·subst h26
  simp only [go_sem,cI,aa,show((26:Int) == 25)=false from rfl,show((26:Int) == 26)=true from rfl,show((26:Int) == 10)=false from rfl,show((26:Int) == 27)=false from rfl,show((26:Int) == 11)=false from rfl,show((26:Int) == 13)=false from rfl,show((26:Int) == 34)=false from rfl,show((26:Int) == 12)=false from rfl,show((26:Int) == 17)=false from rfl,show((26:Int) == 22)=false from rfl,show((26:Int) == 9)=false from rfl,show((26:Int) == 16)=false from rfl,e1,e2,e3,e5,e6,oD,Int.reduceEq,reduceIte,or_true,true_or,or_false,false_or,or_self]
 by_cases h10:kk=10
 ·subst h10
  simp only [go_sem,cI,aa,show((10:Int) == 25)=false from rfl,show((10:Int) == 26)=false from rfl,show((10:Int) == 10)=true from rfl,show((10:Int) == 27)=false from rfl,show((10:Int) == 11)=false from rfl,show((10:Int) == 13)=false from rfl,show((10:Int) == 34)=false from rfl,show((10:Int) == 12)=false from rfl,show((10:Int) == 17)=false from rfl,show((10:Int) == 22)=false from rfl,show((10:Int) == 9)=false from rfl,show((10:Int) == 16)=false from rfl,e1,e2,e3,e5,e6,oD,Int.reduceEq,reduceIte,or_true,true_or,or_false,false_or,or_self]
 by_cases h27:kk=27
 ·subst h27
  simp only [go_sem,cI,aa,show((27:Int) == 25)=false from rfl,show((27:Int) == 26)=false from rfl,show((27:Int) == 10)=false from rfl,show((27:Int) == 27)=true from rfl,show((27:Int) == 11)=false from rfl,show((27:Int) == 13)=false from rfl,show((27:Int) == 34)=false from rfl,show((27:Int) == 12)=false from rfl,show((27:Int) == 17)=false from rfl,show((27:Int) == 22)=false from rfl,show((27:Int) == 9)=false from rfl,show((27:Int) == 16)=false from rfl,e1,e2,e3,e5,e6,oD,Int.reduceEq,reduceIte,or_true,true_or,or_false,false_or,or_self]
 by_cases h11:kk=11
 ·subst h11
  simp only [go_sem,cI,aa,show((11:Int) == 25)=false from rfl,show((11:Int) == 26)=false from rfl,show((11:Int) == 10)=false from rfl,show((11:Int) == 27)=false from rfl,show((11:Int) == 11)=true from rfl,show((11:Int) == 13)=false from rfl,show((11:Int) == 34)=false from rfl,show((11:Int) == 12)=false from rfl,show((11:Int) == 17)=false from rfl,show((11:Int) == 22)=false from rfl,show((11:Int) == 9)=false from rfl,show((11:Int) == 16)=false from rfl,e1,e2,e3,e5,e6,oD,Int.reduceEq,reduceIte,or_true,true_or,or_false,false_or,or_self]
 by_cases h13:kk=13
 ·subst h13
  simp only [go_sem,cI,aa,show((13:Int) == 25)=false from rfl,show((13:Int) == 26)=false from rfl,show((13:Int) == 10)=false from rfl,show((13:Int) == 27)=false from rfl,show((13:Int) == 11)=false from rfl,show((13:Int) == 13)=true from rfl,show((13:Int) == 34)=false from rfl,show((13:Int) == 12)=false from rfl,show((13:Int) == 17)=false from rfl,show((13:Int) == 22)=false from rfl,show((13:Int) == 9)=false from rfl,show((13:Int) == 16)=false from rfl,e1,e2,e3,e5,e6,oD,Int.reduceEq,reduceIte,or_true,true_or,or_false,false_or,or_self]
 by_cases h34:kk=34
 ·subst h34
  simp only [go_sem,cI,aa,show((34:Int) == 25)=false from rfl,show((34:Int) == 26)=false from rfl,show((34:Int) == 10)=false from rfl,show((34:Int) == 27)=false from rfl,show((34:Int) == 11)=false from rfl,show((34:Int) == 13)=false from rfl,show((34:Int) == 34)=true from rfl,show((34:Int) == 12)=false from rfl,show((34:Int) == 17)=false from rfl,show((34:Int) == 22)=false from rfl,show((34:Int) == 9)=false from rfl,show((34:Int) == 16)=false from rfl,e1,e2,e3,e5,e6,oD,Int.reduceEq,reduceIte,or_true,true_or,or_false,false_or,or_self]
 by_cases JE:kk=12
 ·subst JE
  simp only [go_sem,cI,aa,show((12:Int) == 25)=false from rfl,show((12:Int) == 26)=false from rfl,show((12:Int) == 10)=false from rfl,show((12:Int) == 27)=false from rfl,show((12:Int) == 11)=false from rfl,show((12:Int) == 13)=false from rfl,show((12:Int) == 34)=false from rfl,show((12:Int) == 12)=true from rfl,show((12:Int) == 17)=false from rfl,show((12:Int) == 22)=false from rfl,show((12:Int) == 9)=false from rfl,show((12:Int) == 16)=false from rfl,e1,e2,e3,e5,e6,oD,Int.reduceEq,reduceIte,or_true,true_or,or_false,false_or,or_self]
 by_cases h17:kk=17
 ·subst h17
  simp only [go_sem,cI,aa,show((17:Int) == 25)=false from rfl,show((17:Int) == 26)=false from rfl,show((17:Int) == 10)=false from rfl,show((17:Int) == 27)=false from rfl,show((17:Int) == 11)=false from rfl,show((17:Int) == 13)=false from rfl,show((17:Int) == 34)=false from rfl,show((17:Int) == 12)=false from rfl,show((17:Int) == 17)=true from rfl,show((17:Int) == 22)=false from rfl,show((17:Int) == 9)=false from rfl,show((17:Int) == 16)=false from rfl,e1,e2,e3,e5,e6,oD,Int.reduceEq,reduceIte,or_true,true_or,or_false,false_or,or_self]
 by_cases Dd:kk=22
 ·subst Dd
  simp only [go_sem,cI,aa,show((22:Int) == 25)=false from rfl,show((22:Int) == 26)=false from rfl,show((22:Int) == 10)=false from rfl,show((22:Int) == 27)=false from rfl,show((22:Int) == 11)=false from rfl,show((22:Int) == 13)=false from rfl,show((22:Int) == 34)=false from rfl,show((22:Int) == 12)=false from rfl,show((22:Int) == 17)=false from rfl,show((22:Int) == 22)=true from rfl,show((22:Int) == 9)=false from rfl,show((22:Int) == 16)=false from rfl,e1,e2,e3,e5,e6,oD,Int.reduceEq,reduceIte,or_true,true_or,or_false,false_or,or_self]
 by_cases h9:kk=9
 ·subst h9
  simp only [go_sem,cI,aa,show((9:Int) == 25)=false from rfl,show((9:Int) == 26)=false from rfl,show((9:Int) == 10)=false from rfl,show((9:Int) == 27)=false from rfl,show((9:Int) == 11)=false from rfl,show((9:Int) == 13)=false from rfl,show((9:Int) == 34)=false from rfl,show((9:Int) == 12)=false from rfl,show((9:Int) == 17)=false from rfl,show((9:Int) == 22)=false from rfl,show((9:Int) == 9)=true from rfl,show((9:Int) == 16)=false from rfl,e1,e2,e3,e5,e6,oD,Int.reduceEq,reduceIte,or_true,true_or,or_false,false_or,or_self]
 by_cases E6:kk=16
 ·subst E6
  simp only [go_sem,cI,aa,show((16:Int) == 25)=false from rfl,show((16:Int) == 26)=false from rfl,show((16:Int) == 10)=false from rfl,show((16:Int) == 27)=false from rfl,show((16:Int) == 11)=false from rfl,show((16:Int) == 13)=false from rfl,show((16:Int) == 34)=false from rfl,show((16:Int) == 12)=false from rfl,show((16:Int) == 17)=false from rfl,show((16:Int) == 22)=false from rfl,show((16:Int) == 9)=false from rfl,show((16:Int) == 16)=true from rfl,e1,e2,e3,e5,e6,oD,Int.reduceEq,reduceIte,or_true,true_or,or_false,false_or,or_self]
 simp only [go_sem,cI,aa,beq_eq_false_iff_ne.2 h25,h25,beq_eq_false_iff_ne.2 h26,h26,beq_eq_false_iff_ne.2 h10,h10,beq_eq_false_iff_ne.2 h27,h27,beq_eq_false_iff_ne.2 h11,h11,beq_eq_false_iff_ne.2 h13,h13,beq_eq_false_iff_ne.2 h34,h34,beq_eq_false_iff_ne.2 JE,JE,beq_eq_false_iff_ne.2 h17,h17,beq_eq_false_iff_ne.2 Dd,Dd,beq_eq_false_iff_ne.2 h9,h9,beq_eq_false_iff_ne.2 E6,E6,oD,or_self,reduceIte]
end
end Go.Fx.R5
namespace Go.Fx.R5
open Go Go.Fx
def Du(ns:List eq)(j:Int):an:=match ns[j.toNat]? with | some y=>y.2.2.2.1 | none=>[]
inductive GO(ns:List eq)(t:yE)(fn:an):Nat→Prop
 |mk (i:Nat) (x:eq) (hx:ns[i]? = some x) (hk:∀ j∈x.2.2.2.2,GO ns t fn j.toNat) (hc:x.1=22→∀ u,x.2.2.2.2.head? = some u→(nk t fn (Du ns u)).1=5)
  (ha:x.1=12→∀ u,x.2.2.2.2.head? = some u→(nk t fn (Du ns u)).1=1):GO ns t fn i
def Ti(l:XS)(B:Nat)(c p:Int)(o:Option (XS×Int×Int×Unit)):Prop:=∃ bl,o=some (bl,c,p,())∧bl.length≤l.length + B∧(c=0→bl=l)
def Zo(l:XS)(c p:Int)(o:Option ((Int×Int)×AS×Unit)):Prop:=∃ bm,o=some ((c,p),bm,())∧(c=0→J1 l bm)
def Re(l:XS)(c p:Int)(o:Option ((Int×Int×AS×Unit)⊕(Int×Int×AS×Unit))):Prop:=∃ bm,o=some (if c=0 then .inl (0,0,bm,()) else .inr (c,p,bm,()))∧(c=0→J1 l bm)
theorem nJ(k:Nat):dD (k + 1)=cH (dD k) (dz k) (eG k) k:=rfl
theorem Eg(k:Nat):dz (k + 1)=ia (dD k) (dz k) (eG k) k:=rfl
theorem La(k:Nat):eG (k + 1)=lO (dD k) (dz k) (eG k) k:=rfl
theorem UL(k:Nat):bI (k + 1)=kj (bI k) (ck k) (bU k) k:=rfl
theorem kh(k:Nat):ck (k + 1)=a6 (bI k) (ck k) (bU k) k:=rfl
theorem Me(k:Nat):bU (k + 1)=gM (bI k) (ck k) (bU k) k:=rfl
theorem Ae{rn ra rc}(q:Nat)(Kd:Int)(hK:(Kd == 16)=false)(nm:an):∀ k K A G F ns fn b c p i,iC rn ra rc q k K A G F ns fn b c p i=bK rn ra rc q k Kd nm K A G F ns fn b c p i
 |0,_,_,_,_,_,_,_,_,_,_=>rfl
 |k + 1,K,A,G,F,ns,fn,b,c,p,i=>by simp only [go_sem,iC,bK,aa,hK,Ae q Kd hK nm k]
theorem W1{rn ra rc}(q:Nat):∀ k ns A G F fn P I R B K n w w2 b i,cE rn ra rc q k ns A G F fn P I R B K n w w2 b i=aS rn ra rc q k ns A G F fn P I R B K n w w2 b i
 |0,_,_,_,_,_,_,_,_,_,_,_,_,_,_,_=>rfl
 |k + 1,ns,A,G,F,fn,P,I,R,B,K,n,w,w2,b,i=>by simp only [cE,aS,W1 q k]
section
variable {t:yE} {fn:an} {ns:List eq} {P:Int} {Is Rs:XS} {B:Int}
theorem Ho{c p:Int}(hc:c≠0){i:Nat}{x:eq}(hx:ns[i]? = some x)(k:Nat)(b:XS):dD (k + 1) t.1 t.2.1 t.2.2 ns fn b c p (i:Int)=some (b,c,p,()):=by rw [nJ];simp only [go_sem,cH,bj hx,bne_iff_ne.2 hc]
theorem JD{c p:Int}(hc:c≠0){Kd:Int}(hK:(Kd == 16)=false){nm:an}{K:XI}(hv:∀ j∈K,0≤j∧j < (ns.length:Int))(hl:K.length≤1000000)(q:Nat):∀(m s k:Nat) (b:XS),m + s=K.length→m < k→
  bK (dD (q + 1)) (dz (q + 1)) (eG (q + 1)) (q + 1) k Kd nm K t.1 t.2.1 t.2.2 ns fn b c p (s:Int)=some (b,c,p,())
 |0,s,k + 1,b,h,_=>by
  have:¬ s < K.length:=by omega
  simp only [go_sem,bK,Int.ofNat_lt,this]
 |m + 1,s,k + 1,b,h,hk=>by
  have bo:s < K.length:=by omega
  have hj:=hv _ (List.getElem_mem bo);obtain⟨x,e1,_,_⟩:=uB hj.1 hj.2;have en:=Ho (t:=t) (fn:=fn) (p:=p) hc e1 q b;rw [Int.toNat_of_nonneg hj.1] at en;simp only [go_sem,bK,aa,Int.ofNat_lt,bo,hK,cQ bo,en,af (show s < _ by omega),JD hc hK hv hl q m (s + 1) k b (by omega) (by omega)]
def NB(t:yE)(fn:an)(ns:List eq)(P:Int)(Is Rs:XS)(B:Int)(i:Nat):Prop:=∀ l:XS,l.length + i≤4000→∃ c p,(c=0→p=0∧GO ns t fn i)∧
 Ev fun k=>Ti l (i + 1) c p (dD k t.1 t.2.1 t.2.2 ns fn l 0 0 (i:Int))∧∀ D,J1 l D→Zo l c p (ck k ns t.1 t.2.1 t.2.2 fn P Is Rs B D (i:Int))
theorem Av{Kd:Int}(hK:(Kd == 16)=false){nm:an}{K:XI}(hv:∀ j∈K,0≤j∧j < (ns.length:Int))(hl:K.length≤1000000){l:XS}{i:Nat}(hli:l.length + i≤4000):∀ m s,m + s=K.length→(∀ j∈K.drop s,j < (i:Int)∧NB t fn ns P Is Rs B j.toNat)→
  ∃ c p,(c=0→p=0∧∀ j∈K.drop s,GO ns t fn j.toNat)∧co fun q k=>
   Ti l i c p (bK (dD q) (dz q) (eG q) q k Kd nm K t.1 t.2.1 t.2.2 ns fn l 0 0 (s:Int))∧
   ∀ D,J1 l D→Re l c p (aS (bI q) (ck q) (bU q) q k ns t.1 t.2.1 t.2.2 fn P Is Rs B K (K.length:Int) 0 0 D (s:Int))
 |0,s,h,_=>by
  have h2:¬ s < K.length:=by omega
  have e:K.drop s = []:=by simp;omega
  refine⟨0,0,fun _=>⟨rfl,by rw [e];simp⟩,co.succ (co.of fun q k=>⟨⟨l,?_,by omega,fun _=>rfl⟩,fun D hr=>⟨D,?_,fun _=>hr⟩⟩)⟩
  ·simp only [go_sem,bK,Int.ofNat_lt,h2]
  ·simp only [go_sem,aS,Int.ofNat_lt,h2,reduceIte]
 |m + 1,s,h,hn=>by
  have bo:s < K.length:=by omega
  have hd:K.drop s=K[s] :: K.drop (s + 1):=List.drop_eq_getElem_cons bo;have hj:=hv _ (List.getElem_mem bo);have hnj:=hn K[s] (by rw [hd];exact List.mem_cons_self)
  have hjn:((K[s].toNat:Nat):Int)=K[s]:=Int.toNat_of_nonneg hj.1;obtain⟨c,p,hc,he⟩:=hnj.2 l (by omega)
  rw [hjn] at he;by_cases h0:c=0
  ·subst h0
   obtain⟨rfl,F9⟩:=hc rfl;obtain⟨c2,p2,wS,he2⟩:=Av hK hv hl hli m (s + 1) (by omega) (fun j hj=>hn j (by rw [hd];exact List.mem_cons_of_mem _ hj))
   refine⟨c2,p2,fun hz=>⟨(wS hz).1,fun j hj=>?_⟩,co.succ ((he.tX.and he2).mono fun q k e=>?_)⟩
   ·rw [hd] at hj
    rcases List.mem_cons.1 hj with rfl | hj
    ·exact F9
    ·exact(wS hz).2 j hj
   ·obtain⟨⟨⟨bl,e1,_,e2⟩,e3⟩,e4,e5⟩:=e
    obtain rfl:=e2 rfl;refine⟨?_,fun D hr=>?_⟩
    ·simp only [go_sem,bK,aa,Int.ofNat_lt,bo,hK,cQ bo,e1,af (show s < _ by omega)]
     exact e4
    ·obtain⟨bm,e6,e7⟩:=e3 D hr
     simp only [go_sem,aS,Int.ofNat_lt,bo,cQ bo,e6,af (show s < _ by omega)]
     exact e5 bm (e7 rfl)
  ·refine⟨c,p,fun hz=>absurd hz h0,co.succ ((he.tX.and (Ev.tX (p:=fun q=>1≤q) ⟨1,fun k hk=>hk⟩ |>.and (Ev.afx (p:=fun k=>m < k) ⟨m + 1,fun k hk=>by omega⟩))).mono fun q k e=>?_)⟩
   obtain⟨⟨⟨bl,e1,eb,_⟩,e3⟩,hq,hk⟩:=e;obtain⟨q,rfl⟩:∃ j,q=j + 1:=⟨q - 1,by omega⟩
   refine⟨⟨bl,?_,by have:=hnj.1;omega,fun hz=>absurd hz h0⟩,fun D hr=>?_⟩
   ·simp only [go_sem,bK,aa,Int.ofNat_lt,bo,hK,cQ bo,e1,af (show s < _ by omega)]
    exact JD h0 hK hv hl q m (s + 1) k bl (by omega) hk
   ·obtain⟨bm,e6,e7⟩:=e3 D hr
    refine⟨bm,?_,fun hz=>absurd hz h0⟩;simp only [go_sem,aS,Int.ofNat_lt,bo,cQ bo,e6,bne_iff_ne.2 h0,if_neg h0]
theorem Po(ht:iD t){i:Nat}{x:eq}(hx:ns[i]? = some x)(h23:x.1=23)(hk:x.2.2.2.2 = [])(l:XS):Ev fun k=>∀ D,J1 l D→ck k ns t.1 t.2.1 t.2.2 fn P Is Rs B D (i:Int)=some ((0,0),D,()):=by
 have hb:Ev fun k=>∀ D:AS,bI k ns t.1 t.2.1 t.2.2 fn P Is Rs B D (i:Int)=some ((0,0),D,()):=Ev.succ (Ev.succ (Ev.of fun k D=>by
  rw [UL (k + 1)];simp only [go_sem,kj,bj hx,hk];simp only [go_sem,aS,List.length_nil,show decide ((0:Int) < ((0:Nat):Int))=false from rfl]))
 refine Ev.succ ((hb.and (Ge (fn:=fn) ht l x)).mono fun k e D hr=>?_);have kU:=e.2 D hr;simp only [h23,show ¬ (23:Int)=9 by decide,if_false,oD,Int.reduceEq,reduceIte,or_self] at kU
 rw [kh];simp only [go_sem,a6,bj hx,aa,h23,show((23:Int) == 9)=false from rfl,show((23:Int) == 12)=false from rfl,show((23:Int) == 22)=false from rfl,show((23:Int) == 16)=false from rfl,kU,e.1]
theorem nk5{s:an}(h:(nk t fn s).1=5):∃(n:Nat) (f:an×Int×XS×XS×Int),(nk t fn s).2=(n:Int)∧t.2.2[n]? = some f∧f.1=s:=by
 have key:(NH t s).1=5→∃(n:Nat) (f:an×Int×XS×XS×Int),(NH t s).2=(n:Int)∧t.2.2[n]? = some f∧f.1=s:=fun h=>by
  unfold NH at h ⊢;by_cases g1:0≤nq (fun x:an×Int=>x.1 == s) t.1 0
  ·simp [g1] at h
  ·by_cases g2:0≤nq (fun x=>x == s) t.2.1 0
   ·simp [g1,g2] at h
   ·by_cases g3:0≤nq (fun x:an×Int×XS×XS×Int=>x.1 == s) t.2.2 0
    ·obtain⟨n,f,e1,e2,e3⟩:=H4 g3
     exact⟨n,f,by simp [g1,g2,g3,e1],e2,beq_iff_eq.1 e3⟩
    ·simp [g1,g2,g3] at h
 unfold nk at h ⊢;cases hf:t.2.2.find? (fun x=>x.1 == fn) with
 |none=>simp only [hf] at h ⊢;exact key h
 |some x=>
  simp only [hf] at h ⊢;by_cases g1:0≤nq (fun y=>y == s) x.2.2.1 0
  ·simp [g1] at h
  ·by_cases g2:0≤nq (fun y=>y == s) x.2.2.2.1 0
   ·simp [g1,g2] at h
   ·simp only [go_sem,g1,g2] at h ⊢;exact key h
theorem WP{s:an}{a b:Int}(h:W t fn s a b=0):(nk t fn s).1=a∨(nk t fn s).1=b:=by
 unfold W at h;by_cases h0:(nk t fn s).1=0
 ·simp [h0] at h
 ·by_cases h1:(nk t fn s).1=a∨(nk t fn s).1=b
  ·exact h1
  ·simp [h0,h1] at h
end
end Go.Fx.R5
