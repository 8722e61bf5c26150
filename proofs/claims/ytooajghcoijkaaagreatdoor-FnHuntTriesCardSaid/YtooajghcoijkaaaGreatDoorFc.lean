/- Proved here: laws.FnHuntTries returns true at every input (the tied card), no condition beyond the card. -/
import Derived.Test.YtooajghcoijkaaaGreatDoorFb
set_option linter.unusedVariables false
set_option linter.unusedSimpArgs false
set_option linter.unusedSectionVars false
set_option linter.defProp false
set_option maxRecDepth 100000
namespace Go.Fx
structure zE(st s:St):Prop where
 iG:kv st s
 eB:s.eB=st.eB
 ci:s.ci=st.ci
 Fc:s.Fc=st.Fc
theorem zE.refl(st:St):zE st st:=⟨.refl _,rfl,rfl,rfl⟩
theorem zE.trans{a b c:St}(h:zE a b)(k:zE b c):zE a c:=⟨h.iG.trans k.iG,k.eB.trans h.eB,k.ci.trans h.ci,k.Fc.trans h.Fc⟩
theorem zE.at{st s:St}(h:zE st s)(p:Pl):s.at p=st.at p:=by
 have hr:∀ i,s.ir i=st.ir i:=fun i=>by simp only[St.ir,h.eB,h.iG.2.1]
 have ho:∀ o,s.dN o=st.dN o:=fun o=>by simp only[St.dN,h.ci]
 have Bw:∀ o j l,s.res o j l=st.res o j l:=fun o j l=>by cases l<;>simp[St.res,h.iG.2.2.1]
 cases p with
 |r i=>simp only[St.at,St.uK,hr]
 |q i j=>simp only[St.at,St.uK,hr]
 |l o j=>simp only[St.at,ho,Bw]
theorem JD{st s:St}{l:ag}(h:st.zk l=some s):zE st s:=by
 unfold St.zk at h;split at h
 ·split at h
  ·rename_i A _
   cases hs:A.sh with
   |true=>simp only[hs,aja,OQ] at h;subst h;exact .refl _
   |false=>
    cases hw:A.gz with
    |false=>simp[hs,hw] at h
    |true=>simp only[hs,hw,aqa,aja,OQ] at h;subst h;exact⟨⟨rfl,rfl,rfl,rfl⟩,rfl,rfl,rfl⟩
  ·split at h
   ·rename_i A _
    cases hs:A.sh<;>simp[hs] at h;subst h;exact .refl _
   ·cases h
 ·cases h;exact .refl _
theorem CA:∀{ls:List ag} {st s:St},st.vF ls=some s→zE st s
 |[],st,s,h=>by cases h;exact .refl _
 |l::r,st,s,h=>by
  simp only[St.vF] at h;split at h
  ·rename_i q hq;exact(JD hq).trans (CA h)
  ·cases h
theorem JE{st s:St}{v:ae}(h:v.qL st=some s):zE st s:=by
 unfold ae.qL at h;split at h
 ·exact JD h
 ·exact CA h
 ·cases h
 ·exact CA h
theorem qK:∀{ps:li} {st s:St},iS ps st=some s→zE st s
 |[],st,s,h=>by simp only[iS,OQ] at h;subst h;exact .refl _
 |(p,sp)::r,st,s,h=>by
  cases sp with
  |d t=>
   simp only[iS] at h;split at h
   ·rename_i q hq;exact(JE hq).trans (qK h)
   ·cases h
  |_=>exact qK (ps:=r) h
theorem xQ{W:List qf}:∀{ps:li} {st s:St},iS ps st=some s→(∀ p∈ps,∀ q∈(st.at p.1).uf,q∈W)→qZ W st s
 |[],st,s,h,_=>by simp only[iS,OQ] at h;subst h;exact .refl _ _
 |(p,sp)::r,st,s,h,hW=>by
  have tail:∀{s1:St},zE st s1→∀ p∈r,∀ q∈(s1.at p.1).uf,q∈W:=fun ha p hp q hq=>hW p (Q8 _ hp) q (by rw[←ha.at];exact hq)
  cases sp with
  |d t=>
   simp only[iS] at h;split at h
   ·rename_i s1 h1
    exact((vG h1).mono fun q hq=>hW _ (ata ..) q hq).trans (xQ h (tail (JE h1)))
   ·cases h
  |_=>exact xQ (ps:=r) h (tail (.refl st))
theorem H4{s:St}{p:Pl}{sp:mP}{x:sp.V}{b:AL}(h:Af s p sp=some (x,b)):∀ nm jX A,(nm,jX,A)∈b→nm=p.key∧sp.arr x=some A∧(match jX with|some a=>s.at p=.one (.mT a)|none=>s.at p=.one .nil):=by
 cases sp with
 |any=>simp only[Af,OQ,ala] at h;obtain⟨_,rfl⟩:=h;intro _ _ _ hm;cases hm
 |d t=>
  simp only[Af] at h;split at h
  ·simp only[OQ,ala] at h;obtain⟨_,rfl⟩:=h;intro _ _ _ hm;cases hm
  ·cases h
 |lit l=>
  simp only[Af] at h;split at h
  ·rename_i l' _
   cases he:wv l l'<;>simp[he] at h;subst h;intro _ _ _ hm;cases hm
  ·cases h
 |h m t=>
  simp only[Af] at h;split at h
  ·rename_i vj
   cases hw:m.Sr with
   |false=>simp[hw] at h
   |true=>simp only[hw,aja,OQ,ala] at h;obtain⟨rfl,rfl⟩:=h;intro nm jX A hm;simp only[Q7,ala] at hm;obtain⟨rfl,rfl,rfl⟩:=hm;exact⟨rfl,rfl,vj⟩
  ·rename_i a vj
   split at h
   ·rename_i A hA
    cases hs:(A.sh||!m.lG A.md) with
    |true=>simp[hs] at h
    |false=>
     simp only[hs,aqa] at h;split at h
     ·simp only[OQ,ala] at h
      obtain⟨rfl,rfl⟩:=h;intro nm jX B hm;simp only[Q7,ala] at hm;obtain⟨rfl,rfl,rfl⟩:=hm;exact⟨rfl,rfl,vj⟩
     ·cases h
   ·cases h
  ·cases h
theorem EU{s:St}:∀{ps:li} {v:PV ps} {b:AL},lz s ps=some (v,b)→∀ nm jX A,(nm,jX,A)∈b→∃ p∈ps,nm=p.1.key∧(∃ m t,p.2=.h m t)∧(match jX with|some a=>s.at p.1=.one (.mT a)|none=>s.at p.1=.one .nil)
 |[],v,b,h,nm,jX,A,hm=>by simp only[lz,OQ,ala] at h;obtain⟨_,rfl⟩:=h;cases hm
 |(p,sp)::r,v,b,h,nm,jX,A,hm=>by
  simp only[lz] at h;split at h
  ·rename_i x a1 h1
   split at h
   ·rename_i xs b1 h2
    simp only[OQ,ala] at h;obtain⟨_,rfl⟩:=h;rcases aoa.1 hm with hm|hm
    ·obtain⟨e1,e2,e3⟩:=H4 h1 nm jX A hm
     exact⟨(p,sp),ata ..,e1,(Be e2).2,e3⟩
    ·obtain⟨q,hq,e⟩:=EU h2 nm jX A hm
     exact⟨q,Q8 _ hq,e⟩
   ·cases h
  ·cases h
theorem ut{α β:Type}{f:Nat×α→β}:∀{l:List (Nat×α)} {o:Nat} {x:α},(l.map (·.1)).Nodup→(o,x)∈l→look (l.map fun p=>(p.1,f p)) o=some (f (o,x))
 |p::r,o,x,hn,h=>by
  simp only[aHa,aq];rw[aHa,a2a] at hn;by_cases e:p.1=o
  ·rcases ama.1 h with h|h
   ·rw[a7a e,←h]
   ·exact absurd (aIa (f:=(·.1)) h) (by rw[←e];exact hn.1)
  ·rw[aza e]
   rcases ama.1 h with h|h
   ·exact absurd (by rw[←h]) e
   ·exact ut hn.2 h
theorem KB{α:Type}:∀{l:List (Nat×α)} {o:Nat},o∉l.map (·.1)→look l o=none
 |[],o,_=>rfl
 |(k,v)::r,o,h=>by rw[aq];simp only[aHa,ama,cka] at h;rw[aza (fun e=>h.1 e.symm)];exact KB h.2
theorem EF:∀{b:List Nat} {l:List (Nat×jS)} {a:Nat},look (lm b l) a=if a∈b then none else look l a
 |[],l,a=>by simp[lm]
 |x::r,l,a=>by
  simp only[lm,EF (b:=r),qC,ama];by_cases h1:a∈r
  ·simp[h1]
  ·by_cases h2:a=x
   ·subst h2;simp[h1]
   ·simp[h1,h2,cea (a:=x)]
theorem AJ{tl:List (Nat×Nat×ag)}{cs:li}{o:Nat}:∀{ls:List ag} {j:Nat},(wR tl cs o j ls).length=ls.length
 |[],j=>rfl
 |l::r,j=>by simp[wR,AJ (ls:=r)]
theorem Cu{tl:List (Nat×Nat×ag)}{cs:li}{o:Nat}:∀{ls:List ag} {i j:Nat},(wR tl cs o i ls)[j]? = (ls[j]?).map fun l=>(match dZ tl o (i+j) with|some x=>x|none=>bif zy o (i+j) cs then l else .any)
 |[],i,j=>by simp[wR]
 |l::r,i,0=>by simp[wR]<;>rfl
 |l::r,i,j+1=>by simp only[wR,bta];rw[Cu (ls:=r),show i+1+j=i+(j+1) by omega]
theorem EJ{tl:List (Nat×Nat×ag)}{k:Nat}:∀{n j:Nat},(Ma tl k j n).length=n
 |0,j=>rfl
 |n+1,j=>by simp[Ma,EJ (n:=n)]
theorem TZ{tl:List (Nat×Nat×ag)}{k:Nat}:∀{n i j:Nat},j<n→(Ma tl k i n)[j]? = some (match dZ tl k (i+j) with|some x=>x|none=>.any)
 |n+1,i,0,_=>by simp[Ma]<;>rfl
 |n+1,i,j+1,h=>by simp only[Ma,bta];rw[TZ (n:=n) (by omega),show i+1+j=i+(j+1) by omega]
theorem Es{o j:Nat}:∀{ps:li},zy o j ps=true↔∃ s,(Pl.l o j,s)∈ps
 |[]=>by simp[zy]
 |(.r i,s)::r=>by simp only[zy,Es (ps:=r),ama,ala,reduceCtorEq,false_and,false_or]
 |(.q i k,s)::r=>by simp only[zy,Es (ps:=r),ama,ala,reduceCtorEq,false_and,false_or]
 |(.l o' j',s)::r=>by
  simp only[zy,a5a,Q3,Es (ps:=r),ama,ala,Pl.l.injEq];constructor
  ·rintro(⟨h1,h2⟩|⟨x,h⟩)
   ·exact⟨s,.inl ⟨⟨(Q4 h1).symm,(Q4 h2).symm⟩,rfl⟩⟩
   ·exact⟨x,.inr h⟩
  ·rintro⟨x,⟨⟨rfl,rfl⟩,_⟩|h⟩
   ·exact .inl ⟨by simp,by simp⟩
   ·exact .inr ⟨x,h⟩
theorem wq{dst:Nat}{pin:List Nat}{news:List (Nat×Nat×Nat)}:∀{ps:li} {v:PV ps} {o j:Nat} {lf:ag},dZ (jr dst pin news ps v) o j=some lf→∃ s,(Pl.l o j,s)∈ps
 |[],v,o,j,lf,h=>by cases h
 |(.r i,s)::r,v,o,j,lf,h=>by obtain⟨x,hx⟩:=wq (ps:=r) (v:=v.2) h;exact⟨x,Q8 _ hx⟩
 |(.q i k,s)::r,v,o,j,lf,h=>by obtain⟨x,hx⟩:=wq (ps:=r) (v:=v.2) h;exact⟨x,Q8 _ hx⟩
 |(.l o' j',s)::r,v,o,j,lf,h=>by
  simp only[jr,dZ] at h;cases hb:(Nat.beq o' o&&Nat.beq j' j) with
  |true=>simp only[Q3] at hb;rw[Q4 hb.1,Q4 hb.2];exact⟨s,ata ..⟩
  |false=>simp only[hb,aqa] at h;obtain⟨x,hx⟩:=wq (ps:=r) (v:=v.2) h;exact⟨x,Q8 _ hx⟩
theorem D5:∀{l:List ae} {i k:Nat} {v:ae},look (pq i l) k=some v→v∈l
 |x::r,i,k,v,h=>by
  simp only[pq,aq] at h;by_cases e:i=k
  ·simp only[e,ava,OQ] at h;subst h;exact ata ..
  ·simp only[e,Q9] at h;exact Q8 _ (D5 h)
theorem Kp{q:qf}{v:ae}:∀{l:List ae},v∈l→q∈v.uf→q∈nE l
 |x::r,h,hq=>by
  rcases ama.1 h with rfl|h
  ·exact aya _ hq
  ·exact ara _ (Kp h hq)
end Go.Fx
namespace Go.Fx
section
variable {L:qr} {args:List ae} {st:St} {e:abs L}
structure Fd(L:qr)(args:List ae)(st:St)(e:abs L)(s1 s:St):Prop where
 sc:iS L.cs (C8 L.n args st)=some s1
 sv:iS L.vs s1=some s
 rc:lz s L.cs=some (e.c,e.a)
 rv:lz s L.vs=some (e.v,e.b)
 al:Au (e.a++e.b)=true
 ob:zb L.ci s=true
 Pu:y9 L=true
 len:args.length≤L.n
 q:qOk L.vs s=true
 pin:aaH L.pin e.b=true
 st':e.st = {st with cO:=s.cO}
 zM:zE (C8 L.n args st) s
theorem Wq(h:Zo L args st=some e):∃ s1 s,Fd L args st e s1 s:=by
 unfold Zo at h;split at h
 ·cases h
 ·rename_i s1 h1
  split at h
  ·cases h
  ·rename_i s h2
   split at h
   ·cases h
   ·rename_i c a h3
    split at h
    ·cases h
    ·rename_i v b h4
     cases hb:(Au (a++b)&&zb L.ci s&&y9 L&&Nat.ble args.length L.n&&qOk L.vs s&&aaH L.pin b) with
     |false=>simp[hb] at h
     |true=>simp only[hb,aja,OQ] at h;subst h;simp only[Q3] at hb;exact⟨s1,s,h1,h2,h3,h4,hb.1.1.1.1.1,hb.1.1.1.1.2,hb.1.1.1.2,aZa hb.1.1.2,hb.1.2,hb.2,rfl,(qK h1).trans (qK h2)⟩
theorem WM(h:y9 L=true){p:Pl×mP}(hp:p∈L.cs++L.vs){o j:Nat}(ho:p.1=.l o j):o∈L.ci.map (·.1):=by simp only[y9,Q3,ana] at h;have:=h.1.2 p hp;rw[ho] at this;exact gO.1 this
theorem R3(h:y9 L=true){p:Nat×Nat}(hp:p∈L.ci):p.1<10000:=by simp only[y9,Q3,ana] at h;have:=h.1.1.1.1 p hp;simpa[b6a] using this
theorem Kw(h:y9 L=true):(L.ci.map (·.1)).Nodup:=by simp only[y9,Q3] at h;exact eF h.1.1.1.2
theorem agj(h:y9 L=true):((L.cs++L.vs).map fun p=>p.1.key).Nodup:=by simp only[y9,Q3] at h;exact eF h.1.1.2
theorem oT{ci:List (Nat×Nat)}{s:St}(h:zb ci s=true){p:Nat×Nat}(hp:p∈ci):∃ ls,s.dN p.1=some ls∧ls.length=p.2:=by
 have:=ana.1 h p hp;split at this
 ·rename_i ls hl;exact⟨ls,hl,Q4 this⟩
 ·cases this
theorem aaZ{st:St}{o:Nat}:∀{ls:List ag} {i j:Nat} {l:ag},ls[j]? = some l→st.res o (i+j) l∈st.kc o i ls:=fun {ls i j l} h=>by refine a1a (i:=j) ?_;rw[sy,h];rfl
theorem NK{q:qf}{l:ag}:∀{R:List ag},l∈R→q∈fO [l]→q∈fO R
 |x::r,hl,hq=>by
  rcases ama.1 hl with rfl|hl
  ·cases l<;>simp only[fO,bUa] at hq<;>simp only[Q7] at hq<;>subst hq<;>exact ata ..
  ·have:=NK hl hq
   cases x<;>simp only[fO]<;>first|exact this|exact Q8 _ this
theorem Mp{W:Type}{F:PV L.cs→PV L.vs→Option W}{dk:DkO W}(hl:y9 L=true){p:Pl×mP}(hp:p∈L.cs++L.vs){q:qf}(hq:q∈((C8 L.n args st).at p.1).uf):q∈(lZ L F dk).LP args st:=by
 obtain⟨pl,sp⟩:=p;simp only[lZ];refine ara _ ?_;cases pl with
 |r i=>
  refine ara _ ?_;simp only[St.at,St.uK,St.ir,C8] at hq;cases hr:look (pq 0 args) i with
  |none=>rw[hr] at hq;simp[look,ae.uf,fO] at hq
  |some v=>rw[hr] at hq;exact Kp (D5 hr) hq
 |q i j=>
  refine ara _ ?_;simp only[St.at,St.uK,St.ir,C8] at hq;cases hr:look (pq 0 args) i with
  |none=>rw[hr] at hq;simp[look,ae.qls,ae.isAgg,ae.uf,fO] at hq
  |some v=>
   rw[hr] at hq;simp only at hq;cases hv:v.qls with
   |none=>rw[hv] at hq;simp[ae.uf,fO] at hq
   |some ls=>
    rw[hv] at hq;simp only at hq;cases hj:ls[j]? with
    |none=>rw[hj] at hq;simp[ae.uf,fO] at hq
    |some l=>
     rw[hj] at hq;refine Kp (D5 hr) ?_;have hql:q∈fO ls:=by have:q∈fO [l]:=hq;have hm:=a1a hj;exact NK hm this
     unfold ae.qls at hv;cases hi:v.isAgg with
     |false=>rw[hi] at hv;cases hv
     |true=>rw[hi,aja] at hv;exact Et hv q hql
 |l o j=>
  refine aya _ ?_;have ho:=WM hl hp rfl;obtain⟨⟨o',n⟩,ib,rfl⟩:=a0a.1 ho;refine bma.2 ⟨(o',n),ib,?_⟩;simp only[St.at,St.dN,C8] at hq;have I2:look st.ci o' = st.dN o':=rfl;simp only at hq ⊢;rw[I2] at hq;cases xH:st.dN o' with
  |none=>rw[xH] at hq;simp[ae.uf,fO] at hq
  |some ls=>
   rw[xH] at hq;simp only at hq ⊢;cases hj:ls[j]? with
   |none=>rw[hj] at hq;simp[ae.uf,fO] at hq
   |some l=>
    rw[hj] at hq;have Bw:(C8 L.n args st).res o' j l=st.res o' j l:=by cases l<;>rfl
    have hm:=aaZ (st:=st) (o:=o') (i:=0) hj;rw[aWa] at hm;generalize st.kc o' 0 ls=R at hm;have hq:q∈fO [st.res o' j l]:=by have:q∈(ae.one ((C8 L.n args st).res o' j l)).uf:=hq;rw[Bw] at this;exact this
    exact NK hm hq
theorem aeC{news:List (Nat×Nat×Nat)}{o:Nat}(h:o∉news.map (·.1)):Jk news o=none:=by
 induction news with
 |nil=>rfl
 |cons p r ih=>simp only[aHa,ama,cka] at h;simp only[Jk,vw (bBa h.1),aqa];exact ih h.2
theorem Em{dst:Nat}{told:li}{o:PV told}{news:List (Nat×Nat×Nat)}{s:St}(h:El dst L told o news s=true):
  (told.map fun p=>p.1.key).Nodup∧(∀ p∈sd dst L.pin told o,s.arr p.1=none∧s.dc true p.1=false)∧(∀ p∈news,s.dN p.2.2=none∧s.dc false p.2.2=false∧p.1∉L.ci.map (·.1))∧
   (news.map (·.1)).Nodup∧(news.map (·.2.2)).Nodup∧(∀ p∈told,∀ q j,p.1=.l q j→(∀ c∈L.cs,c.1.key≠p.1.key)∧(q∈L.ci.map (·.1)∨q∈news.map (·.1)))∧
   (∀ p∈told,∀ q off,p.2=.lit (.lw q off)→q∈L.ci.map (·.1)∨q∈news.map (·.1)):=by
 simp only[El,Q3,ana] at h;obtain⟨⟨⟨⟨⟨⟨h1,h2⟩,h3⟩,h4⟩,h5⟩,h6⟩,h7⟩:=h;refine⟨eF h1,fun p hp=>?_,fun p hp=>?_,eF h4,eF h5,fun p hp q j e=>?_,fun p hp q off e=>?_⟩
 ·have:=h2 p hp;simpa using this
 ·have:=h3 p hp
  simp only[aOa,HS] at this;refine⟨by simpa using this.1.1,this.1.2,fun hm=>?_⟩
  rw[gO.2 hm] at this;cases this.2
 ·have:=h6 p hp
  rw[e] at this;simp only[Q3,aOa,a5a,El.ac9,HS] at this;refine⟨fun c hc e2=>?_,this.2.imp gO.1 gO.1⟩;have hm:eV p.1.key (L.cs.map fun p=>p.1.key)=true:=gO.2 (by rw[←e2];exact aIa hc)
  rw[e] at hm;rw[hm] at this;cases this.1
 ·have:=h7 p hp
  rw[e] at this;simp only[a5a,HS] at this;exact this.imp gO.1 gO.1
theorem Wd{dst:Nat}{told:li}{o:PV told}{news:List (Nat×Nat×Nat)}{a b:AL}{s:St}(hn:(L.ci.map (·.1)).Nodup)(Pp:zb L.ci s=true)(hf:∀ p∈news,s.dN p.2.2=none)(hnn:(news.map (·.2.2)).Nodup)(q:Nat):
  (∃ k n,(k,n,q)∈news∧(Iz dst L told o news a b s).dN q=some (Ma (jr dst L.pin news told o) k 0 n))∨
  (q∉news.map (·.2.2)∧((∃ n ls,(q,n)∈L.ci∧s.dN q=some ls∧(Iz dst L told o news a b s).dN q=some (wR (jr dst L.pin news told o) L.cs q 0 ls))∨
   (q∉L.ci.map (·.1)∧(Iz dst L told o news a b s).dN q=s.dN q))):=by
 have e1:(Iz dst L told o news a b s).dN q=look ((news.map fun p=>(p.2.2,Ma (jr dst L.pin news told o) p.1 0 p.2.1))++((L.ci.map fun p=>(p.1,wR (jr dst L.pin news told o) L.cs p.1 0 ((s.dN p.1).getD [])))++s.ci)) q:=rfl;rw[e1,iy,iy];by_cases h:q∈news.map (·.2.2)
 ·obtain⟨⟨k,n,q'⟩,hm,rfl⟩:=a0a.1 h
  refine .inl ⟨k,n,hm,?_⟩;have key:∀{T0:List (Nat×Nat×Nat)} {k n q:Nat},(T0.map (·.2.2)).Nodup→(k,n,q)∈T0→look (T0.map fun p=>(p.2.2,Ma (jr dst L.pin news told o) p.1 0 p.2.1)) q=some (Ma (jr dst L.pin news told o) k 0 n):=by
   intro T0;induction T0 with
   |nil=>intro k n q _ h;cases h
   |cons p r ih=>
    intro k n q hn h;rw[aHa,a2a] at hn;simp only[aHa,aq];rcases ama.1 h with rfl|h
    ·simp
    ·rw[aza (fun e=>hn.1 (by rw[e];exact aIa (f:=(·.2.2)) h)),ih hn.2 h]
  rw[key hnn hm]
 ·have h0:look (news.map fun p=>(p.2.2,Ma (jr dst L.pin news told o) p.1 0 p.2.1)) q=none:=KB (by simpa[cAa] using h)
  rw[h0];refine .inr ⟨h,?_⟩;by_cases h2:q∈L.ci.map (·.1)
  ·obtain⟨⟨q',n⟩,hm,rfl⟩:=a0a.1 h2
   obtain⟨ls,hl,_⟩:=oT Pp hm;refine .inl ⟨n,ls,hm,hl,?_⟩;rw[ut (f:=fun p=>wR (jr dst L.pin news told o) L.cs p.1 0 ((s.dN p.1).getD [])) hn hm,hl];rfl
  ·have h3:look (L.ci.map fun p=>(p.1,wR (jr dst L.pin news told o) L.cs p.1 0 ((s.dN p.1).getD []))) q=none:=KB (by simpa[cAa,Function.comp_def] using h2)
   rw[h3];exact .inr ⟨h2,rfl⟩
theorem QB(st:St)(q:Nat):∀(ks:List Nat),(match look (ks.map (fun k=>(k,st.dC k+1))++st.Fc) q with|some v=>v|none=>0)=if q∈ks then st.dC q+1 else st.dC q
 |[]=>rfl
 |k::r=>by
  rw[aHa,a4a,aq];by_cases e:k=q
  ·subst e;simp
  ·rw[aza e,QB st q r]
   have:(q∈k::r)↔q∈r:=⟨fun h=>(ama.1 h).resolve_left (fun h=>e h.symm),Q8 _⟩;simp only[this]
theorem We{dst:Nat}{told:li}{o:PV told}{news:List (Nat×Nat×Nat)}{a b:AL}{s:St}(q:Nat):
 (Iz dst L told o news a b s).dC q=if q∈KQ (a++Ej L.pin b) then s.dC q+1 else s.dC q:=QB s q _
theorem Bf{pin:List Nat}{b:AL}:∀{ps:li} {v:PV ps} {a:Nat} {A:jS},look (o8 pin b ps v) a=some A→∃ nm C,(nm,some a,C)∈b
 |[],v,a,A,h=>by cases h
 |(p,s)::r,v,a,A,h=>by
  simp only[o8] at h;split at h
  ·cases hm:eV p.key pin with
   |false=>rw[hm,aqa] at h;exact Bf (ps:=r) h
   |true=>
    rw[hm,aja] at h;split at h
    ·rename_i x C hl
     rw[aq] at h;by_cases e:x=a
     ·subst e;exact⟨_,_,dX hl⟩
     ·rw[aza e] at h;exact Bf (ps:=r) h
    ·exact Bf (ps:=r) h
  ·exact Bf (ps:=r) h
theorem QX(L:qr){W:Type}(F:PV L.cs→PV L.vs→Option W)(dk:DkO W)(hdk:adK dk):nz (lZ L F dk):=by
 intro R dst args st K K' KP KP' hK hP;simp only[lZ];cases he:Zo L args st with
 |none=>rfl
 |some e=>
  obtain⟨s1,s,E⟩:=Wq he;simp only;refine vf (fun hc=>dW fun x=>?_) (fun _=>rfl);have WA:kv st e.st:=by rw[E.st'];exact⟨rfl,rfl,rfl,by have:=E.zM.iG.2.2.2;exact rfl⟩
  rcases hdk x with ⟨told,o,news,res,h⟩|⟨T,ls,h⟩
  ·rw[h,h]
   refine vf (fun hf=>hK _ _ ?_) (fun _=>rfl);obtain⟨f1,f2,f3,f4,f5,f6,_⟩:=Em hf;have hW:∀ p∈L.cs++L.vs,∀ q∈((C8 L.n args st).at p.1).uf,q∈(lZ L F dk).LP args st:=fun p hp q hq=>Mp E.Pu hp hq;have u0:qZ ((lZ L F dk).LP args st) (C8 L.n args st) s:=
    (xQ E.sc fun p hp=>hW p (aya _ hp)).trans (xQ E.sv fun p hp q hq=>hW p (ara _ hp) q (by rw[←(qK E.sc).at];exact hq))
   have NG:∀ a,e.st.arr a=s.arr a:=fun a=>by rw[E.st'];simp only[St.arr,(bla E.zM.iG.2.2.2).1];rfl
   have Ex:∀ q,e.st.dN q=st.dN q:=fun q=>by rw[E.st'];rfl
   have Pp:zb L.ci e.st=true:=by
    have:∀ q,e.st.dN q=s.dN q:=fun q=>by rw[Ex];simp only[St.dN,E.zM.ci];rfl
    have:=E.ob;unfold zb at this ⊢;rw[←this]
    congr 1
    funext p
    rw[show e.st.dN p.1=s.dN p.1 from ‹∀ q,e.st.dN q=s.dN q› p.1]
   refine⟨WA,?_,fun q ls hq _ _=>?_,fun a A hA hn fk=>?_,fun a hn _=>?_⟩
   ·show e.st.eB=st.eB;rw[E.st']
   ·rcases Wd (dst:=dst) (told:=told) (o:=o) (news:=news) (a:=e.a) (b:=e.b) (Kw E.Pu) Pp (fun p hp=>(f3 p hp).1) f5 q with ⟨k,n,hm,_⟩|⟨_,⟨n,xK,hm,hl,e2⟩|⟨_,e2⟩⟩
    ·have:=(f3 _ hm).1
     rw[Ex,hq] at this;cases this
    ·rw[Ex,hq] at hl
     cases hl;refine⟨_,e2,AJ,fun j hj=>?_⟩;rw[Cu,aWa];cases hlj:ls[j]? with
     |none=>rfl
     |some l=>
      have hjn:j<n:=by obtain⟨ls2,h1,h2⟩:=oT Pp hm;rw[Ex,hq] at h1;cases h1;have:=(aka.1 hlj).1;simp only at h2;omega
      have hc:zy q j L.cs=true:=by
       cases hh:zy q j L.cs with
       |true=>rfl
       |false=>exact absurd ⟨rfl,awa _,Nat.lt_succ_self _⟩ (hj (.o q j 1) (aya _ (bma.2 ⟨(q,n),hm,a0a.2 ⟨j,bPa.2 ⟨bWa.2 hjn,by simp[hh]⟩,rfl⟩⟩)))
      have ht:dZ (jr dst L.pin news told o) q j=none:=by
       cases hh:dZ (jr dst L.pin news told o) q j with
       |none=>rfl
       |some x=>obtain⟨sp,hsp⟩:=wq hh;obtain⟨sc,hsc⟩:=Es.1 hc;exact absurd (rfl:(Pl.l q j).key=(Pl.l q j).key) ((f6 (Pl.l q j,sp) hsp q j rfl).1 (Pl.l q j,sc) hsc)
      simp[ht,hc]
    ·exact⟨ls,by rw[e2,Ex];exact hq,rfl,fun _ _=>rfl⟩
   ·have h1:e.st.arr a=some A:=by
     rw[NG];exact u0.arr a A hA hn fk
    have hns:a∉KQ e.b:=fun hs=>hn (by
     obtain⟨⟨nm,jX,B⟩,hm,TJ⟩:=bia.1 hs;simp only at TJ;subst TJ;obtain⟨p,hp,_,_,vj⟩:=EU E.rv nm _ B hm;exact Mp E.Pu (ara _ hp) (by rw[←E.zM.at,vj];simp[ae.uf,fO]))
    have hnb:look (o8 L.pin e.b told o) a=none:=by
     cases hl:look (o8 L.pin e.b told o) a with
     |none=>rfl
     |some B=>obtain⟨nm,C,hm⟩:=Bf hl;exact absurd (show a∈KQ e.b from bia.2 ⟨_,hm,rfl⟩) hns
    have hnt:look (sd dst L.pin told o) a=none:=by
     cases hl:look (sd dst L.pin told o) a with
     |none=>rfl
     |some B=>have:=(f2 _ (dX hl)).1;rw[h1] at this;cases this
    have e1:(Iz dst L told o news e.a e.b e.st).arr a=(match look (sd dst L.pin told o++(o8 L.pin e.b told o++lm (KQ e.b) e.st.cO)) a with|some v=>some v|none=>look e.st.fQ a):=rfl
    rw[e1,iy,hnt,iy,hnb,EF,aza hns];exact h1
   ·rw[We,aza ?_]
    ·rw[E.st'];rfl
    ·intro hs
     obtain⟨⟨nm,jX,B⟩,hm,TJ⟩:=bia.1 hs;simp only at TJ;subst TJ;rcases aoa.1 hm with hm|hm
     ·obtain⟨p,hp,_,_,vj⟩:=EU E.rc nm _ B hm
      exact hn (Mp E.Pu (aya _ hp) (by rw[←E.zM.at,vj];simp[ae.uf,fO]))
     ·obtain⟨p,hp,_,_,vj⟩:=EU E.rv nm _ B (bPa.1 hm).1
      exact hn (Mp E.Pu (ara _ hp) (by rw[←E.zM.at,vj];simp[ae.uf,fO]))
  ·rw[h,h]
   exact hP _ _ WA
end
end Go.Fx
namespace Go.Fx
theorem qD{pin:List Nat}{b:AL}{e:Nat×Option Nat×jS}:e∈wP pin b↔e∈b∧eV e.1 pin=false:=by simp[wP,bPa]
theorem xY{pin:List Nat}{b:AL}{e:Nat×Option Nat×jS}:e∈Ej pin b↔e∈b∧eV e.1 pin=true:=by simp[Ej,bPa]
theorem Cw{pin:List Nat}{b:AL}(h:(b.map (·.1)).Nodup):((wP pin b).map (·.1)).Nodup:=h.sublist (List.filter_sublist.map _)
def zq(dst:Nat)(b:AL)(nm:Nat):Option (Option Nat):=look (b.map fun e=>(nmO dst e.1,e.2.1)) nm
def Ez(a:AL)(nm:Nat):Option Nat:=look (a.filterMap fun e=>e.2.1.map fun s=>(s,e.1)) nm
def Do(news:List (Nat×Nat×Nat))(q:Nat):Option Nat:=look (news.map fun p=>(p.2.2,p.1)) q
theorem acd{dst k k':Nat}(h:nmO dst k=nmO dst k'):k=k':=by unfold nmO at h;omega
theorem vJ{dst:Nat}:∀{b:AL} {nm:Nat} {jX:Option Nat},zq dst b nm=some jX→∃ k A,nm=nmO dst k∧(k,jX,A)∈b
 |(k,s,A)::r,nm,jX,h=>by
  simp only[zq,aHa,aq] at h;by_cases e:nmO dst k=nm
  ·simp only[e,ava,OQ] at h
   exact⟨k,A,e.symm,by rw[h];exact ata ..⟩
  ·simp only[e,Q9] at h
   obtain⟨k',A',h1,h2⟩:=vJ (b:=r) h;exact⟨k',A',h1,Q8 _ h2⟩
theorem Fb{dst:Nat}:∀{b:AL} {k:Nat} {jX:Option Nat} {A:jS},(b.map (·.1)).Nodup→(k,jX,A)∈b→zq dst b (nmO dst k)=some jX
 |(k',s,B)::r,k,jX,A,hn,h=>by
  simp only[zq,aHa,aq];rw[aHa,a2a] at hn;rcases ama.1 h with h|h
  ·cases h;simp
  ·have hG:k'≠k:=fun e=>hn.1 (by rw[e];exact aIa (f:=(·.1)) h)
   rw[aza (fun e=>hG (acd e))];exact Fb (b:=r) hn.2 h
theorem rm:∀{a:AL} {nm k:Nat},Ez a nm=some k→∃ A,(k,some nm,A)∈a
 |(k',s,A)::r,nm,k,h=>by
  cases s with
  |none=>
   obtain⟨B,hB⟩:=rm (a:=r) (nm:=nm) (k:=k) (by simpa[Ez] using h)
   exact⟨B,Q8 _ hB⟩
  |some x=>
   simp only[Ez,b2a,bIa,aq] at h;by_cases e:x=nm
   ·simp only[e,ava,OQ] at h
    exact⟨A,by rw[←h,e];exact ata ..⟩
   ·simp only[e,Q9] at h
    obtain⟨B,hB⟩:=rm (a:=r) (nm:=nm) (k:=k) h;exact⟨B,Q8 _ hB⟩
theorem HT{a:AL}{nm:Nat}(h:Ez a nm=none):∀ k A,(k,some nm,A)∉a:=by
 induction a with
 |nil=>intro k A hm;cases hm
 |cons p r ih=>
  obtain⟨k',s,B⟩:=p;intro k A hm;cases s with
  |none=>
   rcases ama.1 hm with hm|hm
   ·cases hm
   ·exact ih (by simpa[Ez] using h) k A hm
  |some x=>
   simp only[Ez,b2a,bIa,aq] at h;by_cases e:x=nm
   ·simp[e] at h
   ·simp only[e,Q9] at h
    rcases ama.1 hm with hm|hm
    ·cases hm;exact e rfl
    ·exact ih h k A hm
theorem BO:∀{news:List (Nat×Nat×Nat)} {q k:Nat},Do news q=some k→∃ n,(k,n,q)∈news
 |(k',n,q')::r,q,k,h=>by
  simp only[Do,aHa,aq] at h;by_cases e:q' = q
  ·simp only[e,ava,OQ] at h
   exact⟨n,by rw[←h,e];exact ata ..⟩
  ·simp only[e,Q9] at h
   obtain⟨m,hm⟩:=BO (news:=r) h;exact⟨m,Q8 _ hm⟩
theorem Ob:∀{news:List (Nat×Nat×Nat)} {q k n:Nat},(news.map (·.2.2)).Nodup→(k,n,q)∈news→Do news q=some k
 |(k',n',q')::r,q,k,n,hn,h=>by
  simp only[Do,aHa,aq];rw[aHa,a2a] at hn;rcases ama.1 h with h|h
  ·cases h;simp
  ·rw[aza (fun e=>hn.1 (by rw[e];exact aIa (f:=(·.2.2)) h))]
   exact Ob (news:=r) hn.2 h
theorem QE:∀{news:List (Nat×Nat×Nat)} {o k:Nat},Jk news o=some k→∃ n,(o,n,k)∈news
 |p::r,o,k,h=>by
  simp only[Jk] at h;cases hb:Nat.beq p.1 o with
  |true=>simp only[hb,aja,OQ] at h;have e:=Q4 hb;exact⟨p.2.1,by rw[←e,←h];exact ata ..⟩
  |false=>simp only[hb,aqa] at h;obtain⟨n,hn⟩:=QE (news:=r) h;exact⟨n,Q8 _ hn⟩
theorem V6{dst:Nat}{t s4:St}{b4:AL}{G G4:Gh}{lE:Nat→Option Nat}{news:List (Nat×Nat×Nat)}{p:Pl}{sp:mP}{x:sp.V}{bp:AL}(AR:Af s4 p sp=some (x,bp))(p6:∀ e∈bp,e∈b4)(hn:(b4.map (·.1)).Nodup)
  (hm:∃ X w',az X s4 G4 w') (hφ:∀ q tl,t.dN q=some tl→G4.φ q=G.φ q∧G4.pre q=G.pre q) (hnn:(news.map (·.2.2)).Nodup) (hnt:∀ p∈news,t.dN p.2.2=none)
  (X9:∀ q off,sp=.lit (.lw q off)→(∃ tl,t.dN q=some tl)∨q∈news.map (·.1)) {u:Value} (hu:aO G4 (s4.at p) u):aS (G.iP G4 (zq dst b4) lE (Do news)) (aaU news (sp.bP (nmO dst p.key) x)) u:=by
 obtain⟨X,w',hm⟩:=hm;have ib:=H4 AR;cases sp with
 |any=>trivial
 |d t'=>
  simp only[Af] at AR;split at AR
  ·rename_i y hy
   simp only[OQ,ala] at AR;obtain⟨rfl,_⟩:=AR;obtain⟨cs,e,hr⟩:=D7 hm hy hu;exact⟨cs,e,hr⟩
  ·cases AR
 |h m t'=>
  show u=(match zq dst b4 (nmO dst p.key) with|some (some k)=>G4.ψ k|some none=>.slice none 0 0|none=>G.ψ (nmO dst p.key))
  simp only[Af] at AR;split at AR
  ·rename_i vj
   cases hw:m.Sr with
   |false=>simp[hw] at AR
   |true=>simp only[hw,aja,OQ,ala] at AR;obtain⟨_,rfl⟩:=AR;rw[Fb hn (p6 _ (Q7.2 rfl))];rw[vj] at hu;exact hu
  ·rename_i a vj
   split at AR
   ·rename_i A hA
    cases hs:(A.sh||!m.lG A.md) with
    |true=>simp[hs] at AR
    |false=>
     simp only[hs,aqa] at AR;split at AR
     ·simp only[OQ,ala] at AR
      obtain⟨_,rfl⟩:=AR;rw[Fb hn (p6 _ (Q7.2 rfl))];rw[vj] at hu;exact hu
     ·cases AR
   ·cases AR
  ·cases AR
 |lit l=>
  simp only[Af] at AR;split at AR
  ·rename_i l' vj
   cases he:wv l l' with
   |false=>simp[he] at AR
   |true=>
    have e:=N5 he;rw[vj,←e] at hu;show aS _ (aaU news l) u;cases l with
    |lw q off=>
     have hu:u=.pointer (some ⟨G4.φ q,(G4.pre q).length+off,none⟩):=hu;simp only[aaU];cases hq:Jk news q with
     |some k=>obtain⟨n,hmm⟩:=QE hq;simp only[aS,Gh.iP,Ob hnn hmm];exact hu
     |none=>
      rcases X9 q off rfl with ⟨tl,htl⟩|hnw
      ·have wN:Do news q=none:=by
        cases hh:Do news q with
        |none=>rfl
        |some k=>obtain⟨n,hmm⟩:=BO hh;have:=hnt _ hmm;rw[htl] at this;cases this
       obtain⟨e1,e2⟩:=hφ q tl htl;simp only[aS,Gh.iP,wN];rw[hu,e1,e2]
      ·obtain⟨⟨q',n,k⟩,hmm,rfl⟩:=a0a.1 hnw
       have:∀{news:List (Nat×Nat×Nat)},(q',n,k)∈news→Jk news q'≠none:=by
        intro news;induction news with
        |nil=>intro h;cases h
        |cons p r ih=>
         intro h;simp only[Jk];cases hb:Nat.beq p.1 q' with
         |true=>simp
         |false=>
          simp only[aqa];rcases ama.1 h with h|h
          ·rw[←h] at hb;simp at hb
          ·exact ih h
       exact absurd hq (this hmm)
    |nil=>exact hu
    |KD=>exact hu
    |vV=>exact hu
    |fn f=>exact hu
    |_=>simp[wv] at he
  ·cases AR
theorem FE{dst:Nat}{pin:List Nat}{t s4:St}{b4:AL}{G G4:Gh}{lE:Nat→Option Nat}{news:List (Nat×Nat×Nat)}{p:Pl}{sp:mP}{x:sp.V}{bp:AL}(AR:Af s4 p sp=some (x,bp))(p6:∀ e∈bp,e∈b4)(hn:(b4.map (·.1)).Nodup)
  (hm:∃ X w',az X s4 G4 w') (hφ:∀ q tl,t.dN q=some tl→G4.φ q=G.φ q∧G4.pre q=G.pre q) (hnn:(news.map (·.2.2)).Nodup) (hnt:∀ p∈news,t.dN p.2.2=none)
  (X9:∀ q off,sp=.lit (.lw q off)→(∃ tl,t.dN q=some tl)∨q∈news.map (·.1)) {u:Value} (hu:aO G4 (s4.at p) u):aS (G.iP G4 (zq dst (wP pin b4)) lE (Do news)) (zp dst pin news p sp x) u:=by
 unfold zp;cases hp:eV p.key pin with
 |true=>trivial
 |false=>rw[aqa];refine V6 AR (fun e he=>qD.2 ⟨p6 e he,?_⟩) (Cw hn) hm hφ hnn hnt X9 hu;obtain⟨k,jX,A⟩:=e;have:=(H4 AR k jX A he).1;rw[this];exact hp
theorem KL{s:St}{pin:List Nat}{ba:AL}:∀{ps:li} {v:PV ps} {b:AL},lz s ps=some (v,b)→∀{dst:Nat} {news:List (Nat×Nat×Nat)},
  (∀{o j:Nat} {lf:ag},dZ (jr dst pin news ps v) o j=some lf→∃ sp x bp,(Pl.l o j,sp)∈ps∧Af s (.l o j) sp=some (x,bp)∧(∀ e∈bp,e∈b)∧lf=zp dst pin news (.l o j) sp x)∧
  (∀{i:Nat} {av:ae},look (Lf dst pin news ps v) i=some av→∃ sp x bp,(Pl.r i,sp)∈ps∧Af s (.r i) sp=some (x,bp)∧(∀ e∈bp,e∈b)∧av=.one (zp dst pin news (.r i) sp x))∧
  (∀{i j:Nat} {lf:ag},dZ (VM dst pin news ps v) i j=some lf→∃ sp x bp,(Pl.q i j,sp)∈ps∧Af s (.q i j) sp=some (x,bp)∧(∀ e∈bp,e∈b)∧lf=zp dst pin news (.q i j) sp x)∧
  (∀{nm:Nat} {A:jS},look (sd dst pin ps v) nm=some A→∃ p sp x bp,(p,sp)∈ps∧Af s p sp=some (x,bp)∧(∀ e∈bp,e∈b)∧nm=nmO dst p.key∧sp.arr x=some A∧eV p.key pin=false)∧
  (∀{k:Nat} {jX:Option Nat} {A:jS},(k,jX,A)∈b→eV k pin=false→∃ B,look (sd dst pin ps v) (nmO dst k)=some B)∧
  (∀{nm:Nat} {A:jS},look (o8 pin ba ps v) nm=some A→∃ p sp x bp C,(p,sp)∈ps∧Af s p sp=some (x,bp)∧(∀ e∈bp,e∈b)∧look ba p.key=some (some nm,C)∧sp.arr x=some A∧eV p.key pin=true)∧
  (∀{k a:Nat} {jX:Option Nat} {A C:jS},(k,jX,A)∈b→eV k pin=true→look ba k=some (some a,C)→∃ B,look (o8 pin ba ps v) a=some B)
 |[],v,b,h,dst,news=>by simp only[lz,OQ,ala] at h;obtain⟨_,rfl⟩:=h;exact⟨(fun h=>(by cases h)),(fun h=>(by cases h)),(fun h=>(by cases h)),(fun h=>(by cases h)),(fun h=>(by cases h)),(fun h=>(by cases h)),(fun h=>(by cases h))⟩
 |(p,sp)::r,v,b,h,dst,news=>by
  simp only[lz] at h;split at h
  ·rename_i x a1 h1
   split at h
   ·rename_i xs b1 h2
    simp only[OQ,ala] at h;obtain⟨rfl,rfl⟩:=h;obtain⟨g1,g2,g5,g3,g4,g6,g7⟩:=KL h2 (dst:=dst) (news:=news);have abc:∀ e∈a1,e∈a1++b1:=fun e he=>aya _ he;refine⟨fun {o j lf} hl=>?_,fun {i av} hl=>?_,fun {i j lf} hl=>?_,fun {nm A} hl=>?_,fun {k jX A} hm hp=>?_,fun {nm A} hl=>?_,fun {k a jX A C} hm hp hb=>?_⟩
    ·have tail:dZ (jr dst pin news r xs) o j=some lf→(∃ sp0 x bp,(Pl.l o j,sp0)∈((p,sp)::r)∧Af s (.l o j) sp0=some (x,bp)∧(∀ e∈bp,e∈a1++b1)∧lf=zp dst pin news (.l o j) sp0 x):=fun hl=>by
      obtain⟨sp',x',bp,e1,e2,e3,e4⟩:=g1 hl;exact⟨sp',x',bp,Q8 _ e1,e2,fun e he=>ara _ (e3 e he),e4⟩
     cases p with
     |r i=>exact tail hl
     |q i k=>exact tail hl
     |l o' j'=>
      simp only[jr,dZ] at hl;cases hb:(Nat.beq o' o&&Nat.beq j' j) with
      |false=>simp only[hb,aqa] at hl;exact tail hl
      |true=>simp only[hb,aja,OQ] at hl;simp only[Q3] at hb;obtain rfl:=Q4 hb.1;obtain rfl:=Q4 hb.2;exact⟨sp,x,a1,ata ..,h1,abc,hl.symm⟩
    ·have tail:look (Lf dst pin news r xs) i=some av→(∃ sp0 x bp,(Pl.r i,sp0)∈((p,sp)::r)∧Af s (.r i) sp0=some (x,bp)∧(∀ e∈bp,e∈a1++b1)∧av=.one (zp dst pin news (.r i) sp0 x)):=fun hl=>by
      obtain⟨sp',x',bp,e1,e2,e3,e4⟩:=g2 hl;exact⟨sp',x',bp,Q8 _ e1,e2,fun e he=>ara _ (e3 e he),e4⟩
     cases p with
     |l o j=>exact tail hl
     |q i k=>exact tail hl
     |r i'=>
      simp only[Lf,aq] at hl;by_cases e:i' = i
      ·subst e
       simp only[ava,OQ] at hl;exact⟨sp,x,a1,ata ..,h1,abc,hl.symm⟩
      ·simp only[e,Q9] at hl;exact tail hl
    ·have tail:dZ (VM dst pin news r xs) i j=some lf→(∃ sp0 x bp,(Pl.q i j,sp0)∈((p,sp)::r)∧Af s (.q i j) sp0=some (x,bp)∧(∀ e∈bp,e∈a1++b1)∧lf=zp dst pin news (.q i j) sp0 x):=fun hl=>by
      obtain⟨sp',x',bp,e1,e2,e3,e4⟩:=g5 hl;exact⟨sp',x',bp,Q8 _ e1,e2,fun e he=>ara _ (e3 e he),e4⟩
     cases p with
     |r i=>exact tail hl
     |l i k=>exact tail hl
     |q o' j'=>
      simp only[VM,dZ] at hl;cases hb:(Nat.beq o' i&&Nat.beq j' j) with
      |false=>simp only[hb,aqa] at hl;exact tail hl
      |true=>simp only[hb,aja,OQ] at hl;simp only[Q3] at hb;obtain rfl:=Q4 hb.1;obtain rfl:=Q4 hb.2;exact⟨sp,x,a1,ata ..,h1,abc,hl.symm⟩
    ·have tail:look (sd dst pin r xs) nm=some A→(∃ p0 sp0 x bp,(p0,sp0)∈((p,sp)::r)∧Af s p0 sp0=some (x,bp)∧(∀ e∈bp,e∈a1++b1)∧nm=nmO dst p0.key∧sp0.arr x=some A∧eV p0.key pin=false):=fun hl=>by
      obtain⟨p',sp',x',bp,e1,e2,e3,e4,e5,e6⟩:=g3 hl;exact⟨p',sp',x',bp,Q8 _ e1,e2,fun e he=>ara _ (e3 e he),e4,e5,e6⟩
     simp only[sd] at hl;split at hl
     ·rename_i B hB
      cases hpk:eV p.key pin with
      |true=>rw[hpk,aja] at hl;exact tail hl
      |false=>
       rw[hpk,aqa,aq] at hl;by_cases e:nmO dst p.key=nm
       ·simp only[e,ava,OQ] at hl
        subst hl;exact⟨p,sp,x,a1,ata ..,h1,abc,e.symm,hB,hpk⟩
       ·simp only[e,Q9] at hl;exact tail hl
     ·exact tail hl
    ·simp only[sd]
     rcases aoa.1 hm with hm|hm
     ·obtain⟨e1,e2,_⟩:=H4 h1 k jX A hm
      subst e1;exact⟨A,by simp[e2,aq,hp]⟩
     ·obtain⟨B,hB⟩:=g4 hm hp
      split
      ·cases hpk:eV p.key pin with
       |true=>exact⟨B,hB⟩
       |false=>
        rw[aqa,aq];by_cases e:nmO dst p.key=nmO dst k
        ·exact⟨_,by rw[a7a e]⟩
        ·exact⟨B,by rw[aza e];exact hB⟩
      ·exact⟨B,hB⟩
    ·have tail:look (o8 pin ba r xs) nm=some A→(∃ p0 sp0 x bp C,(p0,sp0)∈((p,sp)::r)∧Af s p0 sp0=some (x,bp)∧(∀ e∈bp,e∈a1++b1)∧look ba p0.key=some (some nm,C)∧sp0.arr x=some A∧eV p0.key pin=true):=fun hl=>by
      obtain⟨p',sp',x',bp,C,e1,e2,e3,e4,e5,e6⟩:=g6 hl;exact⟨p',sp',x',bp,C,Q8 _ e1,e2,fun e he=>ara _ (e3 e he),e4,e5,e6⟩
     simp only[o8] at hl;split at hl
     ·rename_i B hB
      cases hpk:eV p.key pin with
      |false=>rw[hpk,aqa] at hl;exact tail hl
      |true=>
       rw[hpk,aja] at hl;split at hl
       ·rename_i y C hy
        rw[aq] at hl;by_cases e:y=nm
        ·subst e
         simp only[ava,OQ] at hl;subst hl;exact⟨p,sp,x,a1,C,ata ..,h1,abc,hy,hB,hpk⟩
        ·rw[aza e] at hl;exact tail hl
       ·exact tail hl
     ·exact tail hl
    ·simp only[o8]
     have tail:(∃ B,look (o8 pin ba r xs) a=some B)→∃ B,look (match sp.arr x with
       |some A=>bif eV p.key pin then(match look ba p.key with|some (some a,_)=>(a,A)::o8 pin ba r xs|_=>o8 pin ba r xs) else o8 pin ba r xs
       |none=>o8 pin ba r xs) a=some B:=fun⟨B,hB⟩=>by
      split
      ·cases eV p.key pin with
       |false=>exact⟨B,hB⟩
       |true=>
        rw[aja];split
        ·rw[aq]
         split
         ·exact⟨_,rfl⟩
         ·exact⟨B,hB⟩
        ·exact⟨B,hB⟩
      ·exact⟨B,hB⟩
     rcases aoa.1 hm with hm|hm
     ·obtain⟨e1,e2,_⟩:=H4 h1 k jX A hm
      subst e1;exact⟨A,by simp[e2,hp,hb,aq]⟩
     ·exact tail (g7 hm hp hb)
   ·cases h
  ·cases h
end Go.Fx
namespace Go.Fx
theorem Oa:∀{cs:li} {c:PV cs} {k:Nat} {jX:Option Nat} {A:jS},(k,jX,A)∈fY cs c→jX=some k∧∃ p∈cs,p.1.key=k∧∃ m t,p.2=.h m t
 |(p,s)::r,c,k,jX,A,h=>by
  simp only[fY] at h;split at h
  ·rename_i B hB
   rcases ama.1 h with h|h
   ·cases h;exact⟨rfl,(p,s),ata ..,rfl,(Be hB).2⟩
   ·obtain⟨e,q,hq,e2⟩:=Oa (cs:=r) h
    exact⟨e,q,Q8 _ hq,e2⟩
  ·obtain⟨e,q,hq,e2⟩:=Oa (cs:=r) h
   exact⟨e,q,Q8 _ hq,e2⟩
theorem Kt{s:St}:∀{cs:li} {c:PV cs} {a:AL},lz s cs=some (c,a)→∀{k:Nat} {jX:Option Nat} {A:jS},(k,jX,A)∈a→(k,some k,A)∈fY cs c∧look (eJ cs c) k≠none
 |[],c,a,h,k,jX,A,hm=>by simp only[lz,OQ,ala] at h;obtain⟨_,rfl⟩:=h;cases hm
 |(p,sp)::r,c,a,h,k,jX,A,hm=>by
  simp only[lz] at h;split at h
  ·rename_i x a1 h1
   split at h
   ·rename_i xs b1 h2
    simp only[OQ,ala] at h;obtain⟨rfl,rfl⟩:=h;simp only[fY,eJ];rcases aoa.1 hm with hm|hm
    ·obtain⟨e1,e2,_⟩:=H4 h1 k jX A hm
     subst e1;simp only[e2];exact⟨ata ..,by simp[aq]⟩
    ·obtain⟨g1,g2⟩:=Kt h2 hm
     split
     ·refine⟨Q8 _ g1,?_⟩
      rw[aq];split
      ·simp
      ·exact g2
     ·exact⟨g1,g2⟩
   ·cases h
  ·cases h
theorem aaR{s:St}{p:Pl}{m:Md}{t:Ty}{x:List t.nH}{b:AL}(h:Af s p (.h m t)=some (x,b)):∀ i o,m≠.DK i o:=fun i o e=>by
 subst e;simp only[Af] at h;split at h
 ·simp[Md.Sr] at h
 ·split at h
  ·rename_i A _
   cases hs:A.sh<;>simp[hs,Md.lG] at h
  ·cases h
 ·cases h
theorem Jg{cs:li}{c:PV cs}{o j:Nat}(h:zy o j cs=true):∃ lf,dZ (b9 cs c) o j=some lf:=by
 induction cs with
 |nil=>cases h
 |cons p r ih=>
  obtain⟨pl,sp⟩:=p;cases pl with
  |r i=>exact ih (c:=c.2) (by simpa[zy] using h)
  |q i k=>exact ih (c:=c.2) (by simpa[zy] using h)
  |l o' j'=>
   simp only[b9,dZ];cases hb:(Nat.beq o' o&&Nat.beq j' j) with
   |true=>exact⟨_,rfl⟩
   |false=>simp only[aqa];exact ih (c:=c.2) (by simpa[zy,hb] using h)
section
variable {L:qr} {args:List ae} {st:St} {e:abs L} {s1 s s4:St} {dst:Nat} {told:li} {o:PV told} {news:List (Nat×Nat×Nat)} {b4:AL}
theorem K0(E:Fd L args st e s1 s)(q:Nat):e.st.dN q=s.dN q:=by rw[E.st'];simp only[St.dN,E.zM.ci];rfl
theorem KZ(E:Fd L args st e s1 s)(a:Nat):e.st.arr a=s.arr a:=by rw[E.st'];simp only[St.arr,(bla E.zM.iG.2.2.2).1];rfl
theorem adZ(E:Fd L args st e s1 s):e.st.cF=s.cF:=by rw[E.st'];exact E.zM.iG.2.2.1.symm
theorem IR(E:Fd L args st e s1 s):zb L.ci e.st=true:=by
 have:=E.ob;unfold zb at this ⊢;rw[←this]
 congr 1
 funext p
 rw[K0 E p.1]
theorem aaQ{s:St}:∀{cs:li} {c:PV cs} {a0:AL},lz s cs=some (c,a0)→∀ k a (A':jS),(k,some a,A')∈a0→∀ i o,A'.md≠.DK i o:=by
 intro cs;induction cs with
 |nil=>intro c a0 h k a A' hm;simp only[lz,OQ,ala] at h;obtain⟨_,rfl⟩:=h;cases hm
 |cons q r ih=>
  intro c a0 h k a A' hm i o;simp only[lz] at h;split at h
  ·rename_i x a1 h1
   split at h
   ·rename_i xs b1 h2
    simp only[OQ,ala] at h;obtain⟨_,rfl⟩:=h;rcases aoa.1 hm with hm|hm
    ·obtain⟨_,e3,_⟩:=H4 h1 _ _ _ hm
     obtain⟨_,m',t',e4⟩:=Be e3;obtain⟨q1,q2⟩:=q;simp only at e4;subst e4;simp only[mP.arr,OQ] at e3;rw[←e3];exact aaR h1 i o
    ·exact ih h2 k a A' hm i o
   ·cases h
  ·cases h
theorem aam(E:Fd L args st e s1 s)(ZD:Wh L e.st=true)(adb:RJ L.pin e.b e.st=true)(AR:lz s4 told=some (o,b4))(I1:vP s4 L.cs=true)(abP:Au (fY L.cs e.c++b4)=true)
  (afY:zb L.ci s4=true) (ahv:zb (news.map fun p=>(p.1,p.2.1)) s4=true) (WA:tZ L e.c s4) (hf:El dst L told o news e.st=true) (ZR:GD L.pin b4=true):
  Iv e.st (L.st e.c e.v) s4 (Iz dst L told o news e.a e.b e.st) (e.a++e.b) (zq dst (wP L.pin b4)) (Ez (e.a++Ej L.pin e.b)) (Do news):=by
 obtain⟨f1,f2,f3,f4,f5,f6,f7⟩:=Em hf;have ZP:=IR E;have HO:=Kw E.Pu;have RW:=Wd (dst:=dst) (told:=told) (o:=o) (news:=news) (a:=e.a) (b:=e.b) HO ZP (fun p hp=>(f3 p hp).1) f5;have Gv:=E.al;simp only[Au,Q3] at Gv abP;have hn4:(b4.map (·.1)).Nodup:=by have:=eF abP.1;rw[bua,bba] at this;exact this.2.1
 have hs4:(b4.filterMap (·.2.1)).Nodup:=by have:=eF abP.2;rw[List.filterMap_append,bba] at this;exact this.2.1
 obtain⟨g1,g2,g5,g3,g4,g6,g7⟩:=KL AR (dst:=dst) (news:=news) (pin:=L.pin) (ba:=e.b);have ac7:=pB AR;have afA:=pB E.rc;have tob:∀ q tl,(L.st e.c e.v).dN q=some tl→∃ n,(q,n)∈L.ci∧tl=pC (b9 L.cs e.c) (b9 L.vs e.v) q 0 n:=fun q tl h=>xX h;have ae5:∀{q n},(q,n)∈L.ci→(L.st e.c e.v).dN q=some (pC (b9 L.cs e.c) (b9 L.vs e.v) q 0 n):=fun {q n} hm=>
  ut (f:=fun p=>pC (b9 L.cs e.c) (b9 L.vs e.v) p.1 0 p.2) HO hm
 have Xv:∀ q,q∉L.ci.map (·.1)→(L.st e.c e.v).dN q=none:=fun q hq=>by
  cases h:(L.st e.c e.v).dN q with
  |none=>rfl
  |some tl=>obtain⟨n,hm,_⟩:=tob q tl h;exact absurd (aIa (f:=(·.1)) hm) hq
 have shl:∀(cl vl:List (Nat×Nat×ag)) (q j n:Nat),(pC cl vl q j n).length=n:=by
  intro cl vl q j n;induction n generalizing j with
  |zero=>rfl
  |succ n ih=>simp[pC,ih]
 have X9:∀{p:Pl} {sp:mP},(p,sp)∈told→∀ q off,sp=.lit (.lw q off)→(∃ tl,(L.st e.c e.v).dN q=some tl)∨q∈news.map (·.1):=fun {p sp} hp q off e1=>by
  rcases f7 _ hp q off e1 with h|h
  ·obtain⟨⟨q',n⟩,hm,rfl⟩:=a0a.1 h
   exact .inl ⟨_,ae5 hm⟩
  ·exact .inr h
 have hnt:∀ p∈news,(L.st e.c e.v).dN p.2.2=none:=fun p hp=>Xv _ fun hm=>by obtain⟨⟨q',n⟩,hm,e1⟩:=a0a.1 hm;obtain⟨ls,hl,_⟩:=oT ZP hm;have:=(f3 p hp).1;simp only at e1 hl;rw[←e1,hl] at this;cases this
 have aav:∀{sp:mP} {x:sp.V} {p p':Pl} {bp:AL},Af s4 p sp=some (x,bp)→∀(q:St) o j,q.res o j (zp dst L.pin news p' sp x)=zp dst L.pin news p' sp x:=fun {sp x p p' bp} hr q o j=>by
  unfold zp;cases eV p'.key L.pin with
  |true=>rfl
  |false=>
  rw[aqa];cases sp with
  |any=>rfl
  |d t=>rfl
  |h m t=>rfl
  |lit l=>
   simp only[Af] at hr;split at hr
   ·rename_i l' _
    cases he:wv l l' with
    |false=>simp[he] at hr
    |true=>
     cases l<;>simp[wv] at he<;>try rfl
     simp only[mP.bP,aaU];split<;>rfl
   ·cases hr
 have Y4:∀ a,(Iz dst L told o news e.a e.b e.st).arr a=(match look (sd dst L.pin told o) a with|some v=>some v|none=>match look (o8 L.pin e.b told o) a with|some v=>some v|none=>(if a∈KQ e.b then none else e.st.arr a)):=fun a=>by
  have e1:(Iz dst L told o news e.a e.b e.st).arr a=(match look (sd dst L.pin told o++(o8 L.pin e.b told o++lm (KQ e.b) e.st.cO)) a with|some v=>some v|none=>look e.st.fQ a):=rfl
  rw[e1,iy,iy,EF];cases look (sd dst L.pin told o) a with
  |some v=>rfl
  |none=>
   cases look (o8 L.pin e.b told o) a with
   |some v=>rfl
   |none=>
   by_cases Cp:a∈KQ e.b
   ·obtain⟨x,hx,hxe⟩:=bia.1 Cp
    have:=ana.1 adb x hx;rw[hxe] at this;simp only[Q3] at this;simp only[Cp,ava];simpa using this.1
   ·simp only[Cp,Q9];rfl
 have afO:∀{nm:Nat} {A:jS},look (o8 L.pin e.b told o) nm=some A→∃ k C,eV k L.pin=true∧(k,some nm,C)∈e.b∧(k,some k,A)∈b4∧s4.arr k=some A∧A.sh=false∧∀ i o,A.md≠.DK i o:=fun {nm A} h=>by
  obtain⟨p,sp,x,bp,C,h1,h2,h3,h4,h5,h6⟩:=g6 h;have hp4:=ana.1 ZR p.key (gO.1 h6);split at hp4
  ·rename_i b0 B hl
   have e0:=Q4 hp4;subst e0;have ib:=dX hl;obtain⟨du,m,t,rfl⟩:=Be h5;have hnl:=aaR h2;have vm:A.md=m:=by simp only[mP.arr,OQ] at h5;rw[←h5]
   have hbp:∃ jX,(p.key,jX,A)∈bp:=by
    simp only[mP.arr,OQ] at h5;simp only[Af] at h2;split at h2
    ·cases hw:m.Sr with
     |false=>simp[hw] at h2
     |true=>simp only[hw,aja,OQ,ala] at h2;obtain⟨rfl,rfl⟩:=h2;exact⟨none,by rw[←h5];exact Q7.2 rfl⟩
    ·rename_i a' _
     split at h2
     ·rename_i A' _
      cases hs:(A'.sh||!m.lG A'.md) with
      |true=>simp[hs] at h2
      |false=>
       simp only[hs,aqa] at h2;split at h2
       ·simp only[OQ,ala] at h2
        obtain⟨rfl,rfl⟩:=h2;exact⟨some a',by rw[←h5];exact Q7.2 rfl⟩
       ·cases h2
     ·cases h2
    ·cases h2
   obtain⟨jX,hbp⟩:=hbp;have e1:=lu hn4 (h3 _ hbp);rw[hl] at e1;simp only[OQ,ala] at e1;obtain⟨rfl,rfl⟩:=e1;obtain⟨_,hgd⟩:=ac7 _ _ _ ib;exact⟨p.key,C,h6,dX h4,ib,hgd,du,fun i o e2=>hnl i o (by rw[←vm];exact e2)⟩
  ·cases hp4
 have acW:∀{q j:Nat} {sl:List ag} {a:ag},s4.dN q=some sl→sl[j]? = some a→s4.at (.l q j)=.one (s4.res q j a):=fun {q j sl a} h1 h2=>by simp[St.at,h1,h2]
 refine {n:=rfl,vr:=fun q=>?_,ir:=fun _=>rfl,bl:=rfl,acM:=fun q tl h=>?_,dN:=fun q xK hq=>?_,EK:=fun q k h=>?_,ago:=fun q q' k h h'=>?_,WH:=fun q ls h=>?_,vb:=fun q j ls lf h1 h2 h3=>?_,arr:=fun a A hA=>?_,ti:=fun a a' k h h'=>?_,ki:=fun a a' k h h'=>?_,tk:=fun a a' k h h'=>?_,Gs:=fun a x h=>?_,pn:=rfl,ap:=fun a A hp hA=>?_}
 ·rw[We]
  cases hk:Ez (e.a++Ej L.pin e.b) q with
  |none=>
   rw[aza fun hs=>(by
    obtain⟨⟨nm,jX,B⟩,hm,TJ⟩:=bia.1 hs;simp only at TJ;subst TJ;exact HT hk _ _ hm)]
  |some k=>obtain⟨A',hm⟩:=rm hk;rw[a7a (show q∈KQ (e.a++Ej L.pin e.b) from bia.2 ⟨_,hm,rfl⟩)]
 ·obtain⟨n,hm,_⟩:=tob q tl h
  obtain⟨ls,hl,_⟩:=oT ZP hm;obtain⟨sl,Mz,_⟩:=oT afY hm;exact⟨R3 E.Pu hm,⟨ls,hl⟩,sl,Mz⟩
 ·rcases RW q with ⟨k,n,hm,e1⟩|⟨hqn,⟨n,ls,hm,hl,e1⟩|⟨hqo,e1⟩⟩
  ·
   rw[e1] at hq;cases hq;have hmn:(k,n)∈news.map fun p=>(p.1,p.2.1):=a0a.2 ⟨(k,n,q),hm,rfl⟩;obtain⟨sl,Mz,ZT⟩:=oT ahv hmn;refine .inr (.inr ⟨k,sl,Ob f5 hm,Mz,by rw[EJ];exact ZT.symm,fun j l' a h1 h2 G G3 u hX hφ hu=>?_⟩)
   have hj:j<n:=by have:=(aka.1 h1).1;rwa[EJ] at this
   rw[TZ hj,aWa] at h1;simp only[OQ] at h1;cases hlk:dZ (jr dst L.pin news told o) k j with
   |none=>rw[hlk] at h1;simp only at h1;subst h1;trivial
   |some x=>rw[hlk] at h1;simp only at h1;subst h1;obtain⟨sp,y,bp,hp,hr,p6,rfl⟩:=g1 hlk;rw[aav hr];exact FE hr p6 hn4 hX hφ f5 hnt (X9 hp) (by rw[acW Mz h2];exact hu)
  ·
   rw[e1] at hq;cases hq;obtain⟨sl,Mz,ZT⟩:=oT afY hm;obtain⟨ls2,Qr,jy⟩:=oT ZP hm;rw[hl] at Qr;cases Qr;simp only at ZT jy;refine .inr (.inl ⟨ls,_,sl,hl,ae5 hm,Mz,by rw[shl];exact jy.symm,by omega,AJ,fun j l' l a h1 h2 h3=>?_⟩)
   rw[Cu,aWa,h2] at h1;simp only[bIa,OQ] at h1;have hjn:j<n:=by have:=(aka.1 h2).1;omega
   cases hlk:dZ (jr dst L.pin news told o) q j with
   |some x=>rw[hlk] at h1;simp only at h1;subst h1;obtain⟨sp,y,bp,hp,hr,p6,rfl⟩:=g1 hlk;refine .inr fun G G3 u hX hφ hu=>?_;rw[aav hr];exact FE hr p6 hn4 hX hφ f5 hnt (X9 hp) (by rw[acW Mz h3];exact hu)
   |none=>
    rw[hlk] at h1;simp only at h1;cases hc:zy q j L.cs with
    |true=>
     rw[hc,aja] at h1;subst h1;obtain⟨lf,hlf⟩:=Jg (c:=e.c) hc;refine .inl ⟨?_,?_,lf,hlf⟩
     ·have:∀ x:ag,(Iz dst L told o news e.a e.b e.st).res q j x=e.st.res q j x:=fun x=>by cases x<;>rfl
      exact this _
     ·exact zj hjn (by rw[aWa];exact hlf)
    |false=>rw[hc,aqa] at h1;subst h1;exact .inr fun _ _ _ _ _ _=>trivial
  ·exact .inl ⟨Xv q hqo,by rw[←e1];exact hq⟩
 ·obtain⟨n,hm⟩:=BO h
  obtain⟨h1,h2,h3⟩:=f3 _ hm;exact⟨h1,h2,Xv k h3⟩
 ·obtain⟨n,hm⟩:=BO h
  obtain⟨n',hm'⟩:=BO h';have key:∀{news:List (Nat×Nat×Nat)},(news.map (·.1)).Nodup→(k,n,q)∈news→(k,n',q')∈news→q=q':=by
   intro news;induction news with
   |nil=>intro _ h;cases h
   |cons p r ih=>
    intro hn h1 h2;rw[aHa,a2a] at hn;rcases ama.1 h1 with h1|h1<;>rcases ama.1 h2 with h2|h2
    ·rw[←h1] at h2;cases h2;rfl
    ·exact absurd (by rw[←h1];exact aIa (f:=(·.1)) h2) hn.1
    ·exact absurd (by rw[←h2];exact aIa (f:=(·.1)) h1) hn.1
    ·exact ih hn.2 h1 h2
  exact key f4 hm hm'
 ·rcases RW q with ⟨k,n,hm,e1⟩|⟨hqn,⟨n,ls,hm,hl,e1⟩|⟨hqo,e1⟩⟩
  ·exact⟨_,e1⟩
  ·exact⟨_,e1⟩
  ·exact⟨ls,by rw[e1];exact h⟩
 ·rcases RW q with ⟨k,n,hm,e1⟩|⟨hqn,⟨n,xK,hm,hl,e1⟩|⟨hqo,e1⟩⟩
  ·have:=(f3 _ hm).1;rw[h1] at this;cases this
  ·rw[h1] at hl
   cases hl;obtain⟨ls2,Qr,jy⟩:=oT ZP hm;rw[h1] at Qr;cases Qr;simp only at jy;have hjn:j<n:=by have:=(aka.1 h2).1;omega
   have hc:zy q j L.cs=true:=by have:=ana.1 (ana.1 ZD _ hm) j (bWa.2 hjn);simp only[h1,bza,h2,Bool.or_false] at this;exact this
   have ht:dZ (jr dst L.pin news told o) q j=none:=by
    cases hh:dZ (jr dst L.pin news told o) q j with
    |none=>rfl
    |some x=>obtain⟨sp,hsp⟩:=wq hh;obtain⟨sc,hsc⟩:=Es.1 hc;exact absurd (rfl:(Pl.l q j).key=(Pl.l q j).key) ((f6 (Pl.l q j,sp) hsp q j rfl).1 (Pl.l q j,sc) hsc)
   obtain⟨lf',afT⟩:=Jg (c:=e.c) hc;refine⟨_,e1,?_,.inr ⟨_,lf',ae5 hm,zj hjn (by rw[aWa];exact afT),afT⟩⟩
   rw[Cu,aWa,h2,ht];simp[hc]
  ·exact⟨ls,by rw[e1];exact h1,h2,.inl (Xv q hqo)⟩
 ·rw[Y4] at hA
  cases hlk:look (sd dst L.pin told o) a with
  |some B=>
   rw[hlk] at hA;simp only[OQ] at hA;subst hA;obtain⟨p,sp,x,bp,hp,hr,p6,rfl,Yb,hpk⟩:=g3 hlk;obtain⟨du,m,t,rfl⟩:=Be Yb;have hnl:=aaR hr;have vm:B.md=m:=by simp only[mP.arr,OQ] at Yb;rw[←Yb]
   have ib:∃ jX,(p.key,jX,B)∈bp:=by
    simp only[mP.arr,OQ] at Yb;simp only[Af] at hr;split at hr
    ·cases hw:m.Sr with
     |false=>simp[hw] at hr
     |true=>simp only[hw,aja,OQ,ala] at hr;obtain⟨rfl,rfl⟩:=hr;exact⟨none,by rw[←Yb];exact Q7.2 rfl⟩
    ·rename_i a' _
     split at hr
     ·rename_i A' _
      cases hs:(A'.sh||!m.lG A'.md) with
      |true=>simp[hs] at hr
      |false=>
       simp only[hs,aqa] at hr;split at hr
       ·simp only[OQ,ala] at hr
        obtain⟨rfl,rfl⟩:=hr;exact⟨some a',by rw[←Yb];exact Q7.2 rfl⟩
       ·cases hr
     ·cases hr
    ·cases hr
   obtain⟨jX,ib⟩:=ib;have hb4:=p6 _ ib;have afF:=qD.2 ⟨hb4,hpk⟩;obtain⟨_,hgd⟩:=ac7 _ _ _ hb4;cases jX with
   |some k=>exact .inl ⟨k,Fb (Cw hn4) afF,hgd,du,fun i o e2=>hnl i o (by rw[←vm];exact e2)⟩
   |none=>exact .inr (.inl ⟨Fb (Cw hn4) afF,hgd.1,du,hgd.2⟩)
  |none=>
   rw[hlk] at hA;simp only at hA;have htn:zq dst (wP L.pin b4) a=none:=by
    cases ht:zq dst (wP L.pin b4) a with
    |none=>rfl
    |some jX=>obtain⟨k,A',rfl,hm⟩:=vJ ht;obtain⟨L6,hm2⟩:=qD.1 hm;obtain⟨B,hB⟩:=g4 L6 hm2;rw[hlk] at hB;cases hB
   have hn:((e.a++e.b).map (·.1)).Nodup:=eF Gv.1
   cases hlb:look (o8 L.pin e.b told o) a with
   |some B=>
    rw[hlb] at hA;simp only[OQ] at hA;subst hA;obtain⟨k,C,q1,q2,q3,q4,q5,q6⟩:=afO hlb;cases hk:Ez (e.a++Ej L.pin e.b) a with
    |none=>exact absurd (ara _ (xY.2 ⟨q2,q1⟩)) (HT hk _ _)
    |some k'=>
     obtain⟨A',hm⟩:=rm hk;have hm':(k',some a,A')∈e.a++e.b:=by
      rcases aoa.1 hm with hm|hm
      ·exact aya _ hm
      ·exact ara _ (xY.1 hm).1
     have e1:k' = k:=JH (eF Gv.2) hm' (ara _ q2);subst e1;exact .inr (.inr (.inl ⟨k',htn,rfl,trivial,q4,q5,q6⟩))
   |none=>
   rw[hlb] at hA;simp only at hA;by_cases Cp:a∈KQ e.b
   ·simp[Cp] at hA
   ·simp only[Cp,Q9] at hA
    cases hk:Ez (e.a++Ej L.pin e.b) a with
    |some k=>
     obtain⟨A',hm⟩:=rm hk;have hm:(k,some a,A')∈e.a:=by
      rcases aoa.1 hm with hm|hm
      ·exact hm
      ·exact absurd (show a∈KQ e.b from bia.2 ⟨_,(xY.1 hm).1,rfl⟩) Cp
     obtain⟨du,pt⟩:=afA _ _ _ hm;simp only at pt;rw[KZ E,pt] at hA;cases hA;obtain⟨hkp,_⟩:=Kt E.rc hm;simp only[vP,Q3] at I1;have ahl:=Bm (v:=e.c) (eF I1.1);obtain⟨_,h4⟩:=Bz (full:=⟨L.cs,e.c⟩) (bla WA.2.2.2).1 ahl I1.2 k (some k) A hkp;exact .inr (.inr (.inl ⟨k,htn,rfl,trivial,h4,du,fun i o e2=>aaQ E.rc _ _ _ hm i o e2⟩))
    |none=>
     refine .inr (.inr (.inr ⟨htn,rfl,hA,.inr fun nm B h=>?_⟩));have hm:=dX h;rcases aoa.1 hm with hm|hm
     ·exact HT hk _ _ (aya _ hm)
     ·exact Cp (bia.2 ⟨_,hm,rfl⟩)
 ·obtain⟨k1,A1,rfl,L6⟩:=vJ h
  obtain⟨k2,A2,rfl,hm2⟩:=vJ h';rw[JH hs4 (qD.1 L6).1 (qD.1 hm2).1]
 ·have sub:∀{k' a':Nat} {A':jS},(k',some a',A')∈e.a++Ej L.pin e.b→(k',some a',A')∈e.a++e.b:=fun {k' a' A'} hm=>by
   rcases aoa.1 hm with hm|hm
   ·exact aya _ hm
   ·exact ara _ (xY.1 hm).1
  obtain⟨A1,L6⟩:=rm h;obtain⟨A2,hm2⟩:=rm h';have hn:((e.a++e.b).map (·.1)).Nodup:=eF Gv.1
  have e1:=lu hn (sub L6);have e2:=lu hn (sub hm2);rw[e1] at e2;simp only[OQ,ala] at e2;exact e2.1
 ·obtain⟨k1,A1,rfl,L6⟩:=vJ h
  obtain⟨L6,abV⟩:=qD.1 L6;obtain⟨A2,hm2⟩:=rm h';rcases aoa.1 hm2 with hm2|hm2
  ·obtain⟨hk2,_⟩:=Kt E.rc hm2
   have HO:=eF abP.2;rw[List.filterMap_append,bba] at HO;exact HO.2.2 k (bia.2 ⟨_,hk2,rfl⟩) k (bia.2 ⟨_,L6,rfl⟩) rfl
  ·obtain⟨_,hpk⟩:=xY.1 hm2
   have hp4:=ana.1 ZR k (gO.1 hpk);split at hp4
   ·rename_i b0 B hl
    have e0:=Q4 hp4;subst e0;have:=JH hs4 L6 (dX hl);subst this;rw[hpk] at abV;cases abV
   ·cases hp4
 ·obtain⟨k1,A1,rfl,L6⟩:=vJ h
  obtain⟨L6,abV⟩:=qD.1 L6;obtain⟨B,hB⟩:=g4 L6 abV;exact(f2 _ (dX hB)).2
 ·have hlk:look (sd dst L.pin told o) a=none:=by
   cases hl:look (sd dst L.pin told o) a with
   |none=>rfl
   |some B=>have:=(f2 _ (dX hl)).1;rw[hA] at this;cases this
  refine⟨?_,?_⟩
  ·cases ht:zq dst (wP L.pin b4) a with
   |none=>rfl
   |some jX=>obtain⟨k,A',rfl,hm⟩:=vJ ht;obtain⟨L6,hm2⟩:=qD.1 hm;obtain⟨B,hB⟩:=g4 L6 hm2;rw[hlk] at hB;cases hB
  ·rw[Y4,hlk]
   simp only;cases hlb:look (o8 L.pin e.b told o) a with
   |some B=>exact⟨B,rfl⟩
   |none=>
    simp only;by_cases Cp:a∈KQ e.b
    ·obtain⟨⟨k,jX,B⟩,hx,hxe⟩:=bia.1 Cp
     simp only at hxe;subst hxe;have h5:=ana.1 adb _ hx;simp only[Q3,a5a,aOa] at h5;rcases h5.2 with h6|h6
     ·have hp4:=ana.1 ZR k (gO.1 h6)
      split at hp4
      ·rename_i b0 B' hl
       have hnb:look e.b k=some (some a,B):=by
        have hn:((e.a++e.b).map (·.1)).Nodup:=eF Gv.1
        rw[bua,bba] at hn;exact lu hn.2.1 hx
       obtain⟨C,hC⟩:=g7 (dX hl) h6 hnb;rw[hlb] at hC;cases hC
      ·cases hp4
     ·have AF:eV a e.st.pin=true:=hp
      rw[h6] at AF;cases AF
    ·rw[aza Cp];exact⟨A,hA⟩
end
end Go.Fx
namespace Go.Fx
theorem D6{G:Gh}:∀{args:List ae} {vs:List Value} {k i:Nat} {v:ae},All2 (aO G) args vs→look (pq k args) i=some v→∃ j u,i=k+j∧vs[j]? = some u∧aO G v u
 |[],[],k,i,v,_,h=>by cases h
 |a::r,u::us,k,i,v,hr,h=>by
  simp only[pq,aq] at h;by_cases e:k=i
  ·simp only[e,ava,OQ] at h
   subst h;exact⟨0,u,by omega,rfl,hr.1⟩
  ·simp only[e,Q9] at h
   obtain⟨j,u',e1,e2,e3⟩:=D6 hr.2 h;exact⟨j+1,u',by omega,by simpa using e2,e3⟩
 |[],_::_,_,_,_,hr,_=>hr.elim
 |_::_,[],_,_,_,hr,_=>hr.elim
theorem az.Yg{X:mS}{st st':St}{G:Gh}{w:World}(hm:az X st G w)(ho:st'.ci=st.ci)(ha:st'.cO=st.cO)(hl:st'.cF=st.cF)(hb:st'.fQ=st.fQ)(hp:st'.pin=st.pin)(hv:st'.Fc=st.Fc):az X st' G w:=by
 obtain⟨n,eB,ci,cO,br,bl,ba,pn,vr⟩:=st;obtain⟨n',ady,WW,Wg,br',bl',ba',pn',vr'⟩:=st';simp only at ho ha hl hb hp hv;subst ho ha hl hb hp hv;have Bw:∀ o j l,(⟨n',ady,WW,Wg,br',bl',ba',pn',vr'⟩:St).res o j l=(⟨n,eB,WW,Wg,br,bl',ba',pn',vr'⟩:St).res o j l:=fun o j l=>by cases l<;>rfl
 have af5:∀ o (ls:List ag) j,(⟨n',ady,WW,Wg,br',bl',ba',pn',vr'⟩:St).kc o j ls=(⟨n,eB,WW,Wg,br,bl',ba',pn',vr'⟩:St).kc o j ls:=fun o ls=>by
  induction ls with
  |nil=>intro j;rfl
  |cons l r ih=>intro j;simp only[St.kc,Bw,ih]
 exact {sl:=hm.sl,sh:=hm.sh,ob:=fun o ls h=>(by obtain⟨arr,elem,mid,g1,g2,g3⟩:=hm.ob o ls h;exact⟨arr,elem,mid,g1,g2,by unfold ip at g3 ⊢;rw[af5];exact g3⟩),ar:=hm.ar,ah:=hm.ah,nd:=hm.nd,qs:=hm.qs,dS:=hm.dS,tY:=hm.tY,s0:=hm.s0,sn:=hm.sn,fr:=hm.fr,sz:=hm.sz,os:=hm.os,tp:=hm.tp,out:=hm.out,pin:=hm.pin,bv:=hm.bv,ap:=hm.ap,hv:=hm.hv,ds:=hm.ds,hh:=hm.hh}
def mS.abA(X:mS):mS:=⟨X.S0,X.Yq,X.w0,fun _=>none,(fun _ _ h=>(by cases h)),fun _ _=>none,(fun _ _ _ h=>(by cases h)),fun _=>none,X.ds⟩
theorem az.abA{X:mS}{st:St}{G:Gh}{w:World}(hm:az X st G w):az X.abA st G w:=
 {sl:=hm.sl,sh:=hm.sh,ob:=hm.ob,ar:=hm.ar,ah:=hm.ah,nd:=hm.nd,qs:=hm.qs,dS:=hm.dS,tY:=hm.tY,s0:=hm.s0,sn:=hm.sn,fr:=hm.fr,sz:=hm.sz,os:=hm.os,tp:=hm.tp,out:=hm.out,pin:=fun o p h=>(by cases h),bv:=fun o j u h=>(by cases h),ap:=fun a u h=>(by cases h),hv:=hm.hv,ds:=hm.ds,hh:=hm.hh}
theorem Wi{X:mS}{st:St}{G:Gh}{w:World}(hm:az X st G w){o j:Nat}{ls:List ag}{lf:ag}(ho:st.dN o=some ls)(hj:ls[j]? = some .vb)(hl:dZ st.cF o j=some lf):
  ∃ arr elem u,w.heap[G.φ o]? = some (.cells arr elem (0,0))∧arr.toList[(G.pre o).length+j]? = some u∧aS G lf u:=by
 obtain⟨arr,elem,mid,g1,g2,g3⟩:=hm.ob o ls ho;have hml:mid.length=ls.length:=by have:=All2.length g3;rw[iW] at this;exact this.symm
 have hjl:j<ls.length:=(aka.1 hj).1;have hx:(st.kc o 0 ls)[j]? = some lf:=by rw[sy,hj,aWa];simp[St.res,hl]
 obtain⟨u,hu,hr⟩:=All2.vK g3 hx;exact⟨arr,elem,u,g1,by rw[Sc g2 (by omega)];exact hu,hr⟩
theorem Wx{full:(ps:li)×PV ps}:∀{ps:li} {v:PV ps} {o j:Nat} {m:Md} {t:Ty},lh full ps v→(Pl.l o j,mP.h m t)∈ps→dZ (b9 full.1 full.2) o j=some (.mT (Pl.l o j).key)
 |[],v,_,_,_,_,_,h=>by cases h
 |(p,sp)::r,v,o,j,m,t,hf,h=>by
  rcases ama.1 h with h' | h'
  ·simp only[ala] at h'
   obtain⟨rfl,rfl⟩:=h';exact hf.1
  ·clear h
   cases p<;>exact Wx (ps:=r) hf.2.2 h'
theorem ac0{G G':Gh}(hS:G'.S=G.S):∀{ls:List ag} {vs:List Value},wI ls=true→All2 (aS G) ls vs→All2 (aS G') ls vs
 |[],[],_,_=>trivial
 |.eZ t d::r,_::_,h,hr=>⟨(by obtain⟨cs,e1,e2⟩:=hr.1;exact⟨cs,e1,by rw[hS];exact e2⟩),ac0 hS (ls:=r) h hr.2⟩
 |[],_::_,_,hr=>hr.elim
 |_::_,[],_,hr=>hr.elim
def Rn(av:ae):Prop:=(∃ lf,av=.one lf)∨∃ ls,av=.agg ls
theorem aaY{G':Gh}{l:List (Nat×ae)}{val:Nat→Value}(h:∀ i av,look l i=some av→Rn av∧aO G' av (val i))(i:Nat):Rn (QP l i)∧aO G' (QP l i) (val i):=by
 unfold QP;cases hl:look l i with
 |none=>exact⟨.inl ⟨_,rfl⟩,trivial⟩
 |some av=>exact h i av hl
theorem abn{G':Gh}{av:ae}{u:Value}(ho:Rn av)(h:aO G' av u):if(OS av).1=true then ∃ cs:List Value,u=.agg cs.toArray∧All2 (aS G') (OS av).2 cs else ∃ l,(OS av).2=[l]∧aS G' l u:=by
 rcases ho with ⟨lf,rfl⟩|⟨ls,rfl⟩
 ·cases lf with
  |eZ t d=>
   obtain⟨cs,e1,e2⟩:=h;by_cases ha:t.agg=true
   ·rw[a7a ha] at e1
    rw[a7a (show(OS (.one (.eZ t d))).1=true from ha)]
    exact⟨cs,e1,lV e2⟩
   ·rw[aza ha] at e1
    rw[aza (show ¬ (OS (.one (.eZ t d))).1=true from ha)]
    cases t<;>simp[Ty.agg] at ha<;>exact⟨_,rfl,cs,by simpa[Ty.agg] using e1,e2⟩
  |_=>exact⟨_,rfl,h⟩
 ·exact h
theorem acv{G':Gh}{l:List (Nat×ae)}{val:Nat→Value}(h:∀ i av,look l i=some av→Rn av∧aO G' av (val i))(res:List Nat):
  aO G' (agu l res) (H5 (res.map val)):=by
 have vj:=aaY h;have all:∀(is:List Nat),All2 (fun(p:Bool×List ag) u=>if p.1=true then ∃ cs:List Value,u=.agg cs.toArray∧All2 (aS G') p.2 cs else ∃ l,p.2=[l]∧aS G' l u) (is.map fun i=>OS (QP l i)) (is.map val):=by
  intro is;induction is with
  |nil=>trivial
  |cons i r ih=>exact⟨abn (vj i).1 (vj i).2,ih⟩
 match res with
 |[]=>exact⟨[],rfl,trivial⟩
 |[i]=>exact(vj i).2
 |i::j::r=>exact⟨_,rfl,all (i::j::r)⟩
theorem Ut{G':Gh}{l:List (Nat×Nat×ag)}{i:Nat}{sl:List ag}{R:ag→Value→Prop}(h:∀ j a lf u,sl[j]? = some a→dZ l i j=some lf→R a u→aS G' lf u):∀(n j:Nat) (m:List ag) (cs:List Value),m.length=n→(∀ k,sl[j+k]? = m[k]?)→All2 R m cs→All2 (aS G') (qsh l i j n) cs
 |0,j,[],[],_,_,_=>trivial
 |n+1,j,a::m,c::cs,hl,hi,ha=>by
  refine⟨?_,Ut h n (j+1) m cs (by simpa using hl) (fun k=>by have:=hi (k+1);rw[show j+(k+1)=j+1+k by omega] at this;simpa using this) ha.2⟩
  cases hc:dZ l i j with
  |none=>trivial
  |some lf=>exact h j a lf c (by simpa using hi 0) hc ha.1
 |0,j,[],_::_,_,_,ha=>ha.elim
 |n+1,j,_::_,[],_,_,ha=>ha.elim
def Fv(pin:List Nat)(s:St):List (Nat×ae):=s.eB.filter fun p=>(match p.2 with | .one (.mT _)=>true|_=>false)&&eV (Pl.r p.1).key pin
theorem Su{pin:List Nat}{s:St}{i:Nat}(h:eV (Pl.r i).key pin=false):look (Fv pin s) i=none:=by
 cases hl:look (Fv pin s) i with
 |none=>rfl
 |some v=>have:=(bPa.1 (dX hl)).2;simp only[Q3] at this;rw[h] at this;cases this.2
theorem Uo{pin:List Nat}{s:St}{i:Nat}{v:ae}(h:look (Fv pin s) i=some v):v.qls=none:=by
 have:=(bPa.1 (dX h)).2;simp only[Q3] at this;have h1:=this.1;revert h1;cases v with
 |one l=>cases l<;>intro h1<;>first|rfl|cases h1
 |_=>intro h1;cases h1
def Sx(pin:List Nat)(avs:List ae)(s:St):St:={s with eB:=pq 500000 avs++Fv pin s}
def Jz(n:Nat):List Nat:=(List.range n).map (500000 + ·)
theorem Uw(zD:List Value):(Jz zD.length).map (fun i=>zD.getD (i - 500000) undef)=zD:=by
 apply bHa;intro i;unfold Jz;rw[bGa,bGa];by_cases h:i<zD.length
 ·simp[h]
 ·simp[cua h]
theorem EW{E:tn}{st:St}:∀{rv:List ResultVar} {avs:List ae},Mj E st rv=some avs→avs.length=rv.length
 |[],avs,h=>by cases h;rfl
 |.tmp t::r,avs,h=>by
  simp only[Mj] at h;split at h
  ·rename_i l hl;cases h;simp[EW hl]
  ·cases h
 |.cell t T::r,avs,h=>by
  simp only[Mj] at h;split at h
  ·split at h
   ·rename_i v l _ hl;cases h;simp[EW hl]
   ·cases h
  ·cases h
section
variable {P:Program} {E:tn} (hE:Gj P E)
include hE
theorem ad4{f:FuncId}{fn:Func}{body:Code}{L:qr}{W:Type}{F:PV L.cs→PV L.vs→Option W}{dk:DkO W}{out:PV L.cs→St→Option W}{pout:PV L.cs→ae→St→Option W}
  (hf:P.funcs[f]? = some fn) (hb:fn.body=some body) (Bs:∀ args w,(callFunc f args).run P w=.ok (.enter f args) w) (hL:sY P E body) (hn:fn.ntmps=L.n)
  (h1:∀ c v x,F c v=some x→tx E body (L.st c v) (fun e s=>match e with | .normal=>out c s | .ret=>out c s|_=>none) (pout c)=some x)
  (h2:∀ c s x,out c s=some x→∃ avs told o news,Mj E s fn.results.toList=some avs∧PN L (fY L.cs c) told news (Sx L.pin avs s)=some o∧∀(R:Type) (f:(told:li)→PV told→List (Nat×Nat×Nat)→List Nat→Option R) g,dk R x f g=f told o news (Jz fn.results.toList.length))
  (h3:∀ c av s x,pout c av s=some x→∃ T ls,av=.AH T ls∧wI ls=true∧PN L (fY L.cs c) [] [] s=some ()∧∀(R:Type) (f:(told:li)→PV told→List (Nat×Nat×Nat)→List Nat→Option R) g,dk R x f g=g T ls):
  Bc P E.gt f (lZ L F dk):=by
 intro R r X st G w dst args vs K KP hr zA hm _ ha;simp only[lZ] at hr;cases he:Zo L args st with
 |none=>rw[he] at hr;cases hr
 |some e=>
  rw[he] at hr;obtain⟨s1,s,EN⟩:=Wq he;simp only at hr;cases hbc:(Wh L e.st&&RJ L.pin e.b e.st) with
  |false=>simp[hbc] at hr
  |true=>
   simp only[hbc,aja] at hr;simp only[Q3] at hbc;obtain⟨x,hx,hr⟩:=axa.1 hr;have m0:az X (C8 L.n args st) G w:=hm.Yg rfl rfl rfl rfl rfl rfl;obtain⟨G1,m1,a1,k1⟩:=n9 EN.sc m0;obtain⟨G2,m2,a2,k2⟩:=n9 EN.sv m1;have a02:=a1.trans a2;have al':=EN.al;simp only[Au,Q3] at al';have HO:((e.a++e.b).map (·.1)).Nodup:=eF al'.1
   have N:=T3 (L:=L) (vC HO EN.rc (fun e he=>aya _ he)) (vC HO EN.rv (fun e he=>ara _ he))
    (fun nm jX A ib=>by
     rcases aoa.1 ib with ib|ib
     ·exact pB EN.rc nm jX A ib
     ·exact pB EN.rv nm jX A ib) EN.al EN.ob EN.zM.iG.1.symm EN.q
   have AE:az X.abA (L.st e.c e.v) (G2.uL (e.a++e.b)) w:=N.ok m2.abA (fun o p h=>by cases h) (fun o j u h=>by cases h) (fun a u h=>by cases h)
   have hmi:=AE.enter;have me:az X e.st G2 w:=by rw[EN.st'];have al:=EN.zM;exact m2.Yg al.ci.symm rfl al.iG.2.2.1.symm (bla al.iG.2.2.2).1.symm (bla al.iG.2.2.2).2.symm al.Fc.symm
   have B0:nG E.gt (xe (L.st e.c e.v) (G2.uL (e.a++e.b)) w).S0:=zA.mono m2.s0;have jy:vs.length=args.length:=(All2.length ha).symm;have xG:bO {G2.uL (e.a++e.b) with ds:=[]} (L.st e.c e.v) {tmps:=vs.toArray++Array.replicate (fn.ntmps - vs.toArray.size) undef,defers:=[]}:=by
    refine N.eB (G:={G2 with ds:=[]}) m2.ds0 ⟨rfl,?_,fun i v hv=>?_⟩
    ·have:s.n=L.n:=EN.zM.iG.1
     have:=EN.len;simp;omega
    ·have e1:s.ir i=look (pq 0 args) i:=by
      simp only[St.ir,EN.zM.eB,EN.zM.iG.2.1];show(match look (pq 0 args) i with|some v=>some v|none=>look [] i)=_
      cases look (pq 0 args) i<;>rfl
     rw[e1] at hv;obtain⟨j,u,e2,e3,e4⟩:=D6 ha hv;have hj:j<vs.length:=(aka.1 e3).1;have e5:i=j:=by omega
     subst e5;have:(vs.toArray++Array.replicate (fn.ntmps - vs.toArray.size) undef).getD i undef=u:=by
      rw[aBa,Array.getElem?_append_left (by simpa using hj)]
      simp[e3]
     rw[this];exact Gh.ae8 (e4.sub a02)
   have hx1:=h1 e.c e.v x hx;have iP:∀{told:li} {o:PV told} {news:List (Nat×Nat×Nat)} {s3:St} {G3:Gh} {w':World},tZ L e.c s3→az (xe (L.st e.c e.v) (G2.uL (e.a++e.b)) w) s3 G3 w'→PN L (fY L.cs e.c) told news s3=some o→El dst L told o news e.st=true→
     ∃ s4 b4 G4 lE,az (xe (L.st e.c e.v) (G2.uL (e.a++e.b)) w) s4 G4 w'∧G3.MT G4∧rK s3 s4∧lz s4 told=some (o,b4)∧qOk told s4=true∧(b4.map (·.1)).Nodup∧az X (Iz dst L told o news e.a e.b e.st) (G2.iP G4 (zq dst (wP L.pin b4)) lE (Do news)) w'∧
      (∀ act,bO G st act→bO (G2.iP G4 (zq dst (wP L.pin b4)) lE (Do news)) (Iz dst L told o news e.a e.b e.st) act):=fun {told o news s3 G3 w'} hbo m3 hrn tV=>by
    unfold PN at hrn;split at hrn
    ·cases hrn
    ·rename_i s4 hs4
     split at hrn
     ·cases hrn
     ·rename_i o' b4 AR
      cases hk:(vP s4 L.cs&&Au (fY L.cs e.c++b4)&&zb L.ci s4&&zb (news.map fun p=>(p.1,p.2.1)) s4&&qOk told s4&&GD L.pin b4) with
      |false=>simp[hk] at hrn
      |true=>
       simp only[hk,aja,OQ] at hrn;subst hrn;simp only[Q3] at hk;obtain⟨⟨⟨⟨⟨q1,q2⟩,q3⟩,q4⟩,q5⟩,q6⟩:=hk;have hb4:=hbo.iG (ot hs4);obtain⟨G4,m4,a4,k4⟩:=n9 hs4 m3;have M:=aam EN hbc.1 hbc.2 AR q1 q2 q3 q4 hb4 tV q6;have hn4:(b4.map (·.1)).Nodup:=by have:=q2;simp only[Au,Q3] at this;have:=eF this.1;rw[bua,bba] at this;exact this.2.1
       have I1:∀ a k,Ez (e.a++Ej L.pin e.b) a=some k→zq dst (wP L.pin b4) a=none→G4.ψ k=G2.ψ a:=fun a k hka _=>by
        obtain⟨A',ib⟩:=rm hka;rcases aoa.1 ib with ib|ib
        rotate_left
        ·obtain⟨hmb,hpk⟩:=xY.1 ib
         have hl:look (e.a++e.b) k=some (some a,A'):=lu HO (ara _ hmb);obtain⟨B,hB⟩:=SC (L:=L) (c:=e.c) (v:=e.v) (.inr (xZ EN.rv _ _ _ hmb));have h1:=(m4.ap k _ (Vm (show eV k (L.st e.c e.v).pin=true from hpk) hB)).2.2;rw[h1];simp only[Gh.uL,hl]
        obtain⟨p,hp,ek,⟨md,t,hsp⟩,vj⟩:=EU EN.rc k _ A' ib;obtain⟨⟨pl,sp⟩,rfl⟩:∃ q,q=p:=⟨p,rfl⟩;simp only at ek hsp vj;subst hsp;cases pl with
        |r i=>have hl:=EN.Pu;simp only[y9,Q3,ana] at hl;have:=hl.2 _ hp;simp at this
        |q i j=>have hl:=EN.Pu;simp only[y9,Q3,ana] at hl;have:=hl.2 _ hp;simp at this
        |l q j=>
         have hq:=WM EN.Pu (aya _ hp) rfl;obtain⟨⟨q',n⟩,hqm,rfl⟩:=a0a.1 hq;have bg:=R3 EN.Pu hqm;have ho:(L.st e.c e.v).dN q' = some (pC (b9 L.cs e.c) (b9 L.vs e.v) q' 0 n):=
          ut (f:=fun p=>pC (b9 L.cs e.c) (b9 L.vs e.v) p.1 0 p.2) (Kw EN.Pu) hqm
         simp only[vP,Q3,ana] at q1;have hlf:=Wx (Bm (v:=e.c) (eF q1.1)) hp;have hjn:j<n:=by
          obtain⟨sl,e1,e2⟩:=oT EN.ob hqm;simp only at e1 e2;simp only[St.at,e1] at vj;cases hj:sl[j]? with
          |none=>rw[hj] at vj;simp at vj
          |some l=>have:=(aka.1 hj).1;omega
         have hjt:(pC (b9 L.cs e.c) (b9 L.vs e.v) q' 0 n)[j]? = some .vb:=zj hjn (by rw[aWa];exact hlf)
         have h5:=q1.2 _ hp;simp only[Jc,Q3] at h5;have h6:=h5.1;split at h6
         ·rename_i ls4 e4
          split at h6
          ·rename_i OZ
           obtain⟨arr,elem,u,b1,b2,b3⟩:=NX AE bg ho hlf hjt;obtain⟨arr',Qb,u',b4',b5,b6⟩:=Wi AE ho hjt hlf;rw[b1] at b4';simp only[OQ,Obj.cells.injEq] at b4';obtain⟨rfl,_⟩:=b4';rw[b2] at b5;cases b5;obtain⟨_,_,Y3,Zn,c1,c2⟩:=m4.bv _ _ _ b3;have ahq:dZ s4.cF q' j=some (.mT (Pl.l q' j).key):=by rw[hb4.2.2.1];exact hlf
           obtain⟨afh,ah1,u3,d1,d2,d3⟩:=Wi m4 e4 OZ ahq;rw[c1] at d1;simp only[OQ,Obj.cells.injEq] at d1;obtain⟨rfl,_⟩:=d1;rw[c2] at d2;cases d2;have f1:u=G4.ψ (Pl.l q' j).key:=d3;have f2:u=(G2.uL (e.a++e.b)).ψ (Pl.l q' j).key:=b6;have f3:look (e.a++e.b) (Pl.l q' j).key=some (some a,A'):=lu HO (aya _ (by rw[←ek];exact ib))
           rw[ek,←f1,f2];simp only[Gh.uL,f3]
          ·cases h6
         ·cases h6
       have jG:∀ x b,eW (G2.uL (e.a++e.b)) (L.st e.c e.v) x b→∃ x',eW G2 e.st x' b∧((∃ o,x=(false,o)∧x' = (false,o))∨∃ nm a A,x=(true,nm)∧x' = (true,a)∧look (e.a++e.b) nm=some (some a,A)):=fun x b hx=>by
        obtain⟨x',h1,h2⟩:=N.gz x b hx;refine⟨x',?_,h2⟩;obtain⟨kd,nn⟩:=x';cases kd with
        |false=>obtain⟨⟨ls,hl⟩,e⟩:=h1;exact⟨⟨ls,by rw[K0 EN];exact hl⟩,e⟩
        |true=>obtain⟨⟨A,hA,hs⟩,e⟩:=h1;exact⟨⟨A,by rw[KZ EN];exact hA,hs⟩,e⟩
       have m5:=M.ok me jG AE m4 I1;refine⟨s4,b4,G4,_,m4,a4,k4,AR,q5,hn4,m5,fun act ra=>M.eB m4.s0 ?_⟩;refine ra.sub a02 ?_ fun i=>?_<;>rw[EN.st'];rfl
   have Kq:∀ s3 G3 w' act,tZ L e.c s3→az (xe (L.st e.c e.v) (G2.uL (e.a++e.b)) w) s3 G3 w'→bO G3 s3 act→out e.c s3=some x→act.defers=[]∧∃ v,(results fn act.tmps).run P w' = .ok v w'∧
     ∃ av st' G',az X st' G' w'∧(∀ act,bO G st act→bO G' st' act)∧aO G' av v∧K av st' = some r:=fun s3 G3 w' act hbo m3 r3 ho=>by
    refine⟨r3.1.trans m3.ds,?_⟩;obtain⟨avs,told,o,news,g0,g1,g3⟩:=h2 _ _ _ ho;rw[g3] at hr;cases tV:El dst L told o news e.st with
    |false=>simp[tV] at hr
    |true=>
     simp only[tV,aja] at hr;obtain⟨zD,iH,hav⟩:=Lg hE.iE m3 r3 g0;obtain⟨s4,b4,G4,lE,m4,a4,k4,AR,hqk,hn4,m5,rg⟩:=iP (s3:=Sx L.pin avs s3) ⟨hbo.1,hbo.2.1,hbo.2.2.1,hbo.2.2.2⟩ (m3.Yg rfl rfl rfl rfl rfl rfl) g1 tV;refine⟨_,iH,_,_,_,m5,rg,?_,hr⟩;obtain⟨f1,f2,f3,f4,f5,f6,f7⟩:=Em tV;have hvl:zD.length=fn.results.toList.length:=by rw[←All2.length hav,EW g0]
     rw[←hvl]
     conv=>arg 3;rw[←Uw zD]
     have hφ4:∀ q tl,(L.st e.c e.v).dN q=some tl→G4.φ q=G2.φ q∧G4.pre q=G2.pre q:=fun q tl hq=>by obtain⟨n,hqm,_⟩:=xX hq;have:=(m4.pin q _ (Qu (R3 EN.Pu hqm) hq)).2;simp only[ala] at this;exact⟨this.1.symm,this.2.1.symm⟩
     have afX:∀ p∈news,(L.st e.c e.v).dN p.2.2=none:=fun p hp=>by
      cases ht:(L.st e.c e.v).dN p.2.2 with
      |none=>rfl
      |some tl=>obtain⟨n,hqm,_⟩:=xX ht;obtain⟨ls,OZ,_⟩:=oT (IR EN) hqm;rw[(f3 p hp).1] at OZ;cases OZ
     have ade:∀{pl:Pl} {sp:mP},(pl,sp)∈told→∀ q off,sp=.lit (.lw q off)→(∃ tl,(L.st e.c e.v).dN q=some tl)∨q∈news.map (·.1):=fun {pl sp} e1 q off hs=>
      (f7 _ e1 q off hs).imp (fun hq=>vQ (f:=fun p=>pC (b9 L.cs e.c) (b9 L.vs e.v) p.1 0 p.2) hq) id
     have adi:∀ i,(eV (Pl.r i).key L.pin=false∨(s4.uK i).qls≠none)→aO G4 (s4.uK i) (zD.getD (i - 500000) undef):=fun i hpi=>by
      unfold St.uK;cases hs:s4.ir i with
      |none=>trivial
      |some v=>
       have hsv:s4.uK i=v:=by unfold St.uK;rw[hs]
       rw[k4.ir] at hs;have Co:look (pq 500000 avs) i=some v:=by
        have rU:s3.js=[]:=by
         rw[hbo.2.1];have hl:=EN.Pu;simp only[y9,Q3,ana] at hl;have key:∀{cs:li} {c:PV cs},(∀ p∈cs,(match p.1 with | .l _ _=>true|_=>false)=true)→lX cs c=[]:=by
          intro cs;induction cs with
          |nil=>intro c _;rfl
          |cons p r ih=>
           intro c h;obtain⟨pl,sp⟩:=p;cases pl with
           |r i=>have:=h _ (ata ..);simp at this
           |q i j=>have:=h _ (ata ..);simp at this
           |l o j=>exact ih fun p hp=>h p (Q8 _ hp)
         exact key hl.2
        have:(Sx L.pin avs s3).ir i=(match look (pq 500000 avs++Fv L.pin s3) i with|some v=>some v|none=>look s3.js i):=rfl
        rw[this,rU,iy] at hs;cases hq:look (pq 500000 avs) i with
        |some u=>rw[hq] at hs;exact hs
        |none=>
         rw[hq] at hs;simp only at hs;cases hp:look (Fv L.pin s3) i with
         |none=>rw[hp] at hs;cases hs
         |some u=>
          rcases hpi with hpi|hpi
          ·rw[Su hpi] at hp;cases hp
          ·rw[hp] at hs
           cases hs;rw[hsv] at hpi;exact absurd (Uo hp) hpi
       obtain⟨j,u,q1,q2,q3⟩:=D6 hav Co;have:zD.getD (i - 500000) undef=u:=by rw[q1,bca,a8a,q2];rfl
       rw[this];exact q3.sub a4
     have afz:=KL AR (dst:=dst) (news:=news) (pin:=L.pin) (ba:=e.b);refine acv (fun i av hl=>?_) _;unfold S4 at hl;rw[iy] at hl;cases hlr:look (Lf dst L.pin news told o) i with
     |some av'=>
      rw[hlr] at hl;cases hl;obtain⟨sp,x',bp,e1,e2,e3,rfl⟩:=afz.2.1 hlr;cases hpi:eV (Pl.r i).key L.pin with
      |true=>exact⟨.inl ⟨_,rfl⟩,by unfold zp;rw[hpi];trivial⟩
      |false=>exact⟨.inl ⟨_,rfl⟩,FE (t:=L.st e.c e.v) (p:=.r i) e2 e3 hn4 ⟨_,_,m4⟩ hφ4 f5 afX (ade e1) (adi i (.inl hpi))⟩
     |none=>
      rw[hlr] at hl;simp only at hl;have ib:=dX hl;obtain⟨⟨k,n⟩,hk1,hk2⟩:=a0a.1 ib;simp only[ala] at hk2;obtain⟨rfl,rfl⟩:=hk2;refine⟨.inr ⟨_,rfl⟩,?_⟩;have hq4:=ana.1 hqk _ hk1;split at hq4
      ·rename_i ls OZ
       obtain⟨cs,c1,c2⟩:=aaO m4 OZ (adi k (.inr (by rw[OZ];exact fun h=>by cases h)))
       refine⟨cs,c1,Ut (R:=aS G4) (sl:=ls) (fun j a lf u ha hlf hu=>?_) n 0 ls cs (Q4 hq4) (fun k=>by rw[aWa]) c2⟩
       obtain⟨sp,x',bp,e1,e2,e3,rfl⟩:=afz.2.2.1 hlf;exact FE (t:=L.st e.c e.v) (p:=.q k j) e2 e3 hn4 ⟨_,_,m4⟩ hφ4 f5 afX (ade e1) (by
        simp only[St.at,OZ,ha];exact hu)
      ·cases hq4
   have aei:∀ av u s3 G3 w',tZ L e.c s3→az (xe (L.st e.c e.v) (G2.uL (e.a++e.b)) w) s3 G3 w'→aO G3 av u→pout e.c av s3=some x→∃ av st' G',az X st' G' w'∧aO G' av u∧KP av st' = some r:=fun av u s3 G3 w' hbo m3 hv ho=>by
    obtain⟨T,ls,rfl,hd,g1,g2⟩:=h3 _ _ _ _ ho;rw[g2] at hr;obtain⟨s4,b4,G4,lE,m4,a4,k4,AR,hqk,hn4,m5,rg⟩:=iP hbo m3 g1 (by simp[El,sd,oo])
    refine⟨_,_,_,m5,?_,hr⟩;obtain⟨x',cs,e1,e2,e3⟩:=hv;exact⟨x',cs,e1,e2,ac0 (G:=G4) (G':=G2.iP G4 (zq dst (wP L.pin b4)) lE (Do [])) rfl hd (Ic a4 e3)⟩
   refine⟨Bs _ _,calls_of_wp hf hb ?_⟩;have hx1:=(QT hE.RI hE.adr body (K':=fun e' s=>gd L e.c s (match e' with | .normal=>out e.c s | .ret=>out e.c s|_=>none))
    (KP':=fun av s=>gd L e.c s (pout e.c av s)) (fun e s hs=>(Km ⟨hs.1.symm,hs.2.1,hs.2.2.1,hs.2.2.2⟩).symm) (fun av s hs=>(Km ⟨hs.1.symm,hs.2.1,hs.2.2.1,hs.2.2.2⟩).symm)).symm.trans hx1
   refine Ag hE B0 body hL hx1 hmi xG (fun e s G3 w' act m3 r3 hk=>?_) (fun av v s G3 w' act m3 r3 hv hk=>?_)
   ·obtain⟨hbo,hk⟩:=Fj hk
    cases e with
    |normal=>exact Kq s G3 w' act hbo m3 r3 hk
    |ret=>exact Kq s G3 w' act hbo m3 r3 hk
    |_=>cases hk
   ·obtain⟨hbo,hk⟩:=Fj hk
    obtain⟨av',st',G',q1,q2,q3⟩:=aei av v s G3 w' hbo m3 hv hk;exact⟨r3.trans m3.ds,_,rfl,av',st',G',q1,q2,q3⟩
end
end Go.Fx
namespace Go.Fx
def Xs:TD→TypeDesc→Bool
 |.int k,.int k'=>decide (k=k')
 |.bool,.bool=>true
 |.str,.string=>true
 |.slice e,.slice e'=>Nat.beq e e'
 |.struct fs,.struct ol=>decide (fs=ol.toList.map fun f=>(f.offset,f.type))
 |.lw e,.pointer e'=>Nat.beq e e'
 |.arr n e,.array n' e'=>Nat.beq n n'&&Nat.beq e e'
 |.mp k v,.map k' v'=>Nat.beq k k'&&Nat.beq v v'
 |.aaA,d=>!d.isRow&&(match d with | .int _=>false | .string=>false | .slice _=>false|_=>true)
 |_,_=>false
theorem abj{x:TD}{d:TypeDesc}(h:Xs x d=true):zv x d:=by
 cases x<;>cases d<;>simp_all[Xs,zv]
 all_goals first|exact Q4 h|exact⟨Q4 h.1,Q4 h.2⟩|skip
def agi:Kd→Kd→Bool
 |.int k,.int k'=>decide (k=k')
 |.bool,.bool=>true
 |.str,.str=>true
 |_,_=>false
def WG:List Kd→List Kd→Bool
 |[],[]=>true
 |a::r,b::s=>agi a b&&WG r s
 |_,_=>false
theorem TO:∀{a b:List Kd},WG a b=true→a=b
 |[],[],_=>rfl
 |x::r,y::s,h=>by simp only[WG,Q3] at h;rw[TO h.2];have:=h.1;cases x<;>cases y<;>simp_all[agi]
 |[],_::_,h=>by cases h
 |_::_,[],h=>by cases h
def aez(P:Program)(ti:TI):Bool:=
 match ti.iQ with
 |.mp k v=>(match P.underlying k,P.underlying v,(P.info? v).bind (·.zero) with
  |some .string,some (.int .i64),some (.int .i64 n)=>decide (n=0)
  |_,_,_=>false)
 |_=>true
theorem ab7{P:Program}{ti:TI}(h:aez P ti=true):∀ k v,ti.iQ=.mp k v→P.underlying k=some .string∧P.underlying v=some (.int .i64)∧∃ j,P.info? v=some j∧j.zero=some (.int .i64 0):=fun k v hd=>by
 unfold aez at h;rw[hd] at h;simp only at h;split at h
 ·rename_i n h1 h2 h3
  obtain⟨j,h4,h5⟩:=axa.1 h3;have:n=0:=by simpa using h
  exact⟨h1,h2,j,h4,by rw[h5,this]⟩
 ·cases h
def abI(P:Program)(t:TypeId)(ti:TI):Bool:=
 aez P ti &&
 match ti.iQ.agg,ti.ty.bind Kv with
 |true,some ks=>(match De P 6 t with|some l=>WG l ks|none=>false)
 |_,_=>true
theorem agP{P:Program}{t:TypeId}{i:TypeInfo}{d:TypeDesc}{ti:TI}(h1:P.info? t=some i)(h2:P.underlying t=some d)(h3:i.zero.isSome=true)(h4:(i.zero.getD undef).cells.toList=ti.zero)
  (h5:(Xs ti.iQ d&&Nat.beq i.size ti.size&&Nat.beq i.bytes ti.bytes&&(ti.iQ.agg||Nat.beq ti.size 1)&&Nat.beq ti.zero.length ti.size)=true) (h6:abI P t ti=true):As P t ti:=by
 simp only[Q3,a5a] at h5;obtain⟨⟨⟨⟨a,b⟩,c⟩,e⟩,f⟩:=h5;refine⟨i,d,i.zero.getD undef,h1,h2,Q4 b,Q4 c,?_,h4,abj a,fun hn=>?_,Q4 f,fun ks h7 h8=>?_,ab7 (by unfold abI at h6;simp only[Q3] at h6;exact h6.1)⟩
 ·cases hz:i.zero with
  |none=>rw[hz] at h3;cases h3
  |some z=>rfl
 ·rcases e with e|e
  ·rw[hn] at e;cases e
  ·exact Q4 e
 ·unfold abI at h6
  simp only[Q3] at h6
  replace h6:=h6.2
  rw[h7,h8] at h6;simp only at h6;split at h6
  ·rename_i l hl;rw[hl,TO h6]
  ·cases h6
def abv(P:Program):List (Nat×TI)→Prop
 |[]=>True
 |p::r=>As P p.1 p.2∧abv P r
theorem Xr{P:Program}:∀{l:List (Nat×TI)},abv P l→iO P (look l)
 |[],_,t,ti,h=>by cases h
 |p::r,hl,t,ti,h=>by
  obtain⟨k,v⟩:=p;rw[aq] at h;by_cases e:k=t
  ·subst e;simp only[ava,OQ] at h;subst h;exact hl.1
  ·simp only[e,Q9] at h;exact Xr hl.2 t ti h
def TV{α:Type 1}:List (Nat×α)→Nat→Option α
 |[],_=>none
 |(k,v)::r,i=>bif Nat.beq k i then some v else TV r i
theorem BM{α:Type 1}:∀{l:List (Nat×α)} {k:Nat} {v:α},TV l k=some v→(k,v)∈l
 |(k',v')::r,k,v,h=>by
  simp only[TV] at h;cases hb:Nat.beq k' k with
  |true=>simp only[hb,aja,OQ] at h;obtain rfl:=Q4 hb;subst h;exact ata ..
  |false=>simp only[hb,aqa] at h;exact Q8 _ (BM h)
structure kZ(P:Program)(gt:Nat→Option GA)(f:FuncId)(s:iF):Prop where
 ok:Bc P gt f s
 det:po s
 RI:nz s
def SS(P:Program)(gt:Nat→Option GA):List (Nat×iF)→Prop
 |[]=>True
 |p::r=>kZ P gt p.1 p.2∧SS P gt r
theorem SS.mem{P:Program}{gt:Nat→Option GA}:∀{l:List (Nat×iF)},SS P gt l→∀ p∈l,kZ P gt p.1 p.2
 |[],_,_,h=>by cases h
 |q::r,hl,p,h=>by
  rcases ama.1 h with rfl|h
  ·exact hl.1
  ·exact hl.2.mem p h
def SR:List (Nat×lK)→Prop
 |[]=>True
 |p::r=>A6 p.2∧SR r
theorem SR.mem:∀{l:List (Nat×lK)},SR l→∀ p∈l,A6 p.2
 |[],_,_,h=>by cases h
 |q::r,hl,p,h=>by
  rcases ama.1 h with rfl|h
  ·exact hl.1
  ·exact hl.2.mem p h
def ac4(gt:Nat→Option GA)(iE:List (Nat×TI))(acz:List (Nat×iF))(oB:List (Nat×lK))(on:List (Nat×Nat)):tn:=
 ⟨gt,look iE,TV acz,TV oB,fun n=>match look on n with|some o=>o|none=>n+10000⟩
theorem ad0{P:Program}{gt:Nat→Option GA}{iE:List (Nat×TI)}{acz:List (Nat×iF)}{oB:List (Nat×lK)}{on:List (Nat×Nat)}(ZL:P.follows .mixedOrders=true)(ht:abv P iE)(hs:SS P gt acz)(hl:SR oB):Gj P (ac4 gt iE acz oB on):=
 ⟨Xr ht,ZL,fun f s h=>(hs.mem _ (BM h)).ok,fun f s h=>(hs.mem _ (BM h)).det,fun f s h=>(hs.mem _ (BM h)).RI,fun i L h=>hl.mem _ (BM h)⟩
def UQ:li→List Ty
 |[]=>[]
 |(_,.d t)::r=>t::UQ r
 |(_,.h _ t)::r=>.slice t::UQ r
 |(_,.any)::r=>UQ r
 |(_,.lit _)::r=>UQ r
def Oe:(ps:li)→PV ps→DL (UQ ps)
 |[],_=>()
 |(_,.d _)::r,v=>(v.1,Oe r v.2)
 |(_,.h _ _)::r,v=>(v.1,Oe r v.2)
 |(_,.any)::r,v=>Oe r v.2
 |(_,.lit _)::r,v=>Oe r v.2
def toPV:(ps:li)→DL (UQ ps)→PV ps
 |[],_=>()
 |(_,.d _)::r,v=>(v.1,toPV r v.2)
 |(_,.h _ _)::r,v=>(v.1,toPV r v.2)
 |(_,.any)::r,v=>((),toPV r v)
 |(_,.lit _)::r,v=>((),toPV r v)
theorem Rj:∀{ps:li} {v:PV ps},toPV ps (Oe ps v)=v
 |[],_=>rfl
 |(_,.d _)::r,v=>by show(v.1,toPV r (Oe r v.2))=v;rw[Rj]
 |(_,.h _ _)::r,v=>by show(v.1,toPV r (Oe r v.2))=v;rw[Rj]
 |(_,.any)::r,v=>by show((),toPV r (Oe r v.2))=v;rw[Rj]
 |(_,.lit _)::r,v=>by show((),toPV r (Oe r v.2))=v;rw[Rj]
def Qj:(ts:List Ty)→List ag→Option (DL ts)
 |[],[]=>some ()
 |t::ts,.eZ u d::r=>(match wd u t d,Qj ts r with|some x,some y=>some (x,y)|_,_=>none)
 |_,_=>none
def Zf:(ts:List Ty)→DL ts→List ag
 |[],_=>[]
 |t::r,d=>.eZ t d.1::Zf r d.2
theorem IZ:∀{ts:List Ty} {ls:List ag} {d:DL ts},Qj ts ls=some d→wI ls=true∧Zf ts d=ls
 |[],[],_,_=>⟨rfl,rfl⟩
 |t::ts,.eZ u x::r,d,h=>by
  simp only[Qj] at h;split at h
  ·rename_i x' y h1 h2
   simp only[OQ] at h;subst h;obtain⟨e1,e2⟩:=IZ h2;obtain⟨rfl,rfl⟩:=lT h1;exact⟨e1,by simp[Zf,e2]⟩
  ·cases h
 |[],_::_,_,h=>by cases h
 |_::_,[],_,h=>by cases h
 |_::_,.any::_,_,h=>by cases h
 |_::_,.vV::_,_,h=>by cases h
 |_::_,.vb::_,_,h=>by cases h
 |_::_,.nil::_,_,h=>by cases h
 |_::_,.KD::_,_,h=>by cases h
 |_::_,.mT _::_,_,h=>by cases h
 |_::_,.lw _ _::_,_,h=>by cases h
 |_::_,.Ei _ _ _ _::_,_,h=>by cases h
 |_::_,.PO _ _ _::_,_,h=>by cases h
 |_::_,.fn _::_,_,h=>by cases h
 |_::_,.ga _ _::_,_,h=>by cases h
inductive VO where
 |ret (told:li) (news:List (Nat×Nat×Nat))|AT (T:TypeId) (ts:List Ty)
def VO.tys:VO→List Ty
 |.ret told _=>UQ told
 |.AT _ ts=>ts
@[reducible] def WO:List VO→Type
 |[]=>Empty
 |[v]=>DL v.tys
 |v::u::r=>DL v.tys⊕WO (u::r)
def VO.out(L:qr)(al:AL)(s:St):(v:VO)→Option (DL v.tys)
 |.ret told news=>(PN L al told news s).map (Oe told)
 |.AT _ _=>none
def VO.pout(L:qr)(al:AL)(av:ae)(s:St):(v:VO)→Option (DL v.tys)
 |.ret _ _=>none
 |.AT T ts=>(match av with
  |.AH T' ls=>(bif Nat.beq T T' then(match PN L al [] [] s with|some _=>Qj ts ls|none=>none) else none)
  |_=>none)
def VO.dk(res:List Nat){R:Type}:(v:VO)→DL v.tys→((told:li)→PV told→List (Nat×Nat×Nat)→List Nat→Option R)→(TypeId→List ag→Option R)→Option R
 |.ret told news,d,f,_=>f told (toPV told d) news res
 |.AT T ts,d,_,g=>g T (Zf ts d)
def ach(L:qr)(al:AL)(s:St):(vs:List VO)→Option (WO vs)
 |[]=>none
 |[v]=>v.out L al s
 |v::u::r=>(match v.out L al s with|some o=>some (.inl o)|none=>(ach L al s (u::r)).map .inr)
def W9(L:qr)(al:AL)(av:ae)(s:St):(vs:List VO)→Option (WO vs)
 |[]=>none
 |[v]=>v.pout L al av s
 |v::u::r=>(match v.pout L al av s with|some o=>some (.inl o)|none=>(W9 L al av s (u::r)).map .inr)
def zQ(res:List Nat):(vs:List VO)→DkO (WO vs)
 |[]=>fun _ x _ _=>x.elim
 |[v]=>fun _ x f g=>v.dk res x f g
 |v::u::r=>fun R x f g=>(match x with | .inl o=>v.dk res o f g | .inr y=>zQ res (u::r) R y f g)
theorem abp(res:List Nat)(v:VO)(d:DL v.tys):(∃ told o news ahR,∀(R:Type) (f:(told:li)→PV told→List (Nat×Nat×Nat)→List Nat→Option R) g,v.dk res d f g=f told o news ahR)∨
  ∃ T ls,∀(R:Type) (f:(told:li)→PV told→List (Nat×Nat×Nat)→List Nat→Option R) g,v.dk res d f g=g T ls:=by
 cases v with
 |ret told news=>exact .inl ⟨_,_,_,_,fun _ _ _=>rfl⟩
 |AT T ts=>exact .inr ⟨_,_,fun _ _ _=>rfl⟩
theorem Nm(res:List Nat):∀(vs:List VO),adK (zQ res vs)
 |[],x=>x.elim
 |[v],x=>abp res v x
 |v::u::r,.inl d=>abp res v d
 |v::u::r,.inr y=>Nm res (u::r) y
theorem Xy{L:qr}{al:AL}{s:St}{res:List Nat}{v:VO}{x:DL v.tys}(h:v.out L al s=some x):
  ∃ told o news,PN L al told news s=some o∧∀(R:Type) (f:(told:li)→PV told→List (Nat×Nat×Nat)→List Nat→Option R) g,v.dk res x f g=f told o news res:=by
 cases v with
 |ret told news=>obtain⟨o,h1,rfl⟩:=aKa.1 h;exact⟨told,o,news,h1,fun R f g=>by simp only[VO.dk,Rj]⟩
 |AT T ts=>cases h
theorem W0{L:qr}{al:AL}{s:St}{res:List Nat}:∀{vs:List VO} {x:WO vs},ach L al s vs=some x→
  ∃ told o news,PN L al told news s=some o∧∀(R:Type) (f:(told:li)→PV told→List (Nat×Nat×Nat)→List Nat→Option R) g,zQ res vs R x f g=f told o news res
 |[],x,h=>by cases h
 |[v],x,h=>Xy h
 |v::u::r,x,h=>by
  simp only[ach] at h;split at h
  ·rename_i o ho
   simp only[OQ] at h;subst h;exact Xy ho
  ·obtain⟨y,h1,rfl⟩:=aKa.1 h
   exact W0 (vs:=u::r) h1
theorem UU{L:qr}{al:AL}{s:St}{av:ae}{res:List Nat}{v:VO}{x:DL v.tys}(h:v.pout L al av s=some x):
  ∃ T ls,av=.AH T ls∧wI ls=true∧PN L al [] [] s=some ()∧∀(R:Type) (f:(told:li)→PV told→List (Nat×Nat×Nat)→List Nat→Option R) g,v.dk res x f g=g T ls:=by
 cases v with
 |ret told news=>cases h
 |AT T ts=>
  simp only[VO.pout] at h;split at h
  ·rename_i T' ls
   cases hb:Nat.beq T T' with
   |false=>simp[hb] at h
   |true=>
    simp only[hb,aja] at h;obtain rfl:=Q4 hb;split at h
    ·rename_i u hu
     obtain⟨e1,e2⟩:=IZ h;exact⟨T,ls,rfl,e1,hu,fun R f g=>by simp only[VO.dk,e2]⟩
    ·cases h
  ·cases h
theorem Up{L:qr}{al:AL}{s:St}{av:ae}{res:List Nat}:∀{vs:List VO} {x:WO vs},W9 L al av s vs=some x→
  ∃ T ls,av=.AH T ls∧wI ls=true∧PN L al [] [] s=some ()∧∀(R:Type) (f:(told:li)→PV told→List (Nat×Nat×Nat)→List Nat→Option R) g,zQ res vs R x f g=g T ls
 |[],x,h=>by cases h
 |[v],x,h=>UU h
 |v::u::r,x,h=>by
  simp only[W9] at h;split at h
  ·rename_i o ho
   simp only[OQ] at h;subst h;exact UU ho
  ·obtain⟨y,h1,rfl⟩:=aKa.1 h
   exact Up (vs:=u::r) h1
def rL(f:Func):Code:=f.body.getD .skip
def kO1(E:tn)(rv:List ResultVar)(L:qr)(vs:List VO)(c:PV L.cs)(s:St):Option (WO vs):=
 match Mj E s rv with
 |some avs=>ach L (fY L.cs c) (Sx L.pin avs s) vs
 |none=>none
def kO(E:tn)(rv:List ResultVar)(L:qr)(vs:List VO)(c:PV L.cs)(e:Exit)(s:St):Option (WO vs):=
 match e with
 |.normal=>kO1 E rv L vs c s
 |.ret=>kO1 E rv L vs c s
 |_=>none
def kP(L:qr)(vs:List VO)(c:PV L.cs)(av:ae)(s:St):Option (WO vs):=W9 L (fY L.cs c) av s vs
theorem Zy{P:Program}{E:tn}(hE:Gj P E){f:FuncId}{fn:Func}{L:qr}{vs:List VO}{res:List Nat}{F:PV L.cs→PV L.vs→Option (WO vs)}
  (hf:P.funcs[f]? = some fn) (Bs:∀ args w,(callFunc f args).run P w=.ok (.enter f args) w) (hb:fn.body.isSome=true) (hL:sY P E (rL fn)) (hn:Nat.beq fn.ntmps L.n=true) (Bw:Jz fn.results.toList.length=res)
  (h:∀ c v,F c v=tx E (rL fn) (L.st c v) (kO E fn.results.toList L vs c) (kP L vs c)):kZ P E.gt f (lZ L F (zQ res vs)):=by
 have I0:fn.body=some (rL fn):=by
  unfold rL;cases hh:fn.body with
  |none=>rw[hh] at hb;cases hb
  |some b=>rfl
 refine⟨ad4 hE hf I0 Bs hL (Q4 hn) (out:=fun c s=>kO1 E fn.results.toList L vs c s) (pout:=kP L vs) (fun c v x hx=>?_) (fun c s x hx=>?_) (fun c av s x hx=>Up hx),UE _ _ _ (Nm res vs),QX _ _ _ (Nm res vs)⟩
 ·rw[←hx,h]
  rfl
 ·simp only[kO1] at hx
  split at hx
  ·rename_i avs hav
   obtain⟨told,o,news,g1,g2⟩:=W0 (res:=res) hx;exact⟨avs,told,o,news,hav,g1,by rw[Bw];exact g2⟩
  ·cases hx
theorem cP{P:Program}{gt:Nat→Option GA}{f:FuncId}{L:qr}{vs:List VO}{res:List Nat}{F:PV L.cs→PV L.vs→Option (WO vs)}(h:∀ c v,F c v=none):kZ P gt f (lZ L F (zQ res vs)):=by
 refine⟨fun {R r X st G w dst args us K KP} hr _ _ _=>?_,UE _ _ _ (Nm res vs),QX _ _ _ (Nm res vs)⟩;simp only[lZ] at hr;split at hr
 ·cases hr
 ·rw[h] at hr
  rename_i e _;cases hb:(Wh L e.st&&RJ L.pin e.b e.st)<;>simp[hb] at hr
def kD(E:tn)(rv:List ResultVar)(rs:List Ty)(e:Exit)(s:St):Option (DL rs):=
 match e with
 |.normal=>PM E rv rs s
 |.ret=>PM E rv rs s
 |_=>none
theorem X6{P:Program}{E:tn}(hE:Gj P E){f:FuncId}{fn:Func}{ts rs:List Ty}{F:DL ts→Option (DL rs)}
  (hf:P.funcs[f]? = some fn) (Bs:∀ args w,(callFunc f args).run P w=.ok (.enter f args) w) (hb:fn.body.isSome=true) (hL:sY P E (rL fn)) (hn:Nat.ble ts.length fn.ntmps=true)
  (h:∀ d,F d=tx E (rL fn) (stD fn.ntmps ts d) (kD E fn.results.toList rs) (fun _ _=>none)):kZ P E.gt f (AN ts rs F id):=by
 have I0:fn.body=some (rL fn):=by
  unfold rL;cases hh:fn.body with
  |none=>rw[hh] at hb;cases hb
  |some b=>rfl
 refine⟨abN hE (pack:=id) (fun r=>rfl) hf I0 Bs hL (aZa hn) fun d=>?_,BV _ _ _ _,yd _ _ _ _⟩;rw[h]
 congr 1
 funext e s
 cases e<;>simp[kD]
theorem Vf{P:Program}{gt:Nat→Option GA}{f:FuncId}{ts rs:List Ty}{F:DL ts→Option (DL rs)}(h:∀ d,F d=none):kZ P gt f (AN ts rs F id):=by
 refine⟨fun {R r X st G w dst args us K KP} hr _ _ _=>?_,BV _ _ _ _,yd _ _ _ _⟩;simp only[AN] at hr;split at hr
 ·split at hr
  ·rw[h] at hr;cases hr
  ·cases hr
 ·cases hr
inductive VL where
 |ex (e:Exit) (told:li)|AT (T:TypeId) (ts:List Ty)
def abJ:Exit→Exit→Bool
 |.normal,.normal=>true
 |.ret,.ret=>true
 |.exit i,.exit j=>Nat.beq i j
 |_,_=>false
theorem abK{e e':Exit}(h:abJ e e' = true):e=e':=by cases e<;>cases e'<;>simp_all[abJ]
def VL.tys:VL→List Ty
 |.ex _ told=>UQ told
 |.AT _ ts=>ts
@[reducible] def WL:List VL→Type
 |[]=>Empty
 |[v]=>DL v.tys
 |v::u::r=>DL v.tys⊕WL (u::r)
def VL.out(L:qr)(al:AL)(e:Exit)(s:St):(v:VL)→Option (DL v.tys)
 |.ex e' told=>bif abJ e e' then(rnd (L.with told) al s).map (Oe told) else none
 |.AT _ _=>none
def VL.pout(L:qr)(al:AL)(av:ae)(s:St):(v:VL)→Option (DL v.tys)
 |.ex _ _=>none
 |.AT T ts=>(match av with
  |.AH T' ls=>(bif Nat.beq T T' then(match rnd (L.with []) al s with|some _=>Qj ts ls|none=>none) else none)
  |_=>none)
def VL.dk{R:Type}:(v:VL)→DL v.tys→((e:Exit)→(vs:li)→PV vs→Option R)→(TypeId→List ag→Option R)→Option R
 |.ex e told,d,f,_=>f e told (toPV told d)
 |.AT T ts,d,_,g=>g T (Zf ts d)
def Yp(L:qr)(al:AL)(e:Exit)(s:St):(vs:List VL)→Option (WL vs)
 |[]=>none
 |[v]=>v.out L al e s
 |v::u::r=>(match v.out L al e s with|some o=>some (.inl o)|none=>(Yp L al e s (u::r)).map .inr)
def W8(L:qr)(al:AL)(av:ae)(s:St):(vs:List VL)→Option (WL vs)
 |[]=>none
 |[v]=>v.pout L al av s
 |v::u::r=>(match v.pout L al av s with|some o=>some (.inl o)|none=>(W8 L al av s (u::r)).map .inr)
def dkL:(vs:List VL)→Dk (WL vs)
 |[]=>fun x _ _=>x.elim
 |[v]=>fun x f g=>v.dk x f g
 |v::u::r=>fun x f g=>(match x with | .inl o=>v.dk o f g | .inr y=>dkL (u::r) y f g)
theorem UT{L:qr}{al:AL}{e:Exit}{s:St}{v:VL}{x:DL v.tys}(h:v.out L al e s=some x):
  ∃ told o,rnd (L.with told) al s=some o∧∀(R:Type) (f:(e:Exit)→(vs:li)→PV vs→Option R) g,v.dk x f g=f e told o:=by
 cases v with
 |ex e' told=>
  simp only[VL.out] at h;cases hb:abJ e e' with
  |false=>simp[hb] at h
  |true=>simp only[hb,aja] at h;obtain rfl:=abK hb;obtain⟨o,h1,rfl⟩:=aKa.1 h;exact⟨told,o,h1,fun R f g=>by simp only[VL.dk,Rj]⟩
 |AT T ts=>cases h
theorem Sq{L:qr}{al:AL}{e:Exit}{s:St}:∀{vs:List VL} {x:WL vs},Yp L al e s vs=some x→
  ∃ told o,rnd (L.with told) al s=some o∧∀(R:Type) (f:(e:Exit)→(vs:li)→PV vs→Option R) g,dkL vs (R:=R) x f g=f e told o
 |[],x,h=>by cases h
 |[v],x,h=>UT h
 |v::u::r,x,h=>by
  simp only[Yp] at h;split at h
  ·rename_i o ho
   simp only[OQ] at h;subst h;exact UT ho
  ·obtain⟨y,h1,rfl⟩:=aKa.1 h
   exact Sq (vs:=u::r) h1
theorem Rl{L:qr}{al:AL}{s:St}{av:ae}{v:VL}{x:DL v.tys}(h:v.pout L al av s=some x):
  ∃ T ls,av=.AH T ls∧wI ls=true∧rnd (L.with []) al s=some ()∧∀(R:Type) (f:(e:Exit)→(vs:li)→PV vs→Option R) g,v.dk x f g=g T ls:=by
 cases v with
 |ex e' told=>cases h
 |AT T ts=>
  simp only[VL.pout] at h;split at h
  ·rename_i T' ls
   cases hb:Nat.beq T T' with
   |false=>simp[hb] at h
   |true=>
    simp only[hb,aja] at h;obtain rfl:=Q4 hb;split at h
    ·rename_i u hu
     obtain⟨e1,e2⟩:=IZ h;exact⟨T,ls,rfl,e1,hu,fun R f g=>by simp only[VL.dk,e2]⟩
    ·cases h
  ·cases h
theorem Oz{L:qr}{al:AL}{s:St}{av:ae}:∀{vs:List VL} {x:WL vs},W8 L al av s vs=some x→
  ∃ T ls,av=.AH T ls∧wI ls=true∧rnd (L.with []) al s=some ()∧∀(R:Type) (f:(e:Exit)→(vs:li)→PV vs→Option R) g,dkL vs (R:=R) x f g=g T ls
 |[],x,h=>by cases h
 |[v],x,h=>Rl h
 |v::u::r,x,h=>by
  simp only[W8] at h;split at h
  ·rename_i o ho
   simp only[OQ] at h;subst h;exact Rl ho
  ·obtain⟨y,h1,rfl⟩:=aKa.1 h
   exact Oz (vs:=u::r) h1
def kL(L:qr)(vs:List VL)(c:PV L.cs)(l:PV L.vs→Option (WL vs))(e:Exit)(s:St):Option (WL vs):=
 match e with
 |.normal=>(rnd L (fY L.cs c) s).bind l
 |e=>Yp L (fY L.cs c) e s vs
def kLP(L:qr)(vs:List VL)(c:PV L.cs)(av:ae)(s:St):Option (WL vs):=W8 L (fY L.cs c) av s vs
def kR(L:qr)(vs:List VL)(c:PV L.cs)(s:St):Option (WL vs):=Yp L (fY L.cs c) .normal s vs
noncomputable def aev(id:Nat)(c:Code):Option Code:=
 Code.rec (motive:=fun _=>Option Code) none (fun _ _ _=>none)
  (fun _ _ x y=>match x with|some c=>some c|none=>y) (fun _ _ _ x y=>match x with|some c=>some c|none=>y)
  (fun i b x=>bif Nat.beq i id then(match b with | .loop c=>some c|_=>x) else x) (fun _ x=>x) (fun _ _ _ _ x y=>match x with|some c=>some c|none=>y)
  (fun _=>none) (fun _ x=>x) (fun _=>none) (fun _=>none) none (fun _=>none) c
noncomputable def EG(f:Func)(id:Nat):Code:=(aev id (rL f)).getD .skip
noncomputable def agt(id:Nat)(c:Code):Option (Array Oper):=
 Code.rec (motive:=fun _=>Option (Array Oper)) none (fun i ops d=>bif Nat.beq i id then some ops else none)
  (fun _ _ x y=>match x with|some c=>some c|none=>y) (fun _ _ _ x y=>match x with|some c=>some c|none=>y)
  (fun i b x=>x) (fun _ x=>x) (fun _ _ _ _ x y=>match x with|some c=>some c|none=>y)
  (fun _=>none) (fun _ x=>x) (fun _=>none) (fun _=>none) none (fun _=>none) c
noncomputable def qH(f:Func)(id:Nat):Array Oper:=(agt id (rL f)).getD #[]
noncomputable def afk(f:Func)(id:Nat):Code:=.block id (.loop (EG f id))
noncomputable def ags(f:Func)(id:Nat):Code:=.region id (qH f id) true
def YO(P:Program)(gt:Nat→Option GA):List (Code×lK)→Prop
 |[]=>True
 |p::r=>u9 P gt p.1 p.2∧YO P gt r
theorem we{P:Program}{E:tn}{c:Code}{l:List (Code×lK)}(e:yy E c=l)(h:YO P E.gt l):sY P E c:=by
 refine R9 e ?_;clear e;induction l with
 |nil=>intro x hx;cases hx
 |cons p r ih=>
  intro x hx;rcases ama.1 hx with rfl|hx
  ·exact h.1
  ·exact ih h.2 x hx
theorem aag{P:Program}{E:tn}(hE:Gj P E){id:Nat}{f:Func}{L:qr}{vs:List VL}{l:Nat→PV L.cs→PV L.vs→Option (WL vs)}(hb:sY P E (EG f id))(h0:∀ c v,l 0 c v=none)
  (h1:∀ k c v,l (k+1) c v=tx E (EG f id) (L.st c v) (kL L vs c (l k c)) (kLP L vs c)) (k:Nat):u9 P E.gt (afk f id) (xJ id L (l k) (dkL vs)):=
 ab5 hE (out:=fun c e s=>Yp L (fY L.cs c) e s vs) (pout:=kLP L vs) hb h0 (fun k c v=>by
   rw[h1]
   congr 1)
  (fun c e s x h=>Sq h) (fun c av s x h=>Oz h) k
theorem acq{P:Program}{E:tn}(hE:Gj P E){id:Nat}{f:Func}{L:qr}{vs:List VL}{F:PV L.cs→PV L.vs→Option (WL vs)}{ls:List (List Nat)}
  (hd:Eh (qH f id).toList (iX (qH f id).toList [])=true) (hc:jb (qH f id).toList (iX (qH f id).toList []) (qH f id).toList.length []=ls)
  (h1:∀ l∈ls,Kb (qH f id).toList l=true∧∀ c v,F c v=H6 E (qH f id).toList (iX (qH f id).toList []) l [] (L.st c v) (kR L vs c) (kLP L vs c)):
  u9 P E.gt (ags f id) (xJ (id+1000000) L F (dkL vs)):=
 aeK hE hd hc h1 (fun c s x h=>Sq h) (fun c av s x h=>Oz h)
def YQ{α:Type}(p:α→Prop):List α→Prop
 |[]=>True
 |a::r=>p a∧YQ p r
theorem Tq{α:Type}{p:α→Prop}:∀{l:List α},YQ p l→∀ a∈l,p a
 |[],_,_,h=>by cases h
 |b::r,hl,a,h=>by
  rcases ama.1 h with rfl|h
  ·exact hl.1
  ·exact Tq hl.2 a h
def aa{α β:Type}(f:β→α)(body:(β→α)→α):α:=body f
abbrev I:Ty:=.int .i64
abbrev U:Ty:=.int .u8
end Go.Fx
namespace Go.Fx
def ag.low:ag→Bool
 |.mT a=>Nat.blt a 1000000000000000000
 |.Ei a _ _ _=>Nat.blt a 1000000000000000000
 |.Ft a _ _ _ _=>Nat.blt a 1000000000000000000
 |.nse a _ _ _ _ _ _ _=>Nat.blt a 1000000000000000000
 |.Mo a _ _=>Nat.blt a 1000000000000000000
 |_=>true
def ae.low:ae→Bool
 |.one l=>l.low
 |.agg ls=>ls.all ag.low
 |.Lm vs=>vs.all fun p=>p.2.all ag.low
 |.AH _ ls=>ls.all ag.low
theorem TW{a v q:Nat}{x:ae}(h:x.low=true):x.dc true (Mb a v q)=false:=by
 have ne:∀{b:Nat},Nat.blt b 1000000000000000000=true→Nat.beq b (Mb a v q)=false:=fun {b} hb=>by rw[b6a] at hb;refine vw fun e=>?_;unfold Mb at e;omega
 have one:∀{l:ag},l.low=true→l.dc true (Mb a v q)=false:=fun {l} h=>by cases l<;>simp only[ag.dc,ag.low,Bool.true_and,cLa,Bool.false_and] at h ⊢<;>exact ne h
 have all:∀{ls:List ag},ls.all ag.low=true→ls.any (ag.dc true (Mb a v q))=false:=fun {ls} h=>by rw[aSa];intro l hl;rw[one (ana.1 h l hl)];simp
 cases x with
 |one l=>exact one h
 |agg ls=>exact all h
 |Lm vs=>simp only[ae.dc,ae.low] at h ⊢;rw[aSa];intro p hp;rw[all (ana.1 h p hp)];simp
 |AH t ls=>exact all h
def Ji(o:Nat)(args:List ae):Bool:=args.all fun x=>x.low&&!x.dc false o
def Ac(j o:Nat)(s:iF):iF where
 run dst args st K KP:=match (args[j]?).map ae.bP with
  |some (.Ei a sz i 0)=>(bif SE st a sz&&Ji o args then
   Gc st a i o fun s1=>s.run dst (args.set j (.one (.lw o 0))) s1 (fun v s2=>Bj s2 a o (K v)) KP else none)
  |some (.Ft a v sz i off)=>(bif SE st a sz&&Ji (obN a v) args&&Nat.beq v (st.dC a)&&Nat.blt off sz then
   Gc st a i (obN a v) fun s1=>s.run dst (args.set j (.one (.mT (Mb a v off)))) s1 (fun r s2=>Bj s2 a (obN a v) (K r)) KP else none)
  |_=>s.run dst args st K KP
 LP args st:=match (args[j]?).map ae.bP with
  |some (.Ei _ _ _ 0)=>[.all]
  |some (.Ft _ _ _ _ _)=>[.all]
  |_=>s.LP args st
theorem aac{j o:Nat}{s:iF}(h:po s):po (Ac j o s):=by
 intro R dst args st K KP;simp only[Ac];have key:∀(ID:List ae) (a o:Nat) (s1:St),s.run dst ID s1 (fun v s2=>Bj s2 a o (K v)) KP=(s.run dst ID s1 (fun v s2=>Bj s2 a o (oA v)) PJ).bind (se K KP):=fun ID a o s1=>by
  rw[h dst ID s1 (fun v s2=>Bj s2 a o (K v)) KP,h dst ID s1 (fun v s2=>Bj s2 a o (oA v)) PJ,a6a]
  congr 1
  funext u
  obtain⟨v,q,b⟩:=u;cases b with
  |true=>simp only[se,aja];exact Tj fun s=>rfl
  |false=>rfl
 split
 ·exact de (Js fun s1=>key _ _ _ s1) rfl
 ·exact de (Js fun s1=>key _ _ _ s1) rfl
 ·exact h dst args st K KP
theorem Ye{j o:Nat}{s:iF}(h:nz s):nz (Ac j o s):=by
 intro R dst args st K K' KP KP' hK hP;simp only[Ac] at hK ⊢;have key:∀(ID:List ae) (a o:Nat),(∀ v q,qZ [.all] st q→K v q=K' v q)→∀ s1,kv st s1→s1.eB=st.eB→
   s.run dst ID s1 (fun v s2=>Bj s2 a o (K v)) KP=s.run dst ID s1 (fun v s2=>Bj s2 a o (K' v)) KP':=fun ID a o hK s1 b1 r1=>
  h (fun v q hq=>Ka fun q' b2 r2=>hK v q' (qZ.any (b1.trans (hq.iG.trans b2)) (r2.trans (hq.eB.trans r1)))) (fun v q hq=>hP v q (b1.trans hq))
 split
 ·rename_i a sz i hl
  rw[hl] at hK;exact aR (KJ fun s1 b1 r1=>key _ _ _ hK s1 b1 r1) rfl
 ·rename_i a v sz i off hl
  rw[hl] at hK;exact aR (KJ fun s1 b1 r1=>key _ _ _ hK s1 b1 r1) rfl
 ·rename_i h1 h2
  refine h (fun v q hq=>hK v q (hq.mono fun p hp=>?_)) hP;split
  ·rename_i a sz i hl;exact absurd hl (h1 a sz i)
  ·rename_i a v sz i off hl;exact absurd hl (h2 a v sz i off)
  ·exact hp
theorem MV{G:Gh}:∀{args:List ae} {vs:List Value} {j:Nat} {x:ae} {u:Value},All2 (aO G) args vs→vs[j]? = some u→aO G x u→All2 (aO G) (args.set j x) vs
 |[],[],_,_,_,_,h,_=>by simp at h
 |a::r,v::vs,0,x,u,h,hj,hx=>by simp only[bda,OQ] at hj;subst hj;exact⟨hx,h.2⟩
 |a::r,v::vs,j+1,x,u,h,hj,hx=>⟨h.1,MV h.2 (by simpa using hj) hx⟩
 |[],_::_,_,_,_,h,_,_=>h.elim
 |_::_,[],_,_,_,h,_,_=>h.elim
theorem ab3{P:Program}{gt:Nat→Option GA}{f:FuncId}{j o:Nat}{s:iF}(h:Bc P gt f s):Bc P gt f (Ac j o s):=by
 intro R r X st G w dst args vs K KP hr zA hm RV ha;have key:∀{a i ob:Nat} {x:ae} {u:Value},vs[j]? = some u→Ji ob args=true→
   Gc st a i ob (fun s1=>s.run dst (args.set j x) s1 (fun v s2=>Bj s2 a ob (K v)) KP)=some r→(∀ s1 G1,YX X st G w a i ob s1 G1→aO G1 x u)→
   (callFunc f vs.toArray).run P w=.ok (.enter f vs.toArray) w∧Calls P f vs.toArray w fun e w'=>match e with
    |.returned v=>∃ av st' G',az X st' G' w'∧(∀ act,bO G st act→bO G' st' act)∧aO G' av v∧K av st' = some r
    |.panicked IM=>∃ v,IM=[{v,recovered:=false}]∧∃ av st' G',az X st' G' w'∧aO G' av v∧KP av st' = some r
    |.outgrown=>False:=fun {a i ob x u} hu Po mH hx=>by
  obtain⟨s1,G1,O,iH⟩:=Sp mH hm;have ha1:All2 (aO G1) args vs:=ha.vp fun y v hy hv=>by have:=ana.1 Po y hy;simp only[Q3,aOa] at this;exact O.OU y v this.2 (fun q=>TW this.1) hv
  obtain⟨h1,h2⟩:=h iH zA O.GF (RV.imp fun act ra=>O.eB act ra) (MV ha1 hu (hx s1 G1 O));refine⟨h1,h2.mono fun e w' he=>?_⟩;cases e with
  |returned v=>obtain⟨av,st',G',m',r',v',hk⟩:=he;obtain⟨hp1,If⟩:=Oc hm O.none;obtain⟨s4,G4,m4,r4,l4,hK⟩:=RH hk m' hp1 If;exact⟨av,s4,G4,m4,fun act ra=>r4 act (r' act (O.eB act ra)),l4 _ _ v',hK⟩
  |panicked IM=>obtain⟨v,e1,av,st',G',m',v',hk⟩:=he;exact⟨v,e1,av,st',G',m',v',hk⟩
  |outgrown=>exact he.elim
 have afg:∀{l:ag},(args[j]?).map ae.bP=some l→l≠.any→∃ u,vs[j]? = some u∧aS G l u:=fun {l} hl hG=>by
  rw[aKa] at hl;obtain⟨y,hy,he⟩:=hl;obtain⟨u,hu,hr⟩:=ha.vK hy;refine⟨u,hu,?_⟩;cases y with
  |one l'=>simp only[ae.bP] at he;rw[he] at hr;exact hr
  |_=>exact absurd he.symm hG
 simp only[Ac] at hr;split at hr
 ·rename_i a sz i hl
  cases hc:(SE st a sz&&Ji o args) with
  |false=>rw[hc] at hr;cases hr
  |true=>
   rw[hc,aja] at hr;simp only[Q3] at hc;obtain⟨u,hu,hru⟩:=afg hl (by simp)
   have mX:=hc.1;unfold SE at mX;split at mX
   ·rename_i A hA
    obtain rfl:=Q4 mX;exact key hu hc.2 hr fun s1 G1 O=>(O.lw 0 u).2 ⟨A,hA,hru⟩
   ·cases mX
 ·rename_i a v sz i off hl
  cases hc:(SE st a sz&&Ji (obN a v) args&&Nat.beq v (st.dC a)&&Nat.blt off sz) with
  |false=>rw[hc] at hr;cases hr
  |true=>
   rw[hc,aja] at hr;simp only[Q3] at hc;obtain⟨⟨⟨mX,Po⟩,hv⟩,Vl⟩:=hc;obtain rfl:=Q4 hv;rw[b6a] at Vl;obtain⟨u,hu,hru⟩:=afg hl (by simp)
   unfold SE at mX;split at mX
   ·rename_i A hA
    obtain rfl:=Q4 mX;refine key hu Po hr fun s1 G1 O=>O.acH A off u hA Vl ?_;have hw:∃ x∈args,x.bP=.Ft a (st.dC a) A.t.size i off∧aO G x u:=by rw[aKa] at hl;obtain⟨y,hy,he⟩:=hl;obtain⟨u',hu',hr'⟩:=ha.vK hy;rw[hu] at hu';cases hu';exact⟨y,a1a hy,he,hr'⟩
    obtain⟨x,hx,hxl,hxr⟩:=hw;have hlx:=ana.1 Po x hx;simp only[Q3,aOa] at hlx;have:=O.OU x u hlx.2 (fun q=>TW hlx.1) hxr;cases x with
    |one l=>simp only[ae.bP] at hxl;rw[hxl] at this;exact this
    |_=>cases hxl
   ·cases mX
 ·exact h hr zA hm RV ha
theorem Yf{P:Program}{gt:Nat→Option GA}{f:FuncId}{j o:Nat}{s:iF}(h:kZ P gt f s):kZ P gt f (Ac j o s):=⟨ab3 h.ok,aac h.det,Ye h.RI⟩
end Go.Fx
namespace Go.Fx
theorem az.WT{X:mS}{st:St}{G:Gh}{w:World}(hm:az X st G w){p q:Nat}{ls:List ag}(hpq:p≠q)(hp:st.dN p=some ls)(hq:st.dN q=none)(hb:ls.any ag.pR=false)
    (hX:∀ v,X.pin p≠some v) (hB:∀ j u,X.bv p j≠some u) {F:List (Bool×Nat)} (hF:∀ x∈F,st.dc x.1 x.2=false)
    (hl:(∀ a A,st.arr a=some A→∀ i o,A.md=.DK i o→o≠q)) (ada:F=[(false,q)]∨(F=[]∧G.φ q=G.φ p∧(G.pre q).length=(G.pre p).length)):
    ∃ G',az X {st with ci:=(q,ls)::Gr st.ci p} G' w∧(∀ act,bO G st act→bO G' {st with ci:=(q,ls)::Gr st.ci p} act)∧
      (∀ x v,(∀ y∈F,x.dc y.1 y.2=false)→aO G x v→aO G' x v)∧G'.φ q=G.φ p∧(G'.pre q).length=(G.pre p).length∧G'.φ p=G.φ p∧G'.pre p=G.pre p:=by
  let G':Gh:={G with φ:=fun o=>if o=q then G.φ p else G.φ o,pre:=fun o=>if o=q then G.pre p else G.pre o,post:=fun o=>if o=q then G.post p else G.post o}
  let s1:St:={st with ci:=(q,ls)::Gr st.ci p}
  have I2:∀ o,s1.dN o=if q=o then some ls else if p=o then none else st.dN o:=fun o=>by simp only[s1,St.dN,aq,qC]
  have mH:eW G st (false,p) (G.φ p):=⟨⟨ls,hp⟩,rfl⟩;have O4:wH X st s1 G G' w w (fun y=>y=(false,p)) (fun y=>y=(false,q)) F:=by
    refine {
             n:=rfl,ir:=fun _=>rfl,bl:=rfl,pn:=rfl,S:=rfl,bP:=fun lf v hlf hr=>?_,fm:=hF,sl:=hm.sl,dN:=fun o l h=>?_,arr:=fun a A hA=>.inr ⟨by simp,hA,rfl,rfl,fun _=>by simp,rfl,fun i o e=>?_⟩,
             gz:=fun y b hy hyo=>?_,qs:=fun y z b hy hz _ _=>hy.trans hz.symm,hv:=hm.hv,old:=fun _ _ _=>rfl,sz:=awa _,os:=rfl,tp:=rfl,out:=rfl,VJ:=fun o l ho hpo=>?_,VI:=fun a A _ hA=>⟨⟨A,hA⟩,rfl⟩}
    · rcases ada with rfl|⟨rfl,e1,e2⟩
      · refine aS.leF (G:=G) (G':=G') (F:=[(false,q)]) (fun _ _ h=>h) (fun o ho=>?_) (fun a _=>⟨rfl,awa _,fun _ _=>rfl⟩) hlf hr
        have:o≠q:=fun e=>ho (by rw[e];simp)
        simp[G',this]
      · cases lf with
        |lw o off=>
          by_cases e:o=q
          · subst e
            simp only[aS,G',ava] at hr ⊢;rw[hr,e1,e2]
          · simp only[aS,G',e,Q9] at hr ⊢;exact hr
        |eZ t d=>exact hr
        |PO t d off=>exact hr
        |ga t l=>exact hr
        |Ft a v' sz i off=>exact hr
        |nse a v' sz i off s2 j o2=>exact hr
        |_=>exact hr
    · rw[I2] at h
      by_cases e:q=o
      · subst e
        simp only[ava,OQ] at h;subst h;obtain⟨arr,elem,mid,g1,g2,g3⟩:=hm.ob p ls hp;refine .inl ⟨rfl,arr,elem,mid,by simp only[G',ava];exact g1,by simp only[G',ava];exact g2,?_⟩
        unfold ip at g3 ⊢;rw[vD _ _ _ _ hb] at g3 ⊢;refine g3.vp fun lf v hlm Cn=>?_;rcases ada with rfl|⟨rfl,e1,e2⟩
        · refine aS.leF (G:=G) (G':=G') (F:=[(false,q)]) (fun _ _ h=>h) (fun o ho=>?_) (fun a _=>⟨rfl,awa _,fun _ _=>rfl⟩) (fun y hy=>?_) Cn
          · have:o≠q:=fun e=>ho (by rw[e];simp)
            simp[G',this]
          · have hmo:=ss (hF y hy) hp 0
            rw[vD _ _ _ _ hb] at hmo;have:=aSa.1 hmo lf hlm;simpa using this
        · cases lf with
          |lw o off=>
            by_cases e:o=q
            · subst e
              simp only[aS,G',ava] at Cn ⊢;rw[Cn,e1,e2]
            · simp only[aS,G',e,Q9] at Cn ⊢;exact Cn
          |eZ t d=>exact Cn
          |PO t d off=>exact Cn
          |ga t l=>exact Cn
          |Ft a v' sz i off=>exact Cn
          |nse a v' sz i off s2 j o2=>exact Cn
          |_=>exact Cn
      · simp only[e,Q9] at h
        by_cases e2:p=o
        · simp[e2] at h
        · simp only[e2,Q9] at h
          have h1:o≠q:=fun h=>e h.symm;have h2:o≠p:=fun h=>e2 h.symm;exact .inr ⟨by simp[h1],by simp[h2],h,by simp[G',h1],by simp[G',h1],by simp[G',h1]⟩
    · have:o≠q:=hl a A hA i o e
      simp[G',this]
    · subst hy
      obtain⟨_,rfl⟩:=hyo;exact .inl ⟨(false,p),rfl,by simpa[G'] using mH⟩
    · have h1:p≠o:=fun e=>by
        subst e;rcases hpo with ⟨v,hv⟩|⟨j,u,hu⟩
        · exact hX v hv
        · exact hB j u hu
      have h2:q≠o:=fun e=>by rw[←e,hq] at ho;cases ho
      exact⟨by rw[I2,aza h2,aza h1];exact ho,by simpa using fun e=>h2 e.symm⟩
  refine⟨G',O4.ok hm,fun act=>O4.eB,fun x v hx hv=>O4.TR hx hv,by simp[G'],by simp[G'],?_,?_⟩
  · simp[G',hpq]
  · simp[G',hpq]
def HW(q:Nat)(l:List (Nat×jS)):Bool:=l.all fun p=>!p.2.Ky q
def EV(j o:Nat)(s:iF):iF where
 run dst args st K KP:=match (args[j]?).map ae.bP with
  |some (.lw p 0)=>(bif Nat.beq p o then s.run dst args st K KP else(match st.dN p with
   |some ls=>(bif Nat.ble 10000 p&&(st.dN o).isNone&&!st.dc false o&&!ls.any ag.pR&&args.all (fun x=>!x.dc false o)&&(look st.eB st.n).isNone&&(look st.eB (st.n+1)).isNone&&(look st.js st.n).isNone&&(look st.js (st.n+1)).isNone then
    s.run dst (args.set j (.one (.lw o 0))) {st with n:=st.n+2,eB:=(st.n,.one (.lw o 0))::(st.n+1,.one (.lw p 0))::st.eB,ci:=(o,ls)::Gr st.ci p}
     (fun v s2=>match s2.dN o,s2.eB with
      |some ls2,(a,.one (.lw o1 0))::(b,.one (.lw p1 0))::rest=>
       (bif Nat.beq a st.n&&Nat.beq b (st.n+1)&&Nat.beq o1 o&&Nat.beq p1 p&&(s2.dN p).isNone&&!ls2.any ag.pR&&HW p s2.cO&&HW p s2.fQ&&(look rest st.n).isNone&&(look rest (st.n+1)).isNone&&(look s2.js st.n).isNone&&(look s2.js (st.n+1)).isNone then
        K v {s2 with n:=st.n,eB:=rest,ci:=(p,ls2)::Gr s2.ci o} else none)
      |_,_=>none)
     (fun v s2=>KP v {s2 with n:=st.n,eB:=st.eB}) else none)
   |none=>none))
  |_=>s.run dst args st K KP
 LP args st:=match (args[j]?).map ae.bP with
  |some (.lw p 0)=>bif Nat.beq p o then s.LP args st else [.all]
  |_=>s.LP args st
theorem acr{j o:Nat}{s:iF}(h:po s):po (EV j o s):=by
 intro R dst args st K KP;simp only[EV];split
 ·rename_i p hl
  refine de (h dst args st K KP) ?_;split
  ·rename_i ls ho
   refine de ?_ rfl;rw[h dst _ _ _ _,h dst _ _ (fun v s2=>match s2.dN o,s2.eB with
     |some ls2,(a,.one (.lw o1 0))::(b,.one (.lw p1 0))::rest=>
      (bif Nat.beq a st.n&&Nat.beq b (st.n+1)&&Nat.beq o1 o&&Nat.beq p1 p&&(s2.dN p).isNone&&!ls2.any ag.pR&&HW p s2.cO&&HW p s2.fQ&&(look rest st.n).isNone&&(look rest (st.n+1)).isNone&&(look s2.js st.n).isNone&&(look s2.js (st.n+1)).isNone then
       oA v {s2 with n:=st.n,eB:=rest,ci:=(p,ls2)::Gr s2.ci o} else none)
     |_,_=>none) (fun v s2=>PJ v {s2 with n:=st.n,eB:=st.eB}),a6a]
   congr 1
   funext u
   obtain⟨v,q,b⟩:=u;cases b with
   |true=>
    simp only[se,aja];split
    ·exact de rfl rfl
    ·rfl
   |false=>rfl
  ·rfl
 ·exact h dst args st K KP
theorem aaV{j o:Nat}{s:iF}(h:nz s):nz (EV j o s):=by
 intro R dst args st K K' KP KP' hK hP;simp only[EV] at hK ⊢;split
 ·rename_i p hl
  rw[hl] at hK;cases hpo:Nat.beq p o with
  |true=>simp only[hpo,aja] at hK ⊢;exact h hK hP
  |false=>
   simp only[hpo,aqa] at hK ⊢;split
   ·rename_i ls ho
    refine aR (h (fun v q hq=>?_) (fun v q hq=>hP v _ ?_)) rfl
    ·split
     ·rename_i ls2 a o1 b p1 rest h1 h2
      refine aR (hK v _ (qZ.any ?_ ?_)) rfl
      ·exact⟨rfl,hq.iG.2.1,hq.iG.2.2.1,hq.iG.2.2.2⟩
      ·have:=hq.eB
       rw[h2] at this;simp only[aJa] at this;exact this.2.2
     ·rfl
    ·exact⟨rfl,hq.2.1,hq.2.2.1,hq.2.2.2⟩
   ·rfl
 ·rename_i h1
  refine h (fun v q hq=>hK v q (hq.mono fun p hp=>?_)) hP;split
  ·rename_i p hl;exact absurd hl (h1 p)
  ·exact hp
theorem QF{q:Nat}{l:List (Nat×jS)}(h:HW q l=true){a:Nat}{A:jS}(ha:look l a=some A):∀ i o,A.md=.DK i o→o≠q:=fun i o hm e=>by have:=ana.1 h _ (dX ha);subst e;simp[jS.Ky,hm] at this
theorem aaT{st:St}{i:Nat}(h:(look st.eB i).isNone=true)(h2:(look st.js i).isNone=true):st.ir i=none:=by
 unfold St.ir;have h:look st.eB i=none:=by simpa using h
 have h2:look st.js i=none:=by simpa using h2
 rw[h];exact h2
theorem aeN{P:Program}{gt:Nat→Option GA}{f:FuncId}{j o:Nat}{s:iF}(h:Bc P gt f s):Bc P gt f (EV j o s):=by
 intro R r X st G w dst args vs K KP hr zA hm RV ha;simp only[EV] at hr;split at hr
 ·rename_i p hl
  cases hpo:Nat.beq p o with
  |true=>rw[hpo,aja] at hr;exact h hr zA hm RV ha
  |false=>
   rw[hpo,aqa] at hr;split at hr
   ·rename_i ls Pp
    cases hc:(Nat.ble 10000 p&&(st.dN o).isNone&&!st.dc false o&&!ls.any ag.pR&&args.all (fun x=>!x.dc false o)&&(look st.eB st.n).isNone&&(look st.eB (st.n+1)).isNone&&(look st.js st.n).isNone&&(look st.js (st.n+1)).isNone) with
    |false=>rw[hc] at hr;cases hr
    |true=>
     rw[hc,aja] at hr;simp only[Q3,aOa] at hc;obtain⟨⟨⟨⟨⟨⟨⟨⟨c1,c2⟩,c3⟩,c4⟩,c5⟩,c6⟩,c7⟩,c8⟩,c9⟩:=hc;have abQ:=aZa c1;have wN:st.dN o=none:=by simpa using c2
     have hG:p≠o:=fun e=>by rw[e] at hpo;simp at hpo
     obtain⟨ahx,ahy⟩:=Oc hm wN;obtain⟨G1,m1,r1,v1,e1,e2,e3,e4⟩:=hm.WT (F:=[(false,o)]) hG Pp wN c4 (fun v hv=>by have:=X.pl p v hv;omega) (fun j u hu=>by have:=X.bl p j u hu;omega) (fun x hx=>by rw[Q7.1 hx];exact c3)
      (fun a A hA i o' vm=>Fp c3 hA vm) (.inl rfl)
     obtain⟨u,hu,hru⟩:∃ u,vs[j]? = some u∧aS G (.lw p 0) u:=by
      rw[aKa] at hl;obtain⟨y,hy,he⟩:=hl;obtain⟨u,hu,hr'⟩:=ha.vK hy;refine⟨u,hu,?_⟩;cases y with
      |one l'=>simp only[ae.bP] at he;rw[he] at hr';exact hr'
      |_=>cases he
     have hu0:u=.pointer (some ⟨G.φ p,(G.pre p).length+0,none⟩):=hru;have hro:aS G1 (.lw o 0) u:=by simp only[aS,e1,e2];exact hu0
     have ahA:aS G1 (.lw p 0) u:=by simp only[aS,e3,e4];exact hu0
     have ha1:All2 (aO G1) args vs:=ha.vp fun y v hy hv=>v1 y v (fun z hz=>by
      rw[Q7.1 hz];have:=ana.1 c5 y hy;simpa using this) hv
     generalize hs1:({st with n:=st.n+2,eB:=(st.n,.one (.lw o 0))::(st.n+1,.one (.lw p 0))::st.eB,ci:=(o,ls)::Gr st.ci p}:St)=s1 at hr
     have m1':az X s1 G1 w:=by rw[←hs1];exact m1.Yg rfl rfl rfl rfl rfl rfl
     have Zu:∀ act,bO G st act→bO G1 s1 {tmps:=act.tmps.push u |>.push u,defers:=act.defers}:=fun act ra=>by
      have rb:=r1 act ra;have mX:act.tmps.size=st.n:=ra.2.1;refine⟨rb.1,by rw[←hs1];simp[mX],fun i x hx=>?_⟩
      rw[←hs1] at hx;simp only[St.ir,aq] at hx;by_cases i1:st.n=i
      ·subst i1
       simp only[ava,OQ] at hx;subst hx;have:((act.tmps.push u).push u).getD st.n undef=u:=by rw[aBa,bfa,aza (by simp;omega),bfa,a7a mX.symm];rfl
       rw[this];exact hro
      ·by_cases i2:st.n+1=i
       ·subst i2
        simp only[i1,Q9,ava,OQ] at hx;subst hx;have:((act.tmps.push u).push u).getD (st.n+1) undef=u:=by rw[aBa,bfa,a7a (by simp;omega)];rfl
        rw[this];exact ahA
       ·simp only[i1,i2,Q9] at hx
        have hg:((act.tmps.push u).push u).getD i undef=act.tmps.getD i undef:=by rw[aBa,bfa,aza (by simp;omega),bfa,aza (by omega),←aBa]
        rw[hg];exact rb.2.2 i x hx
     obtain⟨h1,h2⟩:=h hr zA m1' (RV.imp' _ fun act ra=>Zu act ra) (MV ha1 hu (show aO G1 (.one (.lw o 0)) u from hro))
     refine⟨h1,h2.mono fun e w' he=>?_⟩;cases e with
     |outgrown=>exact he.elim
     |panicked IM=>obtain⟨v,q1,av,st',G',m',v',hk⟩:=he;exact⟨v,q1,av,{st' with n:=st.n,eB:=st.eB},G',m'.Yg rfl rfl rfl rfl rfl rfl,v',hk⟩
     |returned v=>
      obtain⟨av,s2,G',m',r',v',hk⟩:=he;split at hk
      ·rename_i ls2 a o1 b p1 rest q1 q2
       cases hd:(Nat.beq a st.n&&Nat.beq b (st.n+1)&&Nat.beq o1 o&&Nat.beq p1 p&&(s2.dN p).isNone&&!ls2.any ag.pR&&HW p s2.cO&&HW p s2.fQ&&(look rest st.n).isNone&&(look rest (st.n+1)).isNone&&(look s2.js st.n).isNone&&(look s2.js (st.n+1)).isNone) with
       |false=>rw[hd] at hk;cases hk
       |true=>
        rw[hd,aja] at hk;simp only[Q3,aOa] at hd;obtain⟨⟨⟨⟨⟨⟨⟨⟨⟨⟨⟨d1,d2⟩,d3⟩,d4⟩,d5⟩,d6⟩,d7⟩,d8⟩,d9⟩,d10⟩,d11⟩,d12⟩:=hd;obtain rfl:=Q4 d1;obtain rfl:=Q4 d2;obtain rfl:=Q4 d3;obtain rfl:=Q4 d4;have hnp:s2.dN p1=none:=by simpa using d5
        have frame:∀ act,bO G st act→bO G' s2 {tmps:=act.tmps.push u |>.push u,defers:=act.defers}:=fun act ra=>r' _ (Zu act ra);have lG:G'.φ p1=G'.φ o1∧(G'.pre p1).length=(G'.pre o1).length:=by
         obtain⟨act,ra⟩:=RV;have rf:=frame act ra;have k1:=rf.2.2 st.n (.one (.lw o1 0)) (by simp only[St.ir,q2,aq,ava])
         have k2:=rf.2.2 (st.n+1) (.one (.lw p1 0)) (by simp only[St.ir,q2,aq];rw[aza (by omega)];simp)
         have mX:act.tmps.size=st.n:=ra.2.1;have g1:((act.tmps.push u).push u).getD st.n undef=u:=by rw[aBa,bfa,aza (by simp;omega),bfa,a7a mX.symm];rfl
         have g2:((act.tmps.push u).push u).getD (st.n+1) undef=u:=by rw[aBa,bfa,a7a (by simp;omega)];rfl
         rw[g1] at k1;rw[g2] at k2;have k1:u=.pointer (some ⟨G'.φ o1,(G'.pre o1).length+0,none⟩):=k1;have k2:u=.pointer (some ⟨G'.φ p1,(G'.pre p1).length+0,none⟩):=k2;rw[k1] at k2;simp only[Value.pointer.injEq,OQ,Addr.mk.injEq,a_a] at k2;exact⟨k2.1.symm,by omega⟩
        have Vk:o1≠p1:=fun e=>hG e.symm;obtain⟨G2,m2,r2,v2,_⟩:=m'.WT (F:=[]) (p:=o1) (q:=p1) Vk q1 hnp d6 ahx ahy (fun x hx=>by cases hx)
         (fun a A hA i o' vm=>by
          unfold St.arr at hA;cases hl:look s2.cO a with
          |some B=>rw[hl] at hA;cases hA;exact QF d7 hl i o' vm
          |none=>rw[hl] at hA;exact QF d8 hA i o' vm) (.inr ⟨rfl,lG⟩)
        refine⟨av,{s2 with n:=st.n,eB:=rest,ci:=(p1,ls2)::Gr s2.ci o1},G2,m2.Yg rfl rfl rfl rfl rfl rfl,fun act ra=>?_,v2 av v (fun y hy=>by cases hy) v',hk⟩
        have rf:=frame act ra;have mX:act.tmps.size=st.n:=ra.2.1;refine⟨ra.1.trans (hm.ds.trans m2.ds.symm),mX,fun i x hx=>?_⟩;have hx:({s2 with n:=st.n,eB:=rest,ci:=(p1,ls2)::Gr s2.ci o1}:St).ir i=some x:=hx
        have i1:i≠st.n:=fun e=>by rw[e] at hx;rw[aaT (st:={s2 with n:=st.n,eB:=rest,ci:=(p1,ls2)::Gr s2.ci o1}) d9 d11] at hx;cases hx
        have i2:i≠st.n+1:=fun e=>by rw[e] at hx;rw[aaT (st:={s2 with n:=st.n,eB:=rest,ci:=(p1,ls2)::Gr s2.ci o1}) d10 d12] at hx;cases hx
        have hx2:s2.ir i=some x:=by simp only[St.ir,q2,aq];rw[aza (bBa i1),aza (bBa i2)];exact hx
        have k:=rf.2.2 i x hx2;have hg:((act.tmps.push u).push u).getD i undef=act.tmps.getD i undef:=by rw[aBa,bfa,aza (by simp;omega),bfa,aza (by omega),←aBa]
        rw[hg] at k;exact v2 x _ (fun y hy=>by cases hy) k
      ·cases hk
   ·cases hr
 ·exact h hr zA hm RV ha
theorem aaW{P:Program}{gt:Nat→Option GA}{f:FuncId}{j o:Nat}{s:iF}(h:kZ P gt f s):kZ P gt f (EV j o s):=⟨aeN h.ok,acr h.det,aaV h.RI⟩
end Go.Fx
namespace Go.Fx
structure Tb(P:Program) where
 n:Nat
 i:TI
 ok:As P n i
def tbs{P:Program}:List (Tb P)→List (Nat×TI)
 |[]=>[]
 |t::r=>(t.n,t.i)::tbs r
theorem abi{P:Program}:∀ l:List (Tb P),abv P (tbs l)
 |[]=>trivial
 |t::r=>⟨t.ok,abi r⟩
structure Prg where
 P:Program
 gt:Nat→Option GA
 iE:List (Tb P)
 mix:P.follows .mixedOrders=true
structure Cl(A:Prg) where
 f:Nat
 s:iF
 ok:kZ A.P A.gt f s
def Cl.ahF{A:Prg}(c:Cl A)(j o:Nat):Cl A:=⟨c.f,Ac j o c.s,Yf c.ok⟩
def Cl.uL{A:Prg}(c:Cl A)(j o:Nat):Cl A:=⟨c.f,EV j o c.s,aaW c.ok⟩
def cls{A:Prg}:List (Cl A)→List (Nat×iF)
 |[]=>[]
 |c::r=>(c.f,c.s)::cls r
theorem Zb{A:Prg}:∀ l:List (Cl A),SS A.P A.gt (cls l)
 |[]=>trivial
 |c::r=>⟨c.ok,Zb r⟩
def Gd(A:Prg)(f:Nat){T:Type}(S:T→iF):Type:={r:T // kZ A.P A.gt f (S r)}
def Gd.cl{A:Prg}{f:Nat}{T:Type}{S:T→iF}(r:Gd A f S):Cl A:=⟨f,S r.1,r.2⟩
structure mn where
 L:qr
 V:List VL
 F:Nat→PV L.cs→PV L.vs→Option (WL V)
def mn.BU(d:mn)(id q:Nat):lK:=xJ id d.L (d.F q) (dkL d.V)
structure LpB where
 id:Nat
 s:lK
 c:A6 s
def lp(id:Nat)(d:mn)(q:Nat):LpB:=⟨id,d.BU id q,QC _ _ _ _⟩
def rg(id:Nat)(d:mn):LpB:=⟨id+1000000,d.BU (id+1000000) 0,QC _ _ _ _⟩
def lps:List LpB→List (Nat×lK)
 |[]=>[]
 |c::r=>(c.id,c.s)::lps r
theorem aak:∀ l:List LpB,SR (lps l)
 |[]=>trivial
 |c::r=>⟨c.c,aak r⟩
structure Ev(A:Prg) where
 cs:List (Cl A)
 ls:List LpB
 on:List (Nat×Nat)
def Ev.e{A:Prg}(E:Ev A):tn:=ac4 A.gt (tbs A.iE) (cls E.cs) (lps E.ls) E.on
theorem Ev.ok{A:Prg}(E:Ev A):Gj A.P E.e:=ad0 A.mix (abi _) (Zb _) (aak _)
structure Cd(A:Prg) where
 c:Code
 s:lK
 ok:u9 A.P A.gt c s
def cds{A:Prg}:List (Cd A)→List (Code×lK)
 |[]=>[]
 |c::r=>(c.c,c.s)::cds r
theorem RG{A:Prg}:∀ l:List (Cd A),YO A.P A.gt (cds l)
 |[]=>trivial
 |c::r=>⟨c.ok,RG r⟩
noncomputable def nV{A:Prg}(E:Ev A)(f:Func)(id:Nat)(d:mn)(q:Nat)(l:List (Cd A))(hb:yy E.e (EG f id)=cds l:=by kernel_rfl)(h0:∀ c v,d.F 0 c v=none:=by intros;rfl)
  (h1:∀ q c v,d.F (q+1) c v=tx E.e (EG f id) (d.L.st c v) (kL d.L d.V c (d.F q c)) (kLP d.L d.V c):=by intros;kernel_rfl):Cd A:=
 ⟨afk f id,d.BU id q,aag E.ok (we hb (RG l)) h0 h1 q⟩
noncomputable def rgC{A:Prg}(E:Ev A)(f:Func)(id:Nat)(d:mn)(ls:List (List Nat))(hd:Eh (qH f id).toList (iX (qH f id).toList [])=true:=by kernel_rfl)(hc:jb (qH f id).toList (iX (qH f id).toList []) (qH f id).toList.length []=ls:=by kernel_rfl)
  (h1:YQ (fun l=>Kb (qH f id).toList l=true∧∀ c v,d.F 0 c v=H6 E.e (qH f id).toList (iX (qH f id).toList []) l [] (d.L.st c v) (kR d.L d.V c) (kLP d.L d.V c)) ls:=by(repeat' first|exact trivial|refine⟨?_,?_⟩);all_goals intros;all_goals kernel_rfl):Cd A:=
 ⟨ags f id,d.BU (id+1000000) 0,acq E.ok hd hc (Tq h1)⟩
def wD{A:Prg}(E:Ev A)(k:FuncId)(f:Func)(hf:A.P.funcs[k]? = some f)(Bs:∀ args w,(callFunc k args).run A.P w=.ok (.enter k args) w)(ts rs:List Ty)(F:DL ts→Option (DL rs))(l:List (Cd A))
  (hb:f.body.isSome=true:=by kernel_rfl) (hl:yy E.e (rL f)=cds l:=by kernel_rfl) (hn:Nat.ble ts.length f.ntmps=true:=by kernel_rfl)
  (h:∀ d,F d=tx E.e (rL f) (stD f.ntmps ts d) (kD E.e f.results.toList rs) (fun _ _=>none):=by intros;kernel_rfl):Cl A:=
 ⟨k,AN ts rs F id,X6 E.ok hf Bs hb (we hl (RG l)) hn h⟩
structure CV where
 L:qr
 V:List VO
 F:PV L.cs→PV L.vs→Option (WO V)
def lB{A:Prg}(E:Ev A)(k:FuncId)(f:Func)(hf:A.P.funcs[k]? = some f)(Bs:∀ args w,(callFunc k args).run A.P w=.ok (.enter k args) w)(res:List Nat)(d:CV)(l:List (Cd A))
  (hb:f.body.isSome=true:=by kernel_rfl) (hl:yy E.e (rL f)=cds l:=by kernel_rfl) (hn:Nat.beq f.ntmps d.L.n=true:=by kernel_rfl) (Bw:Jz f.results.toList.length=res:=by kernel_rfl)
  (h:∀ c v,d.F c v=tx E.e (rL f) (d.L.st c v) (kO E.e f.results.toList d.L d.V c) (kP d.L d.V c):=by intros;kernel_rfl):Cl A:=
 ⟨k,lZ d.L d.F (zQ res d.V),Zy E.ok hf Bs hb (we hl (RG l)) hn Bw h⟩
end Go.Fx
namespace Go.Fx
def tb{P:Program}(n:TypeId)(i:TypeInfo){d:TypeDesc}(hu:P.underlying n=some d)(ti:TI)(h1:P.info? n=some i:=by kernel_rfl)(h3:i.zero.isSome=true:=by kernel_rfl)(h4:(i.zero.getD undef).cells.toList=ti.zero:=by kernel_rfl)
 (h5:(Xs ti.iQ d&&Nat.beq i.size ti.size&&Nat.beq i.bytes ti.bytes&&(ti.iQ.agg||Nat.beq ti.size 1)&&Nat.beq ti.zero.length ti.size)=true:=by kernel_rfl) (h6:abI P n ti=true:=by kernel_rfl):Tb P:=⟨n,ti,agP h1 hu h3 h4 h5 h6⟩
abbrev rI(i:Nat):Pl×mP:=(.r i,.d I)
abbrev rD(i:Nat)(t:Ty):Pl×mP:=(.r i,.d t)
abbrev rP(i o:Nat):Pl×mP:=(.r i,.lit (.lw o 0))
abbrev lI(o j:Nat):Pl×mP:=(.l o j,.d I)
abbrev lD(o j:Nat)(t:Ty):Pl×mP:=(.l o j,.d t)
abbrev lN(o j:Nat):Pl×mP:=(.l o j,.lit .nil)
abbrev lF(o j:Nat)(t:Ty):Pl×mP:=(.l o j,.h .dV t)
abbrev lU(o j:Nat)(t:Ty):Pl×mP:=(.l o j,.h .bx t)
abbrev lH(m:Md)(o j:Nat)(t:Ty):Pl×mP:=(.l o j,.h m t)
end Go.Fx
