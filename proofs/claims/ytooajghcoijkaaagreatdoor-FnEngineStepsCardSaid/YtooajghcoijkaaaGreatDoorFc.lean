/- Proved here: laws.FnEngineSteps returns true at every input (the tied card), no condition beyond the card. -/
import Derived.Test.YtooajghcoijkaaaGreatDoorFb
set_option linter.unusedVariables false
set_option linter.unusedSimpArgs false
set_option linter.unusedSectionVars false
set_option linter.defProp false
set_option maxRecDepth 100000
namespace Go.Fx
structure zw(st s:St):Prop where
 iZ:ky st s
 eH:s.eH=st.eH
 cp:s.cp=st.cp
 EM:s.EM=st.EM
theorem zw.refl(st:St):zw st st:=⟨.refl _,rfl,rfl,rfl⟩
theorem zw.trans{a b c:St}(h:zw a b)(k:zw b c):zw a c:=⟨h.iZ.trans k.iZ,k.eH.trans h.eH,k.cp.trans h.cp,k.EM.trans h.EM⟩
theorem zw.at{st s:St}(h:zw st s)(p:Pl):s.at p=st.at p:=by
 have hr:∀ i,s.iz i=st.iz i:=fun i=>by simp only[St.iz,h.eH,h.iZ.2.1]
 have ho:∀ o,s.dT o=st.dT o:=fun o=>by simp only[St.dT,h.cp]
 have Bj:∀ o j l,s.res o j l=st.res o j l:=fun o j l=>by cases l<;>simp[St.res,h.iZ.2.2.1]
 cases p with
 |r i=>simp only[St.at,St.uN,hr]
 |q i j=>simp only[St.at,St.uN,hr]
 |l o j=>simp only[St.at,ho,Bj]
theorem I9{st s:St}{l:ai}(h:st.zd l=some s):zw st s:=by
 unfold St.zd at h;split at h
 ·split at h
  ·rename_i A _
   cases hs:A.sh with
   |true=>simp only[hs,aja,Ob] at h;subst h;exact .refl _
   |false=>
    cases hw:A.gK with
    |false=>simp[hs,hw] at h
    |true=>simp only[hs,hw,aoa,aja,Ob] at h;subst h;exact⟨⟨rfl,rfl,rfl,rfl⟩,rfl,rfl,rfl⟩
  ·split at h
   ·rename_i A _
    cases hs:A.sh<;>simp[hs] at h;subst h;exact .refl _
   ·cases h
 ·cases h;exact .refl _
theorem Cn:∀{ls:List ai} {st s:St},st.vF ls=some s→zw st s
 |[],st,s,h=>by cases h;exact .refl _
 |l::r,st,s,h=>by
  simp only[St.vF] at h;split at h
  ·rename_i q hq;exact(I9 hq).trans (Cn h)
  ·cases h
theorem Ja{st s:St}{v:af}(h:v.qR st=some s):zw st s:=by
 unfold af.qR at h;split at h
 ·exact I9 h
 ·exact Cn h
 ·cases h
 ·exact Cn h
theorem qQ:∀{ps:lm} {st s:St},iT ps st=some s→zw st s
 |[],st,s,h=>by simp only[iT,Ob] at h;subst h;exact .refl _
 |(p,sp)::r,st,s,h=>by
  cases sp with
  |d t=>
   simp only[iT] at h;split at h
   ·rename_i q hq;exact(Ja hq).trans (qQ h)
   ·cases h
  |_=>exact qQ (ps:=r) h
theorem xL{W:List qj}:∀{ps:lm} {st s:St},iT ps st=some s→(∀ p∈ps,∀ q∈(st.at p.1).uk,q∈W)→rk W st s
 |[],st,s,h,_=>by simp only[iT,Ob] at h;subst h;exact .refl _ _
 |(p,sp)::r,st,s,h,hW=>by
  have tail:∀{s1:St},zw st s1→∀ p∈r,∀ q∈(s1.at p.1).uk,q∈W:=fun ha p hp q hq=>hW p (Q8 _ hp) q (by rw[←ha.at];exact hq)
  cases sp with
  |d t=>
   simp only[iT] at h;split at h
   ·rename_i s1 h1
    exact((vG h1).mono fun q hq=>hW _ (awa ..) q hq).trans (xL h (tail (Ja h1)))
   ·cases h
  |_=>exact xL (ps:=r) h (tail (.refl st))
theorem Hu{s:St}{p:Pl}{sp:mT}{x:sp.V}{b:AL}(h:zZ s p sp=some (x,b)):∀ nm j0 A,(nm,j0,A)∈b→nm=p.key∧sp.arr x=some A∧(match j0 with|some a=>s.at p=.one (.mX a)|none=>s.at p=.one .nil):=by
 cases sp with
 |any=>simp only[zZ,Ob,aia] at h;obtain⟨_,rfl⟩:=h;intro _ _ _ hm;cases hm
 |d t=>
  simp only[zZ] at h;split at h
  ·simp only[Ob,aia] at h;obtain⟨_,rfl⟩:=h;intro _ _ _ hm;cases hm
  ·cases h
 |lit l=>
  simp only[zZ] at h;split at h
  ·rename_i l' _
   cases he:wv l l'<;>simp[he] at h;subst h;intro _ _ _ hm;cases hm
  ·cases h
 |h m t=>
  simp only[zZ] at h;split at h
  ·rename_i vj
   cases hw:m.RP with
   |false=>simp[hw] at h
   |true=>simp only[hw,aja,Ob,aia] at h;obtain⟨rfl,rfl⟩:=h;intro nm j0 A hm;simp only[Q7,aia] at hm;obtain⟨rfl,rfl,rfl⟩:=hm;exact⟨rfl,rfl,vj⟩
  ·rename_i a vj
   split at h
   ·rename_i A hA
    cases hs:(A.sh||!m.lK A.md) with
    |true=>simp[hs] at h
    |false=>
     simp only[hs,aoa] at h;split at h
     ·simp only[Ob,aia] at h
      obtain⟨rfl,rfl⟩:=h;intro nm j0 B hm;simp only[Q7,aia] at hm;obtain⟨rfl,rfl,rfl⟩:=hm;exact⟨rfl,rfl,vj⟩
     ·cases h
   ·cases h
  ·cases h
theorem Ez{s:St}:∀{ps:lm} {v:PV ps} {b:AL},lC s ps=some (v,b)→∀ nm j0 A,(nm,j0,A)∈b→∃ p∈ps,nm=p.1.key∧(∃ m t,p.2=.h m t)∧(match j0 with|some a=>s.at p.1=.one (.mX a)|none=>s.at p.1=.one .nil)
 |[],v,b,h,nm,j0,A,hm=>by simp only[lC,Ob,aia] at h;obtain⟨_,rfl⟩:=h;cases hm
 |(p,sp)::r,v,b,h,nm,j0,A,hm=>by
  simp only[lC] at h;split at h
  ·rename_i x a1 h1
   split at h
   ·rename_i xs b1 h2
    simp only[Ob,aia] at h;obtain⟨_,rfl⟩:=h;rcases ana.1 hm with hm|hm
    ·obtain⟨e1,e2,e3⟩:=Hu h1 nm j0 A hm
     exact⟨(p,sp),awa ..,e1,(A0 e2).2,e3⟩
    ·obtain⟨q,hq,e⟩:=Ez h2 nm j0 A hm
     exact⟨q,Q8 _ hq,e⟩
   ·cases h
  ·cases h
theorem uy{α β:Type}{f:Nat×α→β}:∀{l:List (Nat×α)} {o:Nat} {x:α},(l.map (·.1)).Nodup→(o,x)∈l→look (l.map fun p=>(p.1,f p)) o=some (f (o,x))
 |p::r,o,x,hn,h=>by
  simp only[aHa,aw];rw[aHa,a3a] at hn;by_cases e:p.1=o
  ·rcases ala.1 h with h|h
   ·rw[a8a e,←h]
   ·exact absurd (aIa (f:=(·.1)) h) (by rw[←e];exact hn.1)
  ·rw[aBa e]
   rcases ala.1 h with h|h
   ·exact absurd (by rw[←h]) e
   ·exact uy hn.2 h
theorem J5{α:Type}:∀{l:List (Nat×α)} {o:Nat},o∉l.map (·.1)→look l o=none
 |[],o,_=>rfl
 |(k,v)::r,o,h=>by rw[aw];simp only[aHa,ala,cia] at h;rw[aBa (fun e=>h.1 e.symm)];exact J5 h.2
theorem Ej:∀{b:List Nat} {l:List (Nat×jV)} {a:Nat},look (lu b l) a=if a∈b then none else look l a
 |[],l,a=>by simp[lu]
 |x::r,l,a=>by
  simp only[lu,Ej (b:=r),qJ,ala];by_cases h1:a∈r
  ·simp[h1]
  ·by_cases h2:a=x
   ·subst h2;simp[h1]
   ·simp[h1,h2,cfa (a:=x)]
theorem Aw{tl:List (Nat×Nat×ai)}{cs:lm}{o:Nat}:∀{ls:List ai} {j:Nat},(wO tl cs o j ls).length=ls.length
 |[],j=>rfl
 |l::r,j=>by simp[wO,Aw (ls:=r)]
theorem Cg{tl:List (Nat×Nat×ai)}{cs:lm}{o:Nat}:∀{ls:List ai} {i j:Nat},(wO tl cs o i ls)[j]? = (ls[j]?).map fun l=>(match et tl o (i+j) with|some x=>x|none=>bif zr o (i+j) cs then l else .any)
 |[],i,j=>by simp[wO]
 |l::r,i,0=>by simp[wO]<;>rfl
 |l::r,i,j+1=>by simp only[wO,bua];rw[Cg (ls:=r),show i+1+j=i+(j+1) by omega]
theorem Eo{tl:List (Nat×Nat×ai)}{k:Nat}:∀{n j:Nat},(LB tl k j n).length=n
 |0,j=>rfl
 |n+1,j=>by simp[LB,Eo (n:=n)]
theorem Tl{tl:List (Nat×Nat×ai)}{k:Nat}:∀{n i j:Nat},j<n→(LB tl k i n)[j]? = some (match et tl k (i+j) with|some x=>x|none=>.any)
 |n+1,i,0,_=>by simp[LB]<;>rfl
 |n+1,i,j+1,h=>by simp only[LB,bua];rw[Tl (n:=n) (by omega),show i+1+j=i+(j+1) by omega]
theorem D7{o j:Nat}:∀{ps:lm},zr o j ps=true↔∃ s,(Pl.l o j,s)∈ps
 |[]=>by simp[zr]
 |(.r i,s)::r=>by simp only[zr,D7 (ps:=r),ala,aia,reduceCtorEq,false_and,boa]
 |(.q i k,s)::r=>by simp only[zr,D7 (ps:=r),ala,aia,reduceCtorEq,false_and,boa]
 |(.l o' j',s)::r=>by
  simp only[zr,a6a,Q3,D7 (ps:=r),ala,aia,Pl.l.injEq];constructor
  ·rintro(⟨h1,h2⟩|⟨x,h⟩)
   ·exact⟨s,.inl ⟨⟨(Q4 h1).symm,(Q4 h2).symm⟩,rfl⟩⟩
   ·exact⟨x,.inr h⟩
  ·rintro⟨x,⟨⟨rfl,rfl⟩,_⟩|h⟩
   ·exact .inl ⟨by simp,by simp⟩
   ·exact .inr ⟨x,h⟩
theorem wr{dst:Nat}{pin:List Nat}{news:List (Nat×Nat×Nat)}:∀{ps:lm} {v:PV ps} {o j:Nat} {lf:ai},et (ju dst pin news ps v) o j=some lf→∃ s,(Pl.l o j,s)∈ps
 |[],v,o,j,lf,h=>by cases h
 |(.r i,s)::r,v,o,j,lf,h=>by obtain⟨x,hx⟩:=wr (ps:=r) (v:=v.2) h;exact⟨x,Q8 _ hx⟩
 |(.q i k,s)::r,v,o,j,lf,h=>by obtain⟨x,hx⟩:=wr (ps:=r) (v:=v.2) h;exact⟨x,Q8 _ hx⟩
 |(.l o' j',s)::r,v,o,j,lf,h=>by
  simp only[ju,et] at h;cases hb:(Nat.beq o' o&&Nat.beq j' j) with
  |true=>simp only[Q3] at hb;rw[Q4 hb.1,Q4 hb.2];exact⟨s,awa ..⟩
  |false=>simp only[hb,aoa] at h;obtain⟨x,hx⟩:=wr (ps:=r) (v:=v.2) h;exact⟨x,Q8 _ hx⟩
theorem DJ:∀{l:List af} {i k:Nat} {v:af},look (pv i l) k=some v→v∈l
 |x::r,i,k,v,h=>by
  simp only[pv,aw] at h;by_cases e:i=k
  ·simp only[e,ava,Ob] at h;subst h;exact awa ..
  ·simp only[e,aka] at h;exact Q8 _ (DJ h)
theorem JT{q:qj}{v:af}:∀{l:List af},v∈l→q∈v.uk→q∈nJ l
 |x::r,h,hq=>by
  rcases ala.1 h with rfl|h
  ·exact aya _ hq
  ·exact ara _ (JT h hq)
end Go.Fx
namespace Go.Fx
section
variable {L:qv} {args:List af} {st:St} {e:aaF L}
structure EO(L:qv)(args:List af)(st:St)(e:aaF L)(s1 s:St):Prop where
 sc:iT L.cs (CS L.n args st)=some s1
 sv:iT L.vs s1=some s
 rc:lC s L.cs=some (e.c,e.a)
 rv:lC s L.vs=some (e.v,e.b)
 al:Aj (e.a++e.b)=true
 ob:y4 L.cp s=true
 ON:yY L=true
 len:args.length≤L.n
 q:qOk L.vs s=true
 pin:ZX L.pin e.b=true
 st':e.st = {st with cT:=s.cT}
 zF:zw (CS L.n args st) s
theorem VP(h:YF L args st=some e):∃ s1 s,EO L args st e s1 s:=by
 unfold YF at h;split at h
 ·cases h
 ·rename_i s1 h1
  split at h
  ·cases h
  ·rename_i s h2
   split at h
   ·cases h
   ·rename_i c a h3
    split at h
    ·cases h
    ·rename_i v b h4
     cases hb:(Aj (a++b)&&y4 L.cp s&&yY L&&Nat.ble args.length L.n&&qOk L.vs s&&ZX L.pin b) with
     |false=>simp[hb] at h
     |true=>simp only[hb,aja,Ob] at h;subst h;simp only[Q3] at hb;exact⟨s1,s,h1,h2,h3,h4,hb.1.1.1.1.1,hb.1.1.1.1.2,hb.1.1.1.2,aZa hb.1.1.2,hb.1.2,hb.2,rfl,(qQ h1).trans (qQ h2)⟩
theorem V8(h:yY L=true){p:Pl×mT}(hp:p∈L.cs++L.vs){o j:Nat}(ho:p.1=.l o j):o∈L.cp.map (·.1):=by simp only[yY,Q3,aqa] at h;have:=h.1.2 p hp;rw[ho] at this;exact gV.1 this
theorem Rq(h:yY L=true){p:Nat×Nat}(hp:p∈L.cp):p.1<10000:=by simp only[yY,Q3,aqa] at h;have:=h.1.1.1.1 p hp;simpa[b5a] using this
theorem J0(h:yY L=true):(L.cp.map (·.1)).Nodup:=by simp only[yY,Q3] at h;exact eN h.1.1.1.2
theorem afn(h:yY L=true):((L.cs++L.vs).map fun p=>p.1.key).Nodup:=by simp only[yY,Q3] at h;exact eN h.1.1.2
theorem oX{cp:List (Nat×Nat)}{s:St}(h:y4 cp s=true){p:Nat×Nat}(hp:p∈cp):∃ ls,s.dT p.1=some ls∧ls.length=p.2:=by
 have:=aqa.1 h p hp;split at this
 ·rename_i ls hl;exact⟨ls,hl,Q4 this⟩
 ·cases this
theorem aae{st:St}{o:Nat}:∀{ls:List ai} {i j:Nat} {l:ai},ls[j]? = some l→st.res o (i+j) l∈st.kg o i ls:=fun {ls i j l} h=>by refine a2a (i:=j) ?_;rw[sG,h];rfl
theorem M7{q:qj}{l:ai}:∀{R:List ai},l∈R→q∈fZ [l]→q∈fZ R
 |x::r,hl,hq=>by
  rcases ala.1 hl with rfl|hl
  ·cases l<;>simp only[fZ,bXa] at hq<;>simp only[Q7] at hq<;>subst hq<;>exact awa ..
  ·have:=M7 hl hq
   cases x<;>simp only[fZ]<;>first|exact this|exact Q8 _ this
theorem LQ{W:Type}{F:PV L.cs→PV L.vs→Option W}{dk:DkO W}(hl:yY L=true){p:Pl×mT}(hp:p∈L.cs++L.vs){q:qj}(hq:q∈((CS L.n args st).at p.1).uk):q∈(mg L F dk).Lh args st:=by
 obtain⟨pl,sp⟩:=p;simp only[mg];refine ara _ ?_;cases pl with
 |r i=>
  refine ara _ ?_;simp only[St.at,St.uN,St.iz,CS] at hq;cases hr:look (pv 0 args) i with
  |none=>rw[hr] at hq;simp[look,af.uk,fZ] at hq
  |some v=>rw[hr] at hq;exact JT (DJ hr) hq
 |q i j=>
  refine ara _ ?_;simp only[St.at,St.uN,St.iz,CS] at hq;cases hr:look (pv 0 args) i with
  |none=>rw[hr] at hq;simp[look,af.qls,af.isAgg,af.uk,fZ] at hq
  |some v=>
   rw[hr] at hq;simp only at hq;cases hv:v.qls with
   |none=>rw[hv] at hq;simp[af.uk,fZ] at hq
   |some ls=>
    rw[hv] at hq;simp only at hq;cases hj:ls[j]? with
    |none=>rw[hj] at hq;simp[af.uk,fZ] at hq
    |some l=>
     rw[hj] at hq;refine JT (DJ hr) ?_;have hql:q∈fZ ls:=by have:q∈fZ [l]:=hq;have hm:=a2a hj;exact M7 hm this
     unfold af.qls at hv;cases hi:v.isAgg with
     |false=>rw[hi] at hv;cases hv
     |true=>rw[hi,aja] at hv;exact D8 hv q hql
 |l o j=>
  refine aya _ ?_;have ho:=V8 hl hp rfl;obtain⟨⟨o',n⟩,ii,rfl⟩:=a0a.1 ho;refine bma.2 ⟨(o',n),ii,?_⟩;simp only[St.at,St.dT,CS] at hq;have Iw:look st.cp o' = st.dT o':=rfl;simp only at hq ⊢;rw[Iw] at hq;cases xD:st.dT o' with
  |none=>rw[xD] at hq;simp[af.uk,fZ] at hq
  |some ls=>
   rw[xD] at hq;simp only at hq ⊢;cases hj:ls[j]? with
   |none=>rw[hj] at hq;simp[af.uk,fZ] at hq
   |some l=>
    rw[hj] at hq;have Bj:(CS L.n args st).res o' j l=st.res o' j l:=by cases l<;>rfl
    have hm:=aae (st:=st) (o:=o') (i:=0) hj;rw[aWa] at hm;generalize st.kg o' 0 ls=R at hm;have hq:q∈fZ [st.res o' j l]:=by have:q∈(af.one ((CS L.n args st).res o' j l)).uk:=hq;rw[Bj] at this;exact this
    exact M7 hm hq
theorem adK{news:List (Nat×Nat×Nat)}{o:Nat}(h:o∉news.map (·.1)):IP news o=none:=by
 induction news with
 |nil=>rfl
 |cons p r ih=>simp only[aHa,ala,cia] at h;simp only[IP,vu (bDa h.1),aoa];exact ih h.2
theorem D3{dst:Nat}{told:lm}{o:PV told}{news:List (Nat×Nat×Nat)}{s:St}(h:D0 dst L told o news s=true):
  (told.map fun p=>p.1.key).Nodup∧(∀ p∈sj dst L.pin told o,s.arr p.1=none∧s.dj true p.1=false)∧(∀ p∈news,s.dT p.2.2=none∧s.dj false p.2.2=false∧p.1∉L.cp.map (·.1))∧
   (news.map (·.1)).Nodup∧(news.map (·.2.2)).Nodup∧(∀ p∈told,∀ q j,p.1=.l q j→(∀ c∈L.cs,c.1.key≠p.1.key)∧(q∈L.cp.map (·.1)∨q∈news.map (·.1)))∧
   (∀ p∈told,∀ q off,p.2=.lit (.lB q off)→q∈L.cp.map (·.1)∨q∈news.map (·.1)):=by
 simp only[D0,Q3,aqa] at h;obtain⟨⟨⟨⟨⟨⟨h1,h2⟩,h3⟩,h4⟩,h5⟩,h6⟩,h7⟩:=h;refine⟨eN h1,fun p hp=>?_,fun p hp=>?_,eN h4,eN h5,fun p hp q j e=>?_,fun p hp q off e=>?_⟩
 ·have:=h2 p hp;simpa using this
 ·have:=h3 p hp
  simp only[aOa,Hk] at this;refine⟨by simpa using this.1.1,this.1.2,fun hm=>?_⟩
  rw[gV.2 hm] at this;cases this.2
 ·have:=h6 p hp
  rw[e] at this;simp only[Q3,aOa,a6a,D0.acf,Hk] at this;refine⟨fun c hc e2=>?_,this.2.imp gV.1 gV.1⟩;have hm:fk p.1.key (L.cs.map fun p=>p.1.key)=true:=gV.2 (by rw[←e2];exact aIa hc)
  rw[e] at hm;rw[hm] at this;cases this.1
 ·have:=h7 p hp
  rw[e] at this;simp only[a6a,Hk] at this;exact this.imp gV.1 gV.1
theorem Vz{dst:Nat}{told:lm}{o:PV told}{news:List (Nat×Nat×Nat)}{a b:AL}{s:St}(hn:(L.cp.map (·.1)).Nodup)(OJ:y4 L.cp s=true)(hf:∀ p∈news,s.dT p.2.2=none)(hnn:(news.map (·.2.2)).Nodup)(q:Nat):
  (∃ k n,(k,n,q)∈news∧(H4 dst L told o news a b s).dT q=some (LB (ju dst L.pin news told o) k 0 n))∨
  (q∉news.map (·.2.2)∧((∃ n ls,(q,n)∈L.cp∧s.dT q=some ls∧(H4 dst L told o news a b s).dT q=some (wO (ju dst L.pin news told o) L.cs q 0 ls))∨
   (q∉L.cp.map (·.1)∧(H4 dst L told o news a b s).dT q=s.dT q))):=by
 have e1:(H4 dst L told o news a b s).dT q=look ((news.map fun p=>(p.2.2,LB (ju dst L.pin news told o) p.1 0 p.2.1))++((L.cp.map fun p=>(p.1,wO (ju dst L.pin news told o) L.cs p.1 0 ((s.dT p.1).getD [])))++s.cp)) q:=rfl;rw[e1,iE,iE];by_cases h:q∈news.map (·.2.2)
 ·obtain⟨⟨k,n,q'⟩,hm,rfl⟩:=a0a.1 h
  refine .inl ⟨k,n,hm,?_⟩;have key:∀{Tm:List (Nat×Nat×Nat)} {k n q:Nat},(Tm.map (·.2.2)).Nodup→(k,n,q)∈Tm→look (Tm.map fun p=>(p.2.2,LB (ju dst L.pin news told o) p.1 0 p.2.1)) q=some (LB (ju dst L.pin news told o) k 0 n):=by
   intro Tm;induction Tm with
   |nil=>intro k n q _ h;cases h
   |cons p r ih=>
    intro k n q hn h;rw[aHa,a3a] at hn;simp only[aHa,aw];rcases ala.1 h with rfl|h
    ·simp
    ·rw[aBa (fun e=>hn.1 (by rw[e];exact aIa (f:=(·.2.2)) h)),ih hn.2 h]
  rw[key hnn hm]
 ·have h0:look (news.map fun p=>(p.2.2,LB (ju dst L.pin news told o) p.1 0 p.2.1)) q=none:=J5 (by simpa[cza] using h)
  rw[h0];refine .inr ⟨h,?_⟩;by_cases h2:q∈L.cp.map (·.1)
  ·obtain⟨⟨q',n⟩,hm,rfl⟩:=a0a.1 h2
   obtain⟨ls,hl,_⟩:=oX OJ hm;refine .inl ⟨n,ls,hm,hl,?_⟩;rw[uy (f:=fun p=>wO (ju dst L.pin news told o) L.cs p.1 0 ((s.dT p.1).getD [])) hn hm,hl];rfl
  ·have h3:look (L.cp.map fun p=>(p.1,wO (ju dst L.pin news told o) L.cs p.1 0 ((s.dT p.1).getD []))) q=none:=J5 (by simpa[cza,Function.comp_def] using h2)
   rw[h3];exact .inr ⟨h2,rfl⟩
theorem PX(st:St)(q:Nat):∀(ks:List Nat),(match look (ks.map (fun k=>(k,st.dH k+1))++st.EM) q with|some v=>v|none=>0)=if q∈ks then st.dH q+1 else st.dH q
 |[]=>rfl
 |k::r=>by
  rw[aHa,a4a,aw];by_cases e:k=q
  ·subst e;simp
  ·rw[aBa e,PX st q r]
   have:(q∈k::r)↔q∈r:=⟨fun h=>(ala.1 h).resolve_left (fun h=>e h.symm),Q8 _⟩;simp only[this]
theorem VA{dst:Nat}{told:lm}{o:PV told}{news:List (Nat×Nat×Nat)}{a b:AL}{s:St}(q:Nat):
 (H4 dst L told o news a b s).dH q=if q∈Kk (a++DY L.pin b) then s.dH q+1 else s.dH q:=PX s q _
theorem A3{pin:List Nat}{b:AL}:∀{ps:lm} {v:PV ps} {a:Nat} {A:jV},look (pg pin b ps v) a=some A→∃ nm C,(nm,some a,C)∈b
 |[],v,a,A,h=>by cases h
 |(p,s)::r,v,a,A,h=>by
  simp only[pg] at h;split at h
  ·cases hm:fk p.key pin with
   |false=>rw[hm,aoa] at h;exact A3 (ps:=r) h
   |true=>
    rw[hm,aja] at h;split at h
    ·rename_i x C hl
     rw[aw] at h;by_cases e:x=a
     ·subst e;exact⟨_,_,ep hl⟩
     ·rw[aBa e] at h;exact A3 (ps:=r) h
    ·exact A3 (ps:=r) h
  ·exact A3 (ps:=r) h
theorem Qn(L:qv){W:Type}(F:PV L.cs→PV L.vs→Option W)(dk:DkO W)(hdk:acQ dk):nE (mg L F dk):=by
 intro R dst args st K K' KP KP' hK hP;simp only[mg];cases he:YF L args st with
 |none=>rfl
 |some e=>
  obtain⟨s1,s,E⟩:=VP he;simp only;refine vf (fun hc=>eg fun x=>?_) (fun _=>rfl);have VX:ky st e.st:=by rw[E.st'];exact⟨rfl,rfl,rfl,by have:=E.zF.iZ.2.2.2;exact rfl⟩
  rcases hdk x with ⟨told,o,news,res,h⟩|⟨T,ls,h⟩
  ·rw[h,h]
   refine vf (fun hf=>hK _ _ ?_) (fun _=>rfl);obtain⟨f1,f2,f3,f4,f5,f6,_⟩:=D3 hf;have hW:∀ p∈L.cs++L.vs,∀ q∈((CS L.n args st).at p.1).uk,q∈(mg L F dk).Lh args st:=fun p hp q hq=>LQ E.ON hp hq;have u0:rk ((mg L F dk).Lh args st) (CS L.n args st) s:=
    (xL E.sc fun p hp=>hW p (aya _ hp)).trans (xL E.sv fun p hp q hq=>hW p (ara _ hp) q (by rw[←(qQ E.sc).at];exact hq))
   have M1:∀ a,e.st.arr a=s.arr a:=fun a=>by rw[E.st'];simp only[St.arr,(bla E.zF.iZ.2.2.2).1];rfl
   have Eb:∀ q,e.st.dT q=st.dT q:=fun q=>by rw[E.st'];rfl
   have OJ:y4 L.cp e.st=true:=by
    have:∀ q,e.st.dT q=s.dT q:=fun q=>by rw[Eb];simp only[St.dT,E.zF.cp];rfl
    have:=E.ob;unfold y4 at this ⊢;rw[←this]
    congr 1
    funext p
    rw[show e.st.dT p.1=s.dT p.1 from ‹∀ q,e.st.dT q=s.dT q› p.1]
   refine⟨VX,?_,fun q ls hq _ _=>?_,fun a A hA hn fG=>?_,fun a hn _=>?_⟩
   ·show e.st.eH=st.eH;rw[E.st']
   ·rcases Vz (dst:=dst) (told:=told) (o:=o) (news:=news) (a:=e.a) (b:=e.b) (J0 E.ON) OJ (fun p hp=>(f3 p hp).1) f5 q with ⟨k,n,hm,_⟩|⟨_,⟨n,xG,hm,hl,e2⟩|⟨_,e2⟩⟩
    ·have:=(f3 _ hm).1
     rw[Eb,hq] at this;cases this
    ·rw[Eb,hq] at hl
     cases hl;refine⟨_,e2,Aw,fun j hj=>?_⟩;rw[Cg,aWa];cases hlj:ls[j]? with
     |none=>rfl
     |some l=>
      have hjn:j<n:=by obtain⟨ls2,h1,h2⟩:=oX OJ hm;rw[Eb,hq] at h1;cases h1;have:=(ama.1 hlj).1;simp only at h2;omega
      have hc:zr q j L.cs=true:=by
       cases hh:zr q j L.cs with
       |true=>rfl
       |false=>exact absurd ⟨rfl,axa _,Nat.lt_succ_self _⟩ (hj (.o q j 1) (aya _ (bma.2 ⟨(q,n),hm,a0a.2 ⟨j,bRa.2 ⟨b9a.2 hjn,by simp[hh]⟩,rfl⟩⟩)))
      have ht:et (ju dst L.pin news told o) q j=none:=by
       cases hh:et (ju dst L.pin news told o) q j with
       |none=>rfl
       |some x=>obtain⟨sp,hsp⟩:=wr hh;obtain⟨sc,hsc⟩:=D7.1 hc;exact absurd (rfl:(Pl.l q j).key=(Pl.l q j).key) ((f6 (Pl.l q j,sp) hsp q j rfl).1 (Pl.l q j,sc) hsc)
      simp[ht,hc]
    ·exact⟨ls,by rw[e2,Eb];exact hq,rfl,fun _ _=>rfl⟩
   ·have h1:e.st.arr a=some A:=by
     rw[M1];exact u0.arr a A hA hn fG
    have hns:a∉Kk e.b:=fun hs=>hn (by
     obtain⟨⟨nm,j0,B⟩,hm,S4⟩:=bia.1 hs;simp only at S4;subst S4;obtain⟨p,hp,_,_,vj⟩:=Ez E.rv nm _ B hm;exact LQ E.ON (ara _ hp) (by rw[←E.zF.at,vj];simp[af.uk,fZ]))
    have hnb:look (pg L.pin e.b told o) a=none:=by
     cases hl:look (pg L.pin e.b told o) a with
     |none=>rfl
     |some B=>obtain⟨nm,C,hm⟩:=A3 hl;exact absurd (show a∈Kk e.b from bia.2 ⟨_,hm,rfl⟩) hns
    have hnt:look (sj dst L.pin told o) a=none:=by
     cases hl:look (sj dst L.pin told o) a with
     |none=>rfl
     |some B=>have:=(f2 _ (ep hl)).1;rw[h1] at this;cases this
    have e1:(H4 dst L told o news e.a e.b e.st).arr a=(match look (sj dst L.pin told o++(pg L.pin e.b told o++lu (Kk e.b) e.st.cT)) a with|some v=>some v|none=>look e.st.gc a):=rfl
    rw[e1,iE,hnt,iE,hnb,Ej,aBa hns];exact h1
   ·rw[VA,aBa ?_]
    ·rw[E.st'];rfl
    ·intro hs
     obtain⟨⟨nm,j0,B⟩,hm,S4⟩:=bia.1 hs;simp only at S4;subst S4;rcases ana.1 hm with hm|hm
     ·obtain⟨p,hp,_,_,vj⟩:=Ez E.rc nm _ B hm
      exact hn (LQ E.ON (aya _ hp) (by rw[←E.zF.at,vj];simp[af.uk,fZ]))
     ·obtain⟨p,hp,_,_,vj⟩:=Ez E.rv nm _ B (bRa.1 hm).1
      exact hn (LQ E.ON (ara _ hp) (by rw[←E.zF.at,vj];simp[af.uk,fZ]))
  ·rw[h,h]
   exact hP _ _ VX
end
end Go.Fx
namespace Go.Fx
theorem qK{pin:List Nat}{b:AL}{e:Nat×Option Nat×jV}:e∈wM pin b↔e∈b∧fk e.1 pin=false:=by simp[wM,bRa]
theorem xU{pin:List Nat}{b:AL}{e:Nat×Option Nat×jV}:e∈DY pin b↔e∈b∧fk e.1 pin=true:=by simp[DY,bRa]
theorem Ci{pin:List Nat}{b:AL}(h:(b.map (·.1)).Nodup):((wM pin b).map (·.1)).Nodup:=h.sublist (List.filter_sublist.map _)
def zi(dst:Nat)(b:AL)(nm:Nat):Option (Option Nat):=look (b.map fun e=>(nmO dst e.1,e.2.1)) nm
def Ed(a:AL)(nm:Nat):Option Nat:=look (a.filterMap fun e=>e.2.1.map fun s=>(s,e.1)) nm
def C7(news:List (Nat×Nat×Nat))(q:Nat):Option Nat:=look (news.map fun p=>(p.2.2,p.1)) q
theorem abk{dst k k':Nat}(h:nmO dst k=nmO dst k'):k=k':=by unfold nmO at h;omega
theorem vI{dst:Nat}:∀{b:AL} {nm:Nat} {j0:Option Nat},zi dst b nm=some j0→∃ k A,nm=nmO dst k∧(k,j0,A)∈b
 |(k,s,A)::r,nm,j0,h=>by
  simp only[zi,aHa,aw] at h;by_cases e:nmO dst k=nm
  ·simp only[e,ava,Ob] at h
   exact⟨k,A,e.symm,by rw[h];exact awa ..⟩
  ·simp only[e,aka] at h
   obtain⟨k',A',h1,h2⟩:=vI (b:=r) h;exact⟨k',A',h1,Q8 _ h2⟩
theorem EL{dst:Nat}:∀{b:AL} {k:Nat} {j0:Option Nat} {A:jV},(b.map (·.1)).Nodup→(k,j0,A)∈b→zi dst b (nmO dst k)=some j0
 |(k',s,B)::r,k,j0,A,hn,h=>by
  simp only[zi,aHa,aw];rw[aHa,a3a] at hn;rcases ala.1 h with h|h
  ·cases h;simp
  ·have ik:k'≠k:=fun e=>hn.1 (by rw[e];exact aIa (f:=(·.1)) h)
   rw[aBa (fun e=>ik (abk e))];exact EL (b:=r) hn.2 h
theorem rx:∀{a:AL} {nm k:Nat},Ed a nm=some k→∃ A,(k,some nm,A)∈a
 |(k',s,A)::r,nm,k,h=>by
  cases s with
  |none=>
   obtain⟨B,hB⟩:=rx (a:=r) (nm:=nm) (k:=k) (by simpa[Ed] using h)
   exact⟨B,Q8 _ hB⟩
  |some x=>
   simp only[Ed,b3a,bLa,aw] at h;by_cases e:x=nm
   ·simp only[e,ava,Ob] at h
    exact⟨A,by rw[←h,e];exact awa ..⟩
   ·simp only[e,aka] at h
    obtain⟨B,hB⟩:=rx (a:=r) (nm:=nm) (k:=k) h;exact⟨B,Q8 _ hB⟩
theorem Hl{a:AL}{nm:Nat}(h:Ed a nm=none):∀ k A,(k,some nm,A)∉a:=by
 induction a with
 |nil=>intro k A hm;cases hm
 |cons p r ih=>
  obtain⟨k',s,B⟩:=p;intro k A hm;cases s with
  |none=>
   rcases ala.1 hm with hm|hm
   ·cases hm
   ·exact ih (by simpa[Ed] using h) k A hm
  |some x=>
   simp only[Ed,b3a,bLa,aw] at h;by_cases e:x=nm
   ·simp[e] at h
   ·simp only[e,aka] at h
    rcases ala.1 hm with hm|hm
    ·cases hm;exact e rfl
    ·exact ih h k A hm
theorem BB:∀{news:List (Nat×Nat×Nat)} {q k:Nat},C7 news q=some k→∃ n,(k,n,q)∈news
 |(k',n,q')::r,q,k,h=>by
  simp only[C7,aHa,aw] at h;by_cases e:q' = q
  ·simp only[e,ava,Ob] at h
   exact⟨n,by rw[←h,e];exact awa ..⟩
  ·simp only[e,aka] at h
   obtain⟨m,hm⟩:=BB (news:=r) h;exact⟨m,Q8 _ hm⟩
theorem Nw:∀{news:List (Nat×Nat×Nat)} {q k n:Nat},(news.map (·.2.2)).Nodup→(k,n,q)∈news→C7 news q=some k
 |(k',n',q')::r,q,k,n,hn,h=>by
  simp only[C7,aHa,aw];rw[aHa,a3a] at hn;rcases ala.1 h with h|h
  ·cases h;simp
  ·rw[aBa (fun e=>hn.1 (by rw[e];exact aIa (f:=(·.2.2)) h))]
   exact Nw (news:=r) hn.2 h
theorem P0:∀{news:List (Nat×Nat×Nat)} {o k:Nat},IP news o=some k→∃ n,(o,n,k)∈news
 |p::r,o,k,h=>by
  simp only[IP] at h;cases hb:Nat.beq p.1 o with
  |true=>simp only[hb,aja,Ob] at h;have e:=Q4 hb;exact⟨p.2.1,by rw[←e,←h];exact awa ..⟩
  |false=>simp only[hb,aoa] at h;obtain⟨n,hn⟩:=P0 (news:=r) h;exact⟨n,Q8 _ hn⟩
theorem Vs{dst:Nat}{t s4:St}{b4:AL}{G G4:Gh}{lJ:Nat→Option Nat}{news:List (Nat×Nat×Nat)}{p:Pl}{sp:mT}{x:sp.V}{bp:AL}(AD:zZ s4 p sp=some (x,bp))(qa:∀ e∈bp,e∈b4)(hn:(b4.map (·.1)).Nodup)
  (hm:∃ X w',aB X s4 G4 w') (hφ:∀ q tl,t.dT q=some tl→G4.φ q=G.φ q∧G4.pre q=G.pre q) (hnn:(news.map (·.2.2)).Nodup) (hnt:∀ p∈news,t.dT p.2.2=none)
  (Xk:∀ q off,sp=.lit (.lB q off)→(∃ tl,t.dT q=some tl)∨q∈news.map (·.1)) {u:Value} (hu:aU G4 (s4.at p) u):aY (G.iR G4 (zi dst b4) lJ (C7 news)) (Z9 news (sp.bR (nmO dst p.key) x)) u:=by
 obtain⟨X,w',hm⟩:=hm;have ii:=Hu AD;cases sp with
 |any=>trivial
 |d t'=>
  simp only[zZ] at AD;split at AD
  ·rename_i y hy
   simp only[Ob,aia] at AD;obtain⟨rfl,_⟩:=AD;obtain⟨cs,e,hr⟩:=DM hm hy hu;exact⟨cs,e,hr⟩
  ·cases AD
 |h m t'=>
  show u=(match zi dst b4 (nmO dst p.key) with|some (some k)=>G4.ψ k|some none=>.slice none 0 0|none=>G.ψ (nmO dst p.key))
  simp only[zZ] at AD;split at AD
  ·rename_i vj
   cases hw:m.RP with
   |false=>simp[hw] at AD
   |true=>simp only[hw,aja,Ob,aia] at AD;obtain⟨_,rfl⟩:=AD;rw[EL hn (qa _ (Q7.2 rfl))];rw[vj] at hu;exact hu
  ·rename_i a vj
   split at AD
   ·rename_i A hA
    cases hs:(A.sh||!m.lK A.md) with
    |true=>simp[hs] at AD
    |false=>
     simp only[hs,aoa] at AD;split at AD
     ·simp only[Ob,aia] at AD
      obtain⟨_,rfl⟩:=AD;rw[EL hn (qa _ (Q7.2 rfl))];rw[vj] at hu;exact hu
     ·cases AD
   ·cases AD
  ·cases AD
 |lit l=>
  simp only[zZ] at AD;split at AD
  ·rename_i l' vj
   cases he:wv l l' with
   |false=>simp[he] at AD
   |true=>
    have e:=Nq he;rw[vj,←e] at hu;show aY _ (Z9 news l) u;cases l with
    |lB q off=>
     have hu:u=.pointer (some ⟨G4.φ q,(G4.pre q).length+off,none⟩):=hu;simp only[Z9];cases hq:IP news q with
     |some k=>obtain⟨n,hmm⟩:=P0 hq;simp only[aY,Gh.iR,Nw hnn hmm];exact hu
     |none=>
      rcases Xk q off rfl with ⟨tl,htl⟩|hnw
      ·have wK:C7 news q=none:=by
        cases hh:C7 news q with
        |none=>rfl
        |some k=>obtain⟨n,hmm⟩:=BB hh;have:=hnt _ hmm;rw[htl] at this;cases this
       obtain⟨e1,e2⟩:=hφ q tl htl;simp only[aY,Gh.iR,wK];rw[hu,e1,e2]
      ·obtain⟨⟨q',n,k⟩,hmm,rfl⟩:=a0a.1 hnw
       have:∀{news:List (Nat×Nat×Nat)},(q',n,k)∈news→IP news q'≠none:=by
        intro news;induction news with
        |nil=>intro h;cases h
        |cons p r ih=>
         intro h;simp only[IP];cases hb:Nat.beq p.1 q' with
         |true=>simp
         |false=>
          simp only[aoa];rcases ala.1 h with h|h
          ·rw[←h] at hb;simp at hb
          ·exact ih h
       exact absurd hq (this hmm)
    |nil=>exact hu
    |J7=>exact hu
    |vU=>exact hu
    |fn f=>exact hu
    |_=>simp[wv] at he
  ·cases AD
theorem Fg{dst:Nat}{pin:List Nat}{t s4:St}{b4:AL}{G G4:Gh}{lJ:Nat→Option Nat}{news:List (Nat×Nat×Nat)}{p:Pl}{sp:mT}{x:sp.V}{bp:AL}(AD:zZ s4 p sp=some (x,bp))(qa:∀ e∈bp,e∈b4)(hn:(b4.map (·.1)).Nodup)
  (hm:∃ X w',aB X s4 G4 w') (hφ:∀ q tl,t.dT q=some tl→G4.φ q=G.φ q∧G4.pre q=G.pre q) (hnn:(news.map (·.2.2)).Nodup) (hnt:∀ p∈news,t.dT p.2.2=none)
  (Xk:∀ q off,sp=.lit (.lB q off)→(∃ tl,t.dT q=some tl)∨q∈news.map (·.1)) {u:Value} (hu:aU G4 (s4.at p) u):aY (G.iR G4 (zi dst (wM pin b4)) lJ (C7 news)) (zh dst pin news p sp x) u:=by
 unfold zh;cases hp:fk p.key pin with
 |true=>trivial
 |false=>rw[aoa];refine Vs AD (fun e he=>qK.2 ⟨qa e he,?_⟩) (Ci hn) hm hφ hnn hnt Xk hu;obtain⟨k,j0,A⟩:=e;have:=(Hu AD k j0 A he).1;rw[this];exact hp
theorem Kg{s:St}{pin:List Nat}{ba:AL}:∀{ps:lm} {v:PV ps} {b:AL},lC s ps=some (v,b)→∀{dst:Nat} {news:List (Nat×Nat×Nat)},
  (∀{o j:Nat} {lf:ai},et (ju dst pin news ps v) o j=some lf→∃ sp x bp,(Pl.l o j,sp)∈ps∧zZ s (.l o j) sp=some (x,bp)∧(∀ e∈bp,e∈b)∧lf=zh dst pin news (.l o j) sp x)∧
  (∀{i:Nat} {av:af},look (KG dst pin news ps v) i=some av→∃ sp x bp,(Pl.r i,sp)∈ps∧zZ s (.r i) sp=some (x,bp)∧(∀ e∈bp,e∈b)∧av=.one (zh dst pin news (.r i) sp x))∧
  (∀{i j:Nat} {lf:ai},et (U9 dst pin news ps v) i j=some lf→∃ sp x bp,(Pl.q i j,sp)∈ps∧zZ s (.q i j) sp=some (x,bp)∧(∀ e∈bp,e∈b)∧lf=zh dst pin news (.q i j) sp x)∧
  (∀{nm:Nat} {A:jV},look (sj dst pin ps v) nm=some A→∃ p sp x bp,(p,sp)∈ps∧zZ s p sp=some (x,bp)∧(∀ e∈bp,e∈b)∧nm=nmO dst p.key∧sp.arr x=some A∧fk p.key pin=false)∧
  (∀{k:Nat} {j0:Option Nat} {A:jV},(k,j0,A)∈b→fk k pin=false→∃ B,look (sj dst pin ps v) (nmO dst k)=some B)∧
  (∀{nm:Nat} {A:jV},look (pg pin ba ps v) nm=some A→∃ p sp x bp C,(p,sp)∈ps∧zZ s p sp=some (x,bp)∧(∀ e∈bp,e∈b)∧look ba p.key=some (some nm,C)∧sp.arr x=some A∧fk p.key pin=true)∧
  (∀{k a:Nat} {j0:Option Nat} {A C:jV},(k,j0,A)∈b→fk k pin=true→look ba k=some (some a,C)→∃ B,look (pg pin ba ps v) a=some B)
 |[],v,b,h,dst,news=>by simp only[lC,Ob,aia] at h;obtain⟨_,rfl⟩:=h;exact⟨(fun h=>(by cases h)),(fun h=>(by cases h)),(fun h=>(by cases h)),(fun h=>(by cases h)),(fun h=>(by cases h)),(fun h=>(by cases h)),(fun h=>(by cases h))⟩
 |(p,sp)::r,v,b,h,dst,news=>by
  simp only[lC] at h;split at h
  ·rename_i x a1 h1
   split at h
   ·rename_i xs b1 h2
    simp only[Ob,aia] at h;obtain⟨rfl,rfl⟩:=h;obtain⟨g1,g2,g5,g3,g4,g6,g7⟩:=Kg h2 (dst:=dst) (news:=news);have aar:∀ e∈a1,e∈a1++b1:=fun e he=>aya _ he;refine⟨fun {o j lf} hl=>?_,fun {i av} hl=>?_,fun {i j lf} hl=>?_,fun {nm A} hl=>?_,fun {k j0 A} hm hp=>?_,fun {nm A} hl=>?_,fun {k a j0 A C} hm hp hb=>?_⟩
    ·have tail:et (ju dst pin news r xs) o j=some lf→(∃ sp0 x bp,(Pl.l o j,sp0)∈((p,sp)::r)∧zZ s (.l o j) sp0=some (x,bp)∧(∀ e∈bp,e∈a1++b1)∧lf=zh dst pin news (.l o j) sp0 x):=fun hl=>by
      obtain⟨sp',x',bp,e1,e2,e3,e4⟩:=g1 hl;exact⟨sp',x',bp,Q8 _ e1,e2,fun e he=>ara _ (e3 e he),e4⟩
     cases p with
     |r i=>exact tail hl
     |q i k=>exact tail hl
     |l o' j'=>
      simp only[ju,et] at hl;cases hb:(Nat.beq o' o&&Nat.beq j' j) with
      |false=>simp only[hb,aoa] at hl;exact tail hl
      |true=>simp only[hb,aja,Ob] at hl;simp only[Q3] at hb;obtain rfl:=Q4 hb.1;obtain rfl:=Q4 hb.2;exact⟨sp,x,a1,awa ..,h1,aar,hl.symm⟩
    ·have tail:look (KG dst pin news r xs) i=some av→(∃ sp0 x bp,(Pl.r i,sp0)∈((p,sp)::r)∧zZ s (.r i) sp0=some (x,bp)∧(∀ e∈bp,e∈a1++b1)∧av=.one (zh dst pin news (.r i) sp0 x)):=fun hl=>by
      obtain⟨sp',x',bp,e1,e2,e3,e4⟩:=g2 hl;exact⟨sp',x',bp,Q8 _ e1,e2,fun e he=>ara _ (e3 e he),e4⟩
     cases p with
     |l o j=>exact tail hl
     |q i k=>exact tail hl
     |r i'=>
      simp only[KG,aw] at hl;by_cases e:i' = i
      ·subst e
       simp only[ava,Ob] at hl;exact⟨sp,x,a1,awa ..,h1,aar,hl.symm⟩
      ·simp only[e,aka] at hl;exact tail hl
    ·have tail:et (U9 dst pin news r xs) i j=some lf→(∃ sp0 x bp,(Pl.q i j,sp0)∈((p,sp)::r)∧zZ s (.q i j) sp0=some (x,bp)∧(∀ e∈bp,e∈a1++b1)∧lf=zh dst pin news (.q i j) sp0 x):=fun hl=>by
      obtain⟨sp',x',bp,e1,e2,e3,e4⟩:=g5 hl;exact⟨sp',x',bp,Q8 _ e1,e2,fun e he=>ara _ (e3 e he),e4⟩
     cases p with
     |r i=>exact tail hl
     |l i k=>exact tail hl
     |q o' j'=>
      simp only[U9,et] at hl;cases hb:(Nat.beq o' i&&Nat.beq j' j) with
      |false=>simp only[hb,aoa] at hl;exact tail hl
      |true=>simp only[hb,aja,Ob] at hl;simp only[Q3] at hb;obtain rfl:=Q4 hb.1;obtain rfl:=Q4 hb.2;exact⟨sp,x,a1,awa ..,h1,aar,hl.symm⟩
    ·have tail:look (sj dst pin r xs) nm=some A→(∃ p0 sp0 x bp,(p0,sp0)∈((p,sp)::r)∧zZ s p0 sp0=some (x,bp)∧(∀ e∈bp,e∈a1++b1)∧nm=nmO dst p0.key∧sp0.arr x=some A∧fk p0.key pin=false):=fun hl=>by
      obtain⟨p',sp',x',bp,e1,e2,e3,e4,e5,e6⟩:=g3 hl;exact⟨p',sp',x',bp,Q8 _ e1,e2,fun e he=>ara _ (e3 e he),e4,e5,e6⟩
     simp only[sj] at hl;split at hl
     ·rename_i B hB
      cases hpk:fk p.key pin with
      |true=>rw[hpk,aja] at hl;exact tail hl
      |false=>
       rw[hpk,aoa,aw] at hl;by_cases e:nmO dst p.key=nm
       ·simp only[e,ava,Ob] at hl
        subst hl;exact⟨p,sp,x,a1,awa ..,h1,aar,e.symm,hB,hpk⟩
       ·simp only[e,aka] at hl;exact tail hl
     ·exact tail hl
    ·simp only[sj]
     rcases ana.1 hm with hm|hm
     ·obtain⟨e1,e2,_⟩:=Hu h1 k j0 A hm
      subst e1;exact⟨A,by simp[e2,aw,hp]⟩
     ·obtain⟨B,hB⟩:=g4 hm hp
      split
      ·cases hpk:fk p.key pin with
       |true=>exact⟨B,hB⟩
       |false=>
        rw[aoa,aw];by_cases e:nmO dst p.key=nmO dst k
        ·exact⟨_,by rw[a8a e]⟩
        ·exact⟨B,by rw[aBa e];exact hB⟩
      ·exact⟨B,hB⟩
    ·have tail:look (pg pin ba r xs) nm=some A→(∃ p0 sp0 x bp C,(p0,sp0)∈((p,sp)::r)∧zZ s p0 sp0=some (x,bp)∧(∀ e∈bp,e∈a1++b1)∧look ba p0.key=some (some nm,C)∧sp0.arr x=some A∧fk p0.key pin=true):=fun hl=>by
      obtain⟨p',sp',x',bp,C,e1,e2,e3,e4,e5,e6⟩:=g6 hl;exact⟨p',sp',x',bp,C,Q8 _ e1,e2,fun e he=>ara _ (e3 e he),e4,e5,e6⟩
     simp only[pg] at hl;split at hl
     ·rename_i B hB
      cases hpk:fk p.key pin with
      |false=>rw[hpk,aoa] at hl;exact tail hl
      |true=>
       rw[hpk,aja] at hl;split at hl
       ·rename_i y C hy
        rw[aw] at hl;by_cases e:y=nm
        ·subst e
         simp only[ava,Ob] at hl;subst hl;exact⟨p,sp,x,a1,C,awa ..,h1,aar,hy,hB,hpk⟩
        ·rw[aBa e] at hl;exact tail hl
       ·exact tail hl
     ·exact tail hl
    ·simp only[pg]
     have tail:(∃ B,look (pg pin ba r xs) a=some B)→∃ B,look (match sp.arr x with
       |some A=>bif fk p.key pin then(match look ba p.key with|some (some a,_)=>(a,A)::pg pin ba r xs|_=>pg pin ba r xs) else pg pin ba r xs
       |none=>pg pin ba r xs) a=some B:=fun⟨B,hB⟩=>by
      split
      ·cases fk p.key pin with
       |false=>exact⟨B,hB⟩
       |true=>
        rw[aja];split
        ·rw[aw]
         split
         ·exact⟨_,rfl⟩
         ·exact⟨B,hB⟩
        ·exact⟨B,hB⟩
      ·exact⟨B,hB⟩
     rcases ana.1 hm with hm|hm
     ·obtain⟨e1,e2,_⟩:=Hu h1 k j0 A hm
      subst e1;exact⟨A,by simp[e2,hp,hb,aw]⟩
     ·exact tail (g7 hm hp hb)
   ·cases h
  ·cases h
end Go.Fx
namespace Go.Fx
theorem Nv:∀{cs:lm} {c:PV cs} {k:Nat} {j0:Option Nat} {A:jV},(k,j0,A)∈gm cs c→j0=some k∧∃ p∈cs,p.1.key=k∧∃ m t,p.2=.h m t
 |(p,s)::r,c,k,j0,A,h=>by
  simp only[gm] at h;split at h
  ·rename_i B hB
   rcases ala.1 h with h|h
   ·cases h;exact⟨rfl,(p,s),awa ..,rfl,(A0 hB).2⟩
   ·obtain⟨e,q,hq,e2⟩:=Nv (cs:=r) h
    exact⟨e,q,Q8 _ hq,e2⟩
  ·obtain⟨e,q,hq,e2⟩:=Nv (cs:=r) h
   exact⟨e,q,Q8 _ hq,e2⟩
theorem JX{s:St}:∀{cs:lm} {c:PV cs} {a:AL},lC s cs=some (c,a)→∀{k:Nat} {j0:Option Nat} {A:jV},(k,j0,A)∈a→(k,some k,A)∈gm cs c∧look (eR cs c) k≠none
 |[],c,a,h,k,j0,A,hm=>by simp only[lC,Ob,aia] at h;obtain⟨_,rfl⟩:=h;cases hm
 |(p,sp)::r,c,a,h,k,j0,A,hm=>by
  simp only[lC] at h;split at h
  ·rename_i x a1 h1
   split at h
   ·rename_i xs b1 h2
    simp only[Ob,aia] at h;obtain⟨rfl,rfl⟩:=h;simp only[gm,eR];rcases ana.1 hm with hm|hm
    ·obtain⟨e1,e2,_⟩:=Hu h1 k j0 A hm
     subst e1;simp only[e2];exact⟨awa ..,by simp[aw]⟩
    ·obtain⟨g1,g2⟩:=JX h2 hm
     split
     ·refine⟨Q8 _ g1,?_⟩
      rw[aw];split
      ·simp
      ·exact g2
     ·exact⟨g1,g2⟩
   ·cases h
  ·cases h
theorem Z6{s:St}{p:Pl}{m:Md}{t:Ty}{x:List t.nM}{b:AL}(h:zZ s p (.h m t)=some (x,b)):∀ i o,m≠.Ds i o:=fun i o e=>by
 subst e;simp only[zZ] at h;split at h
 ·simp[Md.RP] at h
 ·split at h
  ·rename_i A _
   cases hs:A.sh<;>simp[hs,Md.lK] at h
  ·cases h
 ·cases h
theorem IK{cs:lm}{c:PV cs}{o j:Nat}(h:zr o j cs=true):∃ lf,et (cj cs c) o j=some lf:=by
 induction cs with
 |nil=>cases h
 |cons p r ih=>
  obtain⟨pl,sp⟩:=p;cases pl with
  |r i=>exact ih (c:=c.2) (by simpa[zr] using h)
  |q i k=>exact ih (c:=c.2) (by simpa[zr] using h)
  |l o' j'=>
   simp only[cj,et];cases hb:(Nat.beq o' o&&Nat.beq j' j) with
   |true=>exact⟨_,rfl⟩
   |false=>simp only[aoa];exact ih (c:=c.2) (by simpa[zr,hb] using h)
section
variable {L:qv} {args:List af} {st:St} {e:aaF L} {s1 s s4:St} {dst:Nat} {told:lm} {o:PV told} {news:List (Nat×Nat×Nat)} {b4:AL}
theorem Ku(E:EO L args st e s1 s)(q:Nat):e.st.dT q=s.dT q:=by rw[E.st'];simp only[St.dT,E.zF.cp];rfl
theorem Kt(E:EO L args st e s1 s)(a:Nat):e.st.arr a=s.arr a:=by rw[E.st'];simp only[St.arr,(bla E.zF.iZ.2.2.2).1];rfl
theorem ac5(E:EO L args st e s1 s):e.st.cK=s.cK:=by rw[E.st'];exact E.zF.iZ.2.2.1.symm
theorem Ij(E:EO L args st e s1 s):y4 L.cp e.st=true:=by
 have:=E.ob;unfold y4 at this ⊢;rw[←this]
 congr 1
 funext p
 rw[Ku E p.1]
theorem Z5{s:St}:∀{cs:lm} {c:PV cs} {a0:AL},lC s cs=some (c,a0)→∀ k a (A':jV),(k,some a,A')∈a0→∀ i o,A'.md≠.Ds i o:=by
 intro cs;induction cs with
 |nil=>intro c a0 h k a A' hm;simp only[lC,Ob,aia] at h;obtain⟨_,rfl⟩:=h;cases hm
 |cons q r ih=>
  intro c a0 h k a A' hm i o;simp only[lC] at h;split at h
  ·rename_i x a1 h1
   split at h
   ·rename_i xs b1 h2
    simp only[Ob,aia] at h;obtain⟨_,rfl⟩:=h;rcases ana.1 hm with hm|hm
    ·obtain⟨_,e3,_⟩:=Hu h1 _ _ _ hm
     obtain⟨_,m',t',e4⟩:=A0 e3;obtain⟨q1,q2⟩:=q;simp only at e4;subst e4;simp only[mT.arr,Ob] at e3;rw[←e3];exact Z6 h1 i o
    ·exact ih h2 k a A' hm i o
   ·cases h
  ·cases h
theorem ZD(E:EO L args st e s1 s)(YU:VE L e.st=true)(ach:QY L.pin e.b e.st=true)(AD:lC s4 told=some (o,b4))(Iu:vN s4 L.cs=true)(aaZ:Aj (gm L.cs e.c++b4)=true)
  (ae2:y4 L.cp s4=true) (agy:y4 (news.map fun p=>(p.1,p.2.1)) s4=true) (VX:ub L e.c s4) (hf:D0 dst L told o news e.st=true) (Y8:Gc L.pin b4=true):
  HX e.st (L.st e.c e.v) s4 (H4 dst L told o news e.a e.b e.st) (e.a++e.b) (zi dst (wM L.pin b4)) (Ed (e.a++DY L.pin e.b)) (C7 news):=by
 obtain⟨f1,f2,f3,f4,f5,f6,f7⟩:=D3 hf;have Y6:=Ij E;have Iv:=J0 E.ON;have Rj:=Vz (dst:=dst) (told:=told) (o:=o) (news:=news) (a:=e.a) (b:=e.b) Iv Y6 (fun p hp=>(f3 p hp).1) f5;have F4:=E.al;simp only[Aj,Q3] at F4 aaZ;have hn4:(b4.map (·.1)).Nodup:=by have:=eN aaZ.1;rw[bwa,bba] at this;exact this.2.1
 have hs4:(b4.filterMap (·.2.1)).Nodup:=by have:=eN aaZ.2;rw[List.filterMap_append,bba] at this;exact this.2.1
 obtain⟨g1,g2,g5,g3,g4,g6,g7⟩:=Kg AD (dst:=dst) (news:=news) (pin:=L.pin) (ba:=e.b);have acd:=pF AD;have aeD:=pF E.rc;have tob:∀ q tl,(L.st e.c e.v).dT q=some tl→∃ n,(q,n)∈L.cp∧tl=pG (cj L.cs e.c) (cj L.vs e.v) q 0 n:=fun q tl h=>xT h;have aec:∀{q n},(q,n)∈L.cp→(L.st e.c e.v).dT q=some (pG (cj L.cs e.c) (cj L.vs e.v) q 0 n):=fun {q n} hm=>
  uy (f:=fun p=>pG (cj L.cs e.c) (cj L.vs e.v) p.1 0 p.2) Iv hm
 have WR:∀ q,q∉L.cp.map (·.1)→(L.st e.c e.v).dT q=none:=fun q hq=>by
  cases h:(L.st e.c e.v).dT q with
  |none=>rfl
  |some tl=>obtain⟨n,hm,_⟩:=tob q tl h;exact absurd (aIa (f:=(·.1)) hm) hq
 have shl:∀(cl vl:List (Nat×Nat×ai)) (q j n:Nat),(pG cl vl q j n).length=n:=by
  intro cl vl q j n;induction n generalizing j with
  |zero=>rfl
  |succ n ih=>simp[pG,ih]
 have Xk:∀{p:Pl} {sp:mT},(p,sp)∈told→∀ q off,sp=.lit (.lB q off)→(∃ tl,(L.st e.c e.v).dT q=some tl)∨q∈news.map (·.1):=fun {p sp} hp q off e1=>by
  rcases f7 _ hp q off e1 with h|h
  ·obtain⟨⟨q',n⟩,hm,rfl⟩:=a0a.1 h
   exact .inl ⟨_,aec hm⟩
  ·exact .inr h
 have hnt:∀ p∈news,(L.st e.c e.v).dT p.2.2=none:=fun p hp=>WR _ fun hm=>by obtain⟨⟨q',n⟩,hm,e1⟩:=a0a.1 hm;obtain⟨ls,hl,_⟩:=oX Y6 hm;have:=(f3 p hp).1;simp only at e1 hl;rw[←e1,hl] at this;cases this
 have ZM:∀{sp:mT} {x:sp.V} {p p':Pl} {bp:AL},zZ s4 p sp=some (x,bp)→∀(q:St) o j,q.res o j (zh dst L.pin news p' sp x)=zh dst L.pin news p' sp x:=fun {sp x p p' bp} hr q o j=>by
  unfold zh;cases fk p'.key L.pin with
  |true=>rfl
  |false=>
  rw[aoa];cases sp with
  |any=>rfl
  |d t=>rfl
  |h m t=>rfl
  |lit l=>
   simp only[zZ] at hr;split at hr
   ·rename_i l' _
    cases he:wv l l' with
    |false=>simp[he] at hr
    |true=>
     cases l<;>simp[wv] at he<;>try rfl
     simp only[mT.bR,Z9];split<;>rfl
   ·cases hr
 have Yo:∀ a,(H4 dst L told o news e.a e.b e.st).arr a=(match look (sj dst L.pin told o) a with|some v=>some v|none=>match look (pg L.pin e.b told o) a with|some v=>some v|none=>(if a∈Kk e.b then none else e.st.arr a)):=fun a=>by
  have e1:(H4 dst L told o news e.a e.b e.st).arr a=(match look (sj dst L.pin told o++(pg L.pin e.b told o++lu (Kk e.b) e.st.cT)) a with|some v=>some v|none=>look e.st.gc a):=rfl
  rw[e1,iE,iE,Ej];cases look (sj dst L.pin told o) a with
  |some v=>rfl
  |none=>
   cases look (pg L.pin e.b told o) a with
   |some v=>rfl
   |none=>
   by_cases Cb:a∈Kk e.b
   ·obtain⟨x,hx,PL⟩:=bia.1 Cb
    have:=aqa.1 ach x hx;rw[PL] at this;simp only[Q3] at this;simp only[Cb,ava];simpa using this.1
   ·simp only[Cb,aka];rfl
 have aeS:∀{nm:Nat} {A:jV},look (pg L.pin e.b told o) nm=some A→∃ k C,fk k L.pin=true∧(k,some nm,C)∈e.b∧(k,some k,A)∈b4∧s4.arr k=some A∧A.sh=false∧∀ i o,A.md≠.Ds i o:=fun {nm A} h=>by
  obtain⟨p,sp,x,bp,C,h1,h2,h3,h4,h5,h6⟩:=g6 h;have hp4:=aqa.1 Y8 p.key (gV.1 h6);split at hp4
  ·rename_i b0 B hl
   have e0:=Q4 hp4;subst e0;have ii:=ep hl;obtain⟨dz,m,t,rfl⟩:=A0 h5;have hnl:=Z6 h2;have vm:A.md=m:=by simp only[mT.arr,Ob] at h5;rw[←h5]
   have hbp:∃ j0,(p.key,j0,A)∈bp:=by
    simp only[mT.arr,Ob] at h5;simp only[zZ] at h2;split at h2
    ·cases hw:m.RP with
     |false=>simp[hw] at h2
     |true=>simp only[hw,aja,Ob,aia] at h2;obtain⟨rfl,rfl⟩:=h2;exact⟨none,by rw[←h5];exact Q7.2 rfl⟩
    ·rename_i a' _
     split at h2
     ·rename_i A' _
      cases hs:(A'.sh||!m.lK A'.md) with
      |true=>simp[hs] at h2
      |false=>
       simp only[hs,aoa] at h2;split at h2
       ·simp only[Ob,aia] at h2
        obtain⟨rfl,rfl⟩:=h2;exact⟨some a',by rw[←h5];exact Q7.2 rfl⟩
       ·cases h2
     ·cases h2
    ·cases h2
   obtain⟨j0,hbp⟩:=hbp;have e1:=lA hn4 (h3 _ hbp);rw[hl] at e1;simp only[Ob,aia] at e1;obtain⟨rfl,rfl⟩:=e1;obtain⟨_,hgd⟩:=acd _ _ _ ii;exact⟨p.key,C,h6,ep h4,ii,hgd,dz,fun i o e2=>hnl i o (by rw[←vm];exact e2)⟩
  ·cases hp4
 have ab1:∀{q j:Nat} {sl:List ai} {a:ai},s4.dT q=some sl→sl[j]? = some a→s4.at (.l q j)=.one (s4.res q j a):=fun {q j sl a} h1 h2=>by simp[St.at,h1,h2]
 refine {n:=rfl,vr:=fun q=>?_,iz:=fun _=>rfl,bl:=rfl,abR:=fun q tl h=>?_,dT:=fun q xG hq=>?_,Ep:=fun q k h=>?_,afs:=fun q q' k h h'=>?_,V4:=fun q ls h=>?_,vb:=fun q j ls lf h1 h2 h3=>?_,arr:=fun a A hA=>?_,ti:=fun a a' k h h'=>?_,ki:=fun a a' k h h'=>?_,tk:=fun a a' k h h'=>?_,F0:=fun a x h=>?_,pn:=rfl,ap:=fun a A hp hA=>?_}
 ·rw[VA]
  cases hk:Ed (e.a++DY L.pin e.b) q with
  |none=>
   rw[aBa fun hs=>(by
    obtain⟨⟨nm,j0,B⟩,hm,S4⟩:=bia.1 hs;simp only at S4;subst S4;exact Hl hk _ _ hm)]
  |some k=>obtain⟨A',hm⟩:=rx hk;rw[a8a (show q∈Kk (e.a++DY L.pin e.b) from bia.2 ⟨_,hm,rfl⟩)]
 ·obtain⟨n,hm,_⟩:=tob q tl h
  obtain⟨ls,hl,_⟩:=oX Y6 hm;obtain⟨sl,L0,_⟩:=oX ae2 hm;exact⟨Rq E.ON hm,⟨ls,hl⟩,sl,L0⟩
 ·rcases Rj q with ⟨k,n,hm,e1⟩|⟨hqn,⟨n,ls,hm,hl,e1⟩|⟨hqo,e1⟩⟩
  ·
   rw[e1] at hq;cases hq;have hmn:(k,n)∈news.map fun p=>(p.1,p.2.1):=a0a.2 ⟨(k,n,q),hm,rfl⟩;obtain⟨sl,L0,Za⟩:=oX agy hmn;refine .inr (.inr ⟨k,sl,Nw f5 hm,L0,by rw[Eo];exact Za.symm,fun j l' a h1 h2 G G3 u hX hφ hu=>?_⟩)
   have hj:j<n:=by have:=(ama.1 h1).1;rwa[Eo] at this
   rw[Tl hj,aWa] at h1;simp only[Ob] at h1;cases hlk:et (ju dst L.pin news told o) k j with
   |none=>rw[hlk] at h1;simp only at h1;subst h1;trivial
   |some x=>rw[hlk] at h1;simp only at h1;subst h1;obtain⟨sp,y,bp,hp,hr,qa,rfl⟩:=g1 hlk;rw[ZM hr];exact Fg hr qa hn4 hX hφ f5 hnt (Xk hp) (by rw[ab1 L0 h2];exact hu)
  ·
   rw[e1] at hq;cases hq;obtain⟨sl,L0,Za⟩:=oX ae2 hm;obtain⟨ls2,PJ,jB⟩:=oX Y6 hm;rw[hl] at PJ;cases PJ;simp only at Za jB;refine .inr (.inl ⟨ls,_,sl,hl,aec hm,L0,by rw[shl];exact jB.symm,by omega,Aw,fun j l' l a h1 h2 h3=>?_⟩)
   rw[Cg,aWa,h2] at h1;simp only[bLa,Ob] at h1;have hjn:j<n:=by have:=(ama.1 h2).1;omega
   cases hlk:et (ju dst L.pin news told o) q j with
   |some x=>rw[hlk] at h1;simp only at h1;subst h1;obtain⟨sp,y,bp,hp,hr,qa,rfl⟩:=g1 hlk;refine .inr fun G G3 u hX hφ hu=>?_;rw[ZM hr];exact Fg hr qa hn4 hX hφ f5 hnt (Xk hp) (by rw[ab1 L0 h3];exact hu)
   |none=>
    rw[hlk] at h1;simp only at h1;cases hc:zr q j L.cs with
    |true=>
     rw[hc,aja] at h1;subst h1;obtain⟨lf,hlf⟩:=IK (c:=e.c) hc;refine .inl ⟨?_,?_,lf,hlf⟩
     ·have:∀ x:ai,(H4 dst L told o news e.a e.b e.st).res q j x=e.st.res q j x:=fun x=>by cases x<;>rfl
      exact this _
     ·exact zb hjn (by rw[aWa];exact hlf)
    |false=>rw[hc,aoa] at h1;subst h1;exact .inr fun _ _ _ _ _ _=>trivial
  ·exact .inl ⟨WR q hqo,by rw[←e1];exact hq⟩
 ·obtain⟨n,hm⟩:=BB h
  obtain⟨h1,h2,h3⟩:=f3 _ hm;exact⟨h1,h2,WR k h3⟩
 ·obtain⟨n,hm⟩:=BB h
  obtain⟨n',hm'⟩:=BB h';have key:∀{news:List (Nat×Nat×Nat)},(news.map (·.1)).Nodup→(k,n,q)∈news→(k,n',q')∈news→q=q':=by
   intro news;induction news with
   |nil=>intro _ h;cases h
   |cons p r ih=>
    intro hn h1 h2;rw[aHa,a3a] at hn;rcases ala.1 h1 with h1|h1<;>rcases ala.1 h2 with h2|h2
    ·rw[←h1] at h2;cases h2;rfl
    ·exact absurd (by rw[←h1];exact aIa (f:=(·.1)) h2) hn.1
    ·exact absurd (by rw[←h2];exact aIa (f:=(·.1)) h1) hn.1
    ·exact ih hn.2 h1 h2
  exact key f4 hm hm'
 ·rcases Rj q with ⟨k,n,hm,e1⟩|⟨hqn,⟨n,ls,hm,hl,e1⟩|⟨hqo,e1⟩⟩
  ·exact⟨_,e1⟩
  ·exact⟨_,e1⟩
  ·exact⟨ls,by rw[e1];exact h⟩
 ·rcases Rj q with ⟨k,n,hm,e1⟩|⟨hqn,⟨n,xG,hm,hl,e1⟩|⟨hqo,e1⟩⟩
  ·have:=(f3 _ hm).1;rw[h1] at this;cases this
  ·rw[h1] at hl
   cases hl;obtain⟨ls2,PJ,jB⟩:=oX Y6 hm;rw[h1] at PJ;cases PJ;simp only at jB;have hjn:j<n:=by have:=(ama.1 h2).1;omega
   have hc:zr q j L.cs=true:=by have:=aqa.1 (aqa.1 YU _ hm) j (b9a.2 hjn);simp only[h1,bFa,h2,Bool.or_false] at this;exact this
   have ht:et (ju dst L.pin news told o) q j=none:=by
    cases hh:et (ju dst L.pin news told o) q j with
    |none=>rfl
    |some x=>obtain⟨sp,hsp⟩:=wr hh;obtain⟨sc,hsc⟩:=D7.1 hc;exact absurd (rfl:(Pl.l q j).key=(Pl.l q j).key) ((f6 (Pl.l q j,sp) hsp q j rfl).1 (Pl.l q j,sc) hsc)
   obtain⟨lf',aeX⟩:=IK (c:=e.c) hc;refine⟨_,e1,?_,.inr ⟨_,lf',aec hm,zb hjn (by rw[aWa];exact aeX),aeX⟩⟩
   rw[Cg,aWa,h2,ht];simp[hc]
  ·exact⟨ls,by rw[e1];exact h1,h2,.inl (WR q hqo)⟩
 ·rw[Yo] at hA
  cases hlk:look (sj dst L.pin told o) a with
  |some B=>
   rw[hlk] at hA;simp only[Ob] at hA;subst hA;obtain⟨p,sp,x,bp,hp,hr,qa,rfl,Xm,hpk⟩:=g3 hlk;obtain⟨dz,m,t,rfl⟩:=A0 Xm;have hnl:=Z6 hr;have vm:B.md=m:=by simp only[mT.arr,Ob] at Xm;rw[←Xm]
   have ii:∃ j0,(p.key,j0,B)∈bp:=by
    simp only[mT.arr,Ob] at Xm;simp only[zZ] at hr;split at hr
    ·cases hw:m.RP with
     |false=>simp[hw] at hr
     |true=>simp only[hw,aja,Ob,aia] at hr;obtain⟨rfl,rfl⟩:=hr;exact⟨none,by rw[←Xm];exact Q7.2 rfl⟩
    ·rename_i a' _
     split at hr
     ·rename_i A' _
      cases hs:(A'.sh||!m.lK A'.md) with
      |true=>simp[hs] at hr
      |false=>
       simp only[hs,aoa] at hr;split at hr
       ·simp only[Ob,aia] at hr
        obtain⟨rfl,rfl⟩:=hr;exact⟨some a',by rw[←Xm];exact Q7.2 rfl⟩
       ·cases hr
     ·cases hr
    ·cases hr
   obtain⟨j0,ii⟩:=ii;have hb4:=qa _ ii;have aeJ:=qK.2 ⟨hb4,hpk⟩;obtain⟨_,hgd⟩:=acd _ _ _ hb4;cases j0 with
   |some k=>exact .inl ⟨k,EL (Ci hn4) aeJ,hgd,dz,fun i o e2=>hnl i o (by rw[←vm];exact e2)⟩
   |none=>exact .inr (.inl ⟨EL (Ci hn4) aeJ,hgd.1,dz,hgd.2⟩)
  |none=>
   rw[hlk] at hA;simp only at hA;have htn:zi dst (wM L.pin b4) a=none:=by
    cases ht:zi dst (wM L.pin b4) a with
    |none=>rfl
    |some j0=>obtain⟨k,A',rfl,hm⟩:=vI ht;obtain⟨Lx,hm2⟩:=qK.1 hm;obtain⟨B,hB⟩:=g4 Lx hm2;rw[hlk] at hB;cases hB
   have hn:((e.a++e.b).map (·.1)).Nodup:=eN F4.1
   cases hlb:look (pg L.pin e.b told o) a with
   |some B=>
    rw[hlb] at hA;simp only[Ob] at hA;subst hA;obtain⟨k,C,q1,q2,q3,q4,q5,q6⟩:=aeS hlb;cases hk:Ed (e.a++DY L.pin e.b) a with
    |none=>exact absurd (ara _ (xU.2 ⟨q2,q1⟩)) (Hl hk _ _)
    |some k'=>
     obtain⟨A',hm⟩:=rx hk;have hm':(k',some a,A')∈e.a++e.b:=by
      rcases ana.1 hm with hm|hm
      ·exact aya _ hm
      ·exact ara _ (xU.1 hm).1
     have e1:k' = k:=Jd (eN F4.2) hm' (ara _ q2);subst e1;exact .inr (.inr (.inl ⟨k',htn,rfl,trivial,q4,q5,q6⟩))
   |none=>
   rw[hlb] at hA;simp only at hA;by_cases Cb:a∈Kk e.b
   ·simp[Cb] at hA
   ·simp only[Cb,aka] at hA
    cases hk:Ed (e.a++DY L.pin e.b) a with
    |some k=>
     obtain⟨A',hm⟩:=rx hk;have hm:(k,some a,A')∈e.a:=by
      rcases ana.1 hm with hm|hm
      ·exact hm
      ·exact absurd (show a∈Kk e.b from bia.2 ⟨_,(xU.1 hm).1,rfl⟩) Cb
     obtain⟨dz,px⟩:=aeD _ _ _ hm;simp only at px;rw[Kt E,px] at hA;cases hA;obtain⟨hkp,_⟩:=JX E.rc hm;simp only[vN,Q3] at Iu;have ago:=A9 (v:=e.c) (eN Iu.1);obtain⟨_,h4⟩:=Bm (full:=⟨L.cs,e.c⟩) (bla VX.2.2.2).1 ago Iu.2 k (some k) A hkp;exact .inr (.inr (.inl ⟨k,htn,rfl,trivial,h4,dz,fun i o e2=>Z5 E.rc _ _ _ hm i o e2⟩))
    |none=>
     refine .inr (.inr (.inr ⟨htn,rfl,hA,.inr fun nm B h=>?_⟩));have hm:=ep h;rcases ana.1 hm with hm|hm
     ·exact Hl hk _ _ (aya _ hm)
     ·exact Cb (bia.2 ⟨_,hm,rfl⟩)
 ·obtain⟨k1,A1,rfl,Lx⟩:=vI h
  obtain⟨k2,A2,rfl,hm2⟩:=vI h';rw[Jd hs4 (qK.1 Lx).1 (qK.1 hm2).1]
 ·have sub:∀{k' a':Nat} {A':jV},(k',some a',A')∈e.a++DY L.pin e.b→(k',some a',A')∈e.a++e.b:=fun {k' a' A'} hm=>by
   rcases ana.1 hm with hm|hm
   ·exact aya _ hm
   ·exact ara _ (xU.1 hm).1
  obtain⟨A1,Lx⟩:=rx h;obtain⟨A2,hm2⟩:=rx h';have hn:((e.a++e.b).map (·.1)).Nodup:=eN F4.1
  have e1:=lA hn (sub Lx);have e2:=lA hn (sub hm2);rw[e1] at e2;simp only[Ob,aia] at e2;exact e2.1
 ·obtain⟨k1,A1,rfl,Lx⟩:=vI h
  obtain⟨Lx,aa5⟩:=qK.1 Lx;obtain⟨A2,hm2⟩:=rx h';rcases ana.1 hm2 with hm2|hm2
  ·obtain⟨hk2,_⟩:=JX E.rc hm2
   have Iv:=eN aaZ.2;rw[List.filterMap_append,bba] at Iv;exact Iv.2.2 k (bia.2 ⟨_,hk2,rfl⟩) k (bia.2 ⟨_,Lx,rfl⟩) rfl
  ·obtain⟨_,hpk⟩:=xU.1 hm2
   have hp4:=aqa.1 Y8 k (gV.1 hpk);split at hp4
   ·rename_i b0 B hl
    have e0:=Q4 hp4;subst e0;have:=Jd hs4 Lx (ep hl);subst this;rw[hpk] at aa5;cases aa5
   ·cases hp4
 ·obtain⟨k1,A1,rfl,Lx⟩:=vI h
  obtain⟨Lx,aa5⟩:=qK.1 Lx;obtain⟨B,hB⟩:=g4 Lx aa5;exact(f2 _ (ep hB)).2
 ·have hlk:look (sj dst L.pin told o) a=none:=by
   cases hl:look (sj dst L.pin told o) a with
   |none=>rfl
   |some B=>have:=(f2 _ (ep hl)).1;rw[hA] at this;cases this
  refine⟨?_,?_⟩
  ·cases ht:zi dst (wM L.pin b4) a with
   |none=>rfl
   |some j0=>obtain⟨k,A',rfl,hm⟩:=vI ht;obtain⟨Lx,hm2⟩:=qK.1 hm;obtain⟨B,hB⟩:=g4 Lx hm2;rw[hlk] at hB;cases hB
  ·rw[Yo,hlk]
   simp only;cases hlb:look (pg L.pin e.b told o) a with
   |some B=>exact⟨B,rfl⟩
   |none=>
    simp only;by_cases Cb:a∈Kk e.b
    ·obtain⟨⟨k,j0,B⟩,hx,PL⟩:=bia.1 Cb
     simp only at PL;subst PL;have h5:=aqa.1 ach _ hx;simp only[Q3,a6a,aOa] at h5;rcases h5.2 with h6|h6
     ·have hp4:=aqa.1 Y8 k (gV.1 h6)
      split at hp4
      ·rename_i b0 B' hl
       have hnb:look e.b k=some (some a,B):=by
        have hn:((e.a++e.b).map (·.1)).Nodup:=eN F4.1
        rw[bwa,bba] at hn;exact lA hn.2.1 hx
       obtain⟨C,hC⟩:=g7 (ep hl) h6 hnb;rw[hlb] at hC;cases hC
      ·cases hp4
     ·have As:fk a e.st.pin=true:=hp
      rw[h6] at As;cases As
    ·rw[aBa Cb];exact⟨A,hA⟩
end
end Go.Fx
namespace Go.Fx
theorem DK{G:Gh}:∀{args:List af} {vs:List Value} {k i:Nat} {v:af},All2 (aU G) args vs→look (pv k args) i=some v→∃ j u,i=k+j∧vs[j]? = some u∧aU G v u
 |[],[],k,i,v,_,h=>by cases h
 |a::r,u::us,k,i,v,hr,h=>by
  simp only[pv,aw] at h;by_cases e:k=i
  ·simp only[e,ava,Ob] at h
   subst h;exact⟨0,u,by omega,rfl,hr.1⟩
  ·simp only[e,aka] at h
   obtain⟨j,u',e1,e2,e3⟩:=DK hr.2 h;exact⟨j+1,u',by omega,by simpa using e2,e3⟩
 |[],_::_,_,_,_,hr,_=>hr.elim
 |_::_,[],_,_,_,hr,_=>hr.elim
theorem aB.Xq{X:mW}{st st':St}{G:Gh}{w:World}(hm:aB X st G w)(ho:st'.cp=st.cp)(ha:st'.cT=st.cT)(hl:st'.cK=st.cK)(hb:st'.gc=st.gc)(hp:st'.pin=st.pin)(hv:st'.EM=st.EM):aB X st' G w:=by
 obtain⟨n,eH,cp,cT,br,bl,ba,pn,vr⟩:=st;obtain⟨n',acE,Wg,VD,br',bl',ba',pn',vr'⟩:=st';simp only at ho ha hl hb hp hv;subst ho ha hl hb hp hv;have Bj:∀ o j l,(⟨n',acE,Wg,VD,br',bl',ba',pn',vr'⟩:St).res o j l=(⟨n,eH,Wg,VD,br,bl',ba',pn',vr'⟩:St).res o j l:=fun o j l=>by cases l<;>rfl
 have ae9:∀ o (ls:List ai) j,(⟨n',acE,Wg,VD,br',bl',ba',pn',vr'⟩:St).kg o j ls=(⟨n,eH,Wg,VD,br,bl',ba',pn',vr'⟩:St).kg o j ls:=fun o ls=>by
  induction ls with
  |nil=>intro j;rfl
  |cons l r ih=>intro j;simp only[St.kg,Bj,ih]
 exact {sl:=hm.sl,sh:=hm.sh,ob:=fun o ls h=>(by obtain⟨arr,elem,mid,g1,g2,g3⟩:=hm.ob o ls h;exact⟨arr,elem,mid,g1,g2,by unfold ix at g3 ⊢;rw[ae9];exact g3⟩),ar:=hm.ar,ah:=hm.ah,nd:=hm.nd,qw:=hm.qw,dS:=hm.dS,ua:=hm.ua,s0:=hm.s0,sn:=hm.sn,fr:=hm.fr,sz:=hm.sz,os:=hm.os,tp:=hm.tp,out:=hm.out,pin:=hm.pin,bv:=hm.bv,ap:=hm.ap,hv:=hm.hv,ds:=hm.ds,hh:=hm.hh}
def mW.aaL(X:mW):mW:=⟨X.S0,X.XC,X.w0,fun _=>none,(fun _ _ h=>(by cases h)),fun _ _=>none,(fun _ _ _ h=>(by cases h)),fun _=>none,X.ds⟩
theorem aB.aaL{X:mW}{st:St}{G:Gh}{w:World}(hm:aB X st G w):aB X.aaL st G w:=
 {sl:=hm.sl,sh:=hm.sh,ob:=hm.ob,ar:=hm.ar,ah:=hm.ah,nd:=hm.nd,qw:=hm.qw,dS:=hm.dS,ua:=hm.ua,s0:=hm.s0,sn:=hm.sn,fr:=hm.fr,sz:=hm.sz,os:=hm.os,tp:=hm.tp,out:=hm.out,pin:=fun o p h=>(by cases h),bv:=fun o j u h=>(by cases h),ap:=fun a u h=>(by cases h),hv:=hm.hv,ds:=hm.ds,hh:=hm.hh}
theorem VF{X:mW}{st:St}{G:Gh}{w:World}(hm:aB X st G w){o j:Nat}{ls:List ai}{lf:ai}(ho:st.dT o=some ls)(hj:ls[j]? = some .vb)(hl:et st.cK o j=some lf):
  ∃ arr elem u,w.heap[G.φ o]? = some (.cells arr elem (0,0))∧arr.toList[(G.pre o).length+j]? = some u∧aY G lf u:=by
 obtain⟨arr,elem,mid,g1,g2,g3⟩:=hm.ob o ls ho;have hml:mid.length=ls.length:=by have:=All2.length g3;rw[iX] at this;exact this.symm
 have hjl:j<ls.length:=(ama.1 hj).1;have hx:(st.kg o 0 ls)[j]? = some lf:=by rw[sG,hj,aWa];simp[St.res,hl]
 obtain⟨u,hu,hr⟩:=All2.vJ g3 hx;exact⟨arr,elem,u,g1,by rw[Rz g2 (by omega)];exact hu,hr⟩
theorem VV{full:(ps:lm)×PV ps}:∀{ps:lm} {v:PV ps} {o j:Nat} {m:Md} {t:Ty},lk full ps v→(Pl.l o j,mT.h m t)∈ps→et (cj full.1 full.2) o j=some (.mX (Pl.l o j).key)
 |[],v,_,_,_,_,_,h=>by cases h
 |(p,sp)::r,v,o,j,m,t,hf,h=>by
  rcases ala.1 h with h' | h'
  ·simp only[aia] at h'
   obtain⟨rfl,rfl⟩:=h';exact hf.1
  ·clear h
   cases p<;>exact VV (ps:=r) hf.2.2 h'
theorem ab5{G G':Gh}(hS:G'.S=G.S):∀{ls:List ai} {vs:List Value},wG ls=true→All2 (aY G) ls vs→All2 (aY G') ls vs
 |[],[],_,_=>trivial
 |.fy t d::r,_::_,h,hr=>⟨(by obtain⟨cs,e1,e2⟩:=hr.1;exact⟨cs,e1,by rw[hS];exact e2⟩),ab5 hS (ls:=r) h hr.2⟩
 |[],_::_,_,hr=>hr.elim
 |_::_,[],_,hr=>hr.elim
def QE(av:af):Prop:=(∃ lf,av=.one lf)∨∃ ls,av=.agg ls
theorem aad{G':Gh}{l:List (Nat×af)}{val:Nat→Value}(h:∀ i av,look l i=some av→QE av∧aU G' av (val i))(i:Nat):QE (Qg l i)∧aU G' (Qg l i) (val i):=by
 unfold Qg;cases hl:look l i with
 |none=>exact⟨.inl ⟨_,rfl⟩,trivial⟩
 |some av=>exact h i av hl
theorem aaA{G':Gh}{av:af}{u:Value}(ho:QE av)(h:aU G' av u):if(Oc av).1=true then ∃ cs:List Value,u=.agg cs.toArray∧All2 (aY G') (Oc av).2 cs else ∃ l,(Oc av).2=[l]∧aY G' l u:=by
 rcases ho with ⟨lf,rfl⟩|⟨ls,rfl⟩
 ·cases lf with
  |fy t d=>
   obtain⟨cs,e1,e2⟩:=h;by_cases ha:t.agg=true
   ·rw[a8a ha] at e1
    rw[a8a (show(Oc (.one (.fy t d))).1=true from ha)]
    exact⟨cs,e1,lY e2⟩
   ·rw[aBa ha] at e1
    rw[aBa (show ¬ (Oc (.one (.fy t d))).1=true from ha)]
    cases t<;>simp[Ty.agg] at ha<;>exact⟨_,rfl,cs,by simpa[Ty.agg] using e1,e2⟩
  |_=>exact⟨_,rfl,h⟩
 ·exact h
theorem abD{G':Gh}{l:List (Nat×af)}{val:Nat→Value}(h:∀ i av,look l i=some av→QE av∧aU G' av (val i))(res:List Nat):
  aU G' (afz l res) (Hv (res.map val)):=by
 have vj:=aad h;have all:∀(is:List Nat),All2 (fun(p:Bool×List ai) u=>if p.1=true then ∃ cs:List Value,u=.agg cs.toArray∧All2 (aY G') p.2 cs else ∃ l,p.2=[l]∧aY G' l u) (is.map fun i=>Oc (Qg l i)) (is.map val):=by
  intro is;induction is with
  |nil=>trivial
  |cons i r ih=>exact⟨aaA (vj i).1 (vj i).2,ih⟩
 match res with
 |[]=>exact⟨[],rfl,trivial⟩
 |[i]=>exact(vj i).2
 |i::j::r=>exact⟨_,rfl,all (i::j::r)⟩
theorem TQ{G':Gh}{l:List (Nat×Nat×ai)}{i:Nat}{sl:List ai}{R:ai→Value→Prop}(h:∀ j a lf u,sl[j]? = some a→et l i j=some lf→R a u→aY G' lf u):∀(n j:Nat) (m:List ai) (cs:List Value),m.length=n→(∀ k,sl[j+k]? = m[k]?)→All2 R m cs→All2 (aY G') (qsh l i j n) cs
 |0,j,[],[],_,_,_=>trivial
 |n+1,j,a::m,c::cs,hl,hi,ha=>by
  refine⟨?_,TQ h n (j+1) m cs (by simpa using hl) (fun k=>by have:=hi (k+1);rw[show j+(k+1)=j+1+k by omega] at this;simpa using this) ha.2⟩
  cases hc:et l i j with
  |none=>trivial
  |some lf=>exact h j a lf c (by simpa using hi 0) hc ha.1
 |0,j,[],_::_,_,_,ha=>ha.elim
 |n+1,j,_::_,[],_,_,ha=>ha.elim
def E7(pin:List Nat)(s:St):List (Nat×af):=s.eH.filter fun p=>(match p.2 with | .one (.mX _)=>true|_=>false)&&fk (Pl.r p.1).key pin
theorem RR{pin:List Nat}{s:St}{i:Nat}(h:fk (Pl.r i).key pin=false):look (E7 pin s) i=none:=by
 cases hl:look (E7 pin s) i with
 |none=>rfl
 |some v=>have:=(bRa.1 (ep hl)).2;simp only[Q3] at this;rw[h] at this;cases this.2
theorem TL{pin:List Nat}{s:St}{i:Nat}{v:af}(h:look (E7 pin s) i=some v):v.qls=none:=by
 have:=(bRa.1 (ep h)).2;simp only[Q3] at this;have h1:=this.1;revert h1;cases v with
 |one l=>cases l<;>intro h1<;>first|rfl|cases h1
 |_=>intro h1;cases h1
def RU(pin:List Nat)(avs:List af)(s:St):St:={s with eH:=pv 500000 avs++E7 pin s}
def I5(n:Nat):List Nat:=(List.range n).map (500000 + ·)
theorem TT(zv:List Value):(I5 zv.length).map (fun i=>zv.getD (i - 500000) undef)=zv:=by
 apply bKa;intro i;unfold I5;rw[bIa,bIa];by_cases h:i<zv.length
 ·simp[h]
 ·simp[cta h]
theorem EB{E:tr}{st:St}:∀{rv:List ResultVar} {avs:List af},LJ E st rv=some avs→avs.length=rv.length
 |[],avs,h=>by cases h;rfl
 |.tmp t::r,avs,h=>by
  simp only[LJ] at h;split at h
  ·rename_i l hl;cases h;simp[EB hl]
  ·cases h
 |.cell t T::r,avs,h=>by
  simp only[LJ] at h;split at h
  ·split at h
   ·rename_i v l _ hl;cases h;simp[EB hl]
   ·cases h
  ·cases h
section
variable {P:Program} {E:tr} (hE:FV P E)
include hE
theorem ada{f:FuncId}{fn:Func}{body:Code}{L:qv}{W:Type}{F:PV L.cs→PV L.vs→Option W}{dk:DkO W}{out:PV L.cs→St→Option W}{pout:PV L.cs→af→St→Option W}
  (hf:P.funcs[f]? = some fn) (hb:fn.body=some body) (Bg:∀ args w,(callFunc f args).run P w=.ok (.enter f args) w) (hL:ta P E body) (hn:fn.ntmps=L.n)
  (h1:∀ c v x,F c v=some x→tB E body (L.st c v) (fun e s=>match e with | .normal=>out c s | .ret=>out c s|_=>none) (pout c)=some x)
  (h2:∀ c s x,out c s=some x→∃ avs told o news,LJ E s fn.results.toList=some avs∧O9 L (gm L.cs c) told news (RU L.pin avs s)=some o∧∀(R:Type) (f:(told:lm)→PV told→List (Nat×Nat×Nat)→List Nat→Option R) g,dk R x f g=f told o news (I5 fn.results.toList.length))
  (h3:∀ c av s x,pout c av s=some x→∃ T ls,av=.Au T ls∧wG ls=true∧O9 L (gm L.cs c) [] [] s=some ()∧∀(R:Type) (f:(told:lm)→PV told→List (Nat×Nat×Nat)→List Nat→Option R) g,dk R x f g=g T ls):
  AZ P E.gt f (mg L F dk):=by
 intro R r X st G w dst args vs K KP hr zt hm _ ha;simp only[mg] at hr;cases he:YF L args st with
 |none=>rw[he] at hr;cases hr
 |some e=>
  rw[he] at hr;obtain⟨s1,s,EN⟩:=VP he;simp only at hr;cases hbc:(VE L e.st&&QY L.pin e.b e.st) with
  |false=>simp[hbc] at hr
  |true=>
   simp only[hbc,aja] at hr;simp only[Q3] at hbc;obtain⟨x,hx,hr⟩:=ata.1 hr;have m0:aB X (CS L.n args st) G w:=hm.Xq rfl rfl rfl rfl rfl rfl;obtain⟨G1,m1,a1,k1⟩:=od EN.sc m0;obtain⟨G2,m2,a2,k2⟩:=od EN.sv m1;have a02:=a1.trans a2;have al':=EN.al;simp only[Aj,Q3] at al';have Iv:((e.a++e.b).map (·.1)).Nodup:=eN al'.1
   have N:=Tn (L:=L) (vC Iv EN.rc (fun e he=>aya _ he)) (vC Iv EN.rv (fun e he=>ara _ he))
    (fun nm j0 A ii=>by
     rcases ana.1 ii with ii|ii
     ·exact pF EN.rc nm j0 A ii
     ·exact pF EN.rv nm j0 A ii) EN.al EN.ob EN.zF.iZ.1.symm EN.q
   have Ar:aB X.aaL (L.st e.c e.v) (G2.uO (e.a++e.b)) w:=N.ok m2.aaL (fun o p h=>by cases h) (fun o j u h=>by cases h) (fun a u h=>by cases h)
   have hmi:=Ar.enter;have me:aB X e.st G2 w:=by rw[EN.st'];have al:=EN.zF;exact m2.Xq al.cp.symm rfl al.iZ.2.2.1.symm (bla al.iZ.2.2.2).1.symm (bla al.iZ.2.2.2).2.symm al.EM.symm
   have BM:nL E.gt (wY (L.st e.c e.v) (G2.uO (e.a++e.b)) w).S0:=zt.mono m2.s0;have jB:vs.length=args.length:=(All2.length ha).symm;have xC:bQ {G2.uO (e.a++e.b) with ds:=[]} (L.st e.c e.v) {tmps:=vs.toArray++Array.replicate (fn.ntmps - vs.toArray.size) undef,defers:=[]}:=by
    refine N.eH (G:={G2 with ds:=[]}) m2.ds0 ⟨rfl,?_,fun i v hv=>?_⟩
    ·have:s.n=L.n:=EN.zF.iZ.1
     have:=EN.len;simp;omega
    ·have e1:s.iz i=look (pv 0 args) i:=by
      simp only[St.iz,EN.zF.eH,EN.zF.iZ.2.1];show(match look (pv 0 args) i with|some v=>some v|none=>look [] i)=_
      cases look (pv 0 args) i<;>rfl
     rw[e1] at hv;obtain⟨j,u,e2,e3,e4⟩:=DK ha hv;have hj:j<vs.length:=(ama.1 e3).1;have e5:i=j:=by omega
     subst e5;have:(vs.toArray++Array.replicate (fn.ntmps - vs.toArray.size) undef).getD i undef=u:=by
      rw[aCa,Array.getElem?_append_left (by simpa using hj)]
      simp[e3]
     rw[this];exact Gh.aee (e4.sub a02)
   have hx1:=h1 e.c e.v x hx;have iR:∀{told:lm} {o:PV told} {news:List (Nat×Nat×Nat)} {s3:St} {G3:Gh} {w':World},ub L e.c s3→aB (wY (L.st e.c e.v) (G2.uO (e.a++e.b)) w) s3 G3 w'→O9 L (gm L.cs e.c) told news s3=some o→D0 dst L told o news e.st=true→
     ∃ s4 b4 G4 lJ,aB (wY (L.st e.c e.v) (G2.uO (e.a++e.b)) w) s4 G4 w'∧G3.Mn G4∧rQ s3 s4∧lC s4 told=some (o,b4)∧qOk told s4=true∧(b4.map (·.1)).Nodup∧aB X (H4 dst L told o news e.a e.b e.st) (G2.iR G4 (zi dst (wM L.pin b4)) lJ (C7 news)) w'∧
      (∀ act,bQ G st act→bQ (G2.iR G4 (zi dst (wM L.pin b4)) lJ (C7 news)) (H4 dst L told o news e.a e.b e.st) act):=fun {told o news s3 G3 w'} hbo m3 hrn tZ=>by
    unfold O9 at hrn;split at hrn
    ·cases hrn
    ·rename_i s4 hs4
     split at hrn
     ·cases hrn
     ·rename_i o' b4 AD
      cases hk:(vN s4 L.cs&&Aj (gm L.cs e.c++b4)&&y4 L.cp s4&&y4 (news.map fun p=>(p.1,p.2.1)) s4&&qOk told s4&&Gc L.pin b4) with
      |false=>simp[hk] at hrn
      |true=>
       simp only[hk,aja,Ob] at hrn;subst hrn;simp only[Q3] at hk;obtain⟨⟨⟨⟨⟨q1,q2⟩,q3⟩,q4⟩,q5⟩,q6⟩:=hk;have hb4:=hbo.iZ (oz hs4);obtain⟨G4,m4,a4,k4⟩:=od hs4 m3;have M:=ZD EN hbc.1 hbc.2 AD q1 q2 q3 q4 hb4 tZ q6;have hn4:(b4.map (·.1)).Nodup:=by have:=q2;simp only[Aj,Q3] at this;have:=eN this.1;rw[bwa,bba] at this;exact this.2.1
       have Iu:∀ a k,Ed (e.a++DY L.pin e.b) a=some k→zi dst (wM L.pin b4) a=none→G4.ψ k=G2.ψ a:=fun a k hka _=>by
        obtain⟨A',ii⟩:=rx hka;rcases ana.1 ii with ii|ii
        rotate_left
        ·obtain⟨hmb,hpk⟩:=xU.1 ii
         have hl:look (e.a++e.b) k=some (some a,A'):=lA Iv (ara _ hmb);obtain⟨B,hB⟩:=RZ (L:=L) (c:=e.c) (v:=e.v) (.inr (xV EN.rv _ _ _ hmb));have h1:=(m4.ap k _ (UK (show fk k (L.st e.c e.v).pin=true from hpk) hB)).2.2;rw[h1];simp only[Gh.uO,hl]
        obtain⟨p,hp,ek,⟨md,t,hsp⟩,vj⟩:=Ez EN.rc k _ A' ii;obtain⟨⟨pl,sp⟩,rfl⟩:∃ q,q=p:=⟨p,rfl⟩;simp only at ek hsp vj;subst hsp;cases pl with
        |r i=>have hl:=EN.ON;simp only[yY,Q3,aqa] at hl;have:=hl.2 _ hp;simp at this
        |q i j=>have hl:=EN.ON;simp only[yY,Q3,aqa] at hl;have:=hl.2 _ hp;simp at this
        |l q j=>
         have hq:=V8 EN.ON (aya _ hp) rfl;obtain⟨⟨q',n⟩,hqm,rfl⟩:=a0a.1 hq;have bf:=Rq EN.ON hqm;have ho:(L.st e.c e.v).dT q' = some (pG (cj L.cs e.c) (cj L.vs e.v) q' 0 n):=
          uy (f:=fun p=>pG (cj L.cs e.c) (cj L.vs e.v) p.1 0 p.2) (J0 EN.ON) hqm
         simp only[vN,Q3,aqa] at q1;have hlf:=VV (A9 (v:=e.c) (eN q1.1)) hp;have hjn:j<n:=by
          obtain⟨sl,e1,e2⟩:=oX EN.ob hqm;simp only at e1 e2;simp only[St.at,e1] at vj;cases hj:sl[j]? with
          |none=>rw[hj] at vj;simp at vj
          |some l=>have:=(ama.1 hj).1;omega
         have hjt:(pG (cj L.cs e.c) (cj L.vs e.v) q' 0 n)[j]? = some .vb:=zb hjn (by rw[aWa];exact hlf)
         have h5:=q1.2 _ hp;simp only[IG,Q3] at h5;have h6:=h5.1;split at h6
         ·rename_i ls4 e4
          split at h6
          ·rename_i Oj
           obtain⟨arr,elem,u,b1,b2,b3⟩:=Nl Ar bf ho hlf hjt;obtain⟨arr',Ps,u',b4',b5,b6⟩:=VF Ar ho hjt hlf;rw[b1] at b4';simp only[Ob,Obj.cells.injEq] at b4';obtain⟨rfl,_⟩:=b4';rw[b2] at b5;cases b5;obtain⟨_,_,Yn,YE,c1,c2⟩:=m4.bv _ _ _ b3;have agt:et s4.cK q' j=some (.mX (Pl.l q' j).key):=by rw[hb4.2.2.1];exact hlf
           obtain⟨aen,ag4,u3,d1,d2,d3⟩:=VF m4 e4 Oj agt;rw[c1] at d1;simp only[Ob,Obj.cells.injEq] at d1;obtain⟨rfl,_⟩:=d1;rw[c2] at d2;cases d2;have f1:u=G4.ψ (Pl.l q' j).key:=d3;have f2:u=(G2.uO (e.a++e.b)).ψ (Pl.l q' j).key:=b6;have f3:look (e.a++e.b) (Pl.l q' j).key=some (some a,A'):=lA Iv (aya _ (by rw[←ek];exact ii))
           rw[ek,←f1,f2];simp only[Gh.uO,f3]
          ·cases h6
         ·cases h6
       have jK:∀ x b,fq (G2.uO (e.a++e.b)) (L.st e.c e.v) x b→∃ x',fq G2 e.st x' b∧((∃ o,x=(false,o)∧x' = (false,o))∨∃ nm a A,x=(true,nm)∧x' = (true,a)∧look (e.a++e.b) nm=some (some a,A)):=fun x b hx=>by
        obtain⟨x',h1,h2⟩:=N.gK x b hx;refine⟨x',?_,h2⟩;obtain⟨kd,nn⟩:=x';cases kd with
        |false=>obtain⟨⟨ls,hl⟩,e⟩:=h1;exact⟨⟨ls,by rw[Ku EN];exact hl⟩,e⟩
        |true=>obtain⟨⟨A,hA,hs⟩,e⟩:=h1;exact⟨⟨A,by rw[Kt EN];exact hA,hs⟩,e⟩
       have m5:=M.ok me jK Ar m4 Iu;refine⟨s4,b4,G4,_,m4,a4,k4,AD,q5,hn4,m5,fun act ra=>M.eH m4.s0 ?_⟩;refine ra.sub a02 ?_ fun i=>?_<;>rw[EN.st'];rfl
   have JU:∀ s3 G3 w' act,ub L e.c s3→aB (wY (L.st e.c e.v) (G2.uO (e.a++e.b)) w) s3 G3 w'→bQ G3 s3 act→out e.c s3=some x→act.defers=[]∧∃ v,(results fn act.tmps).run P w' = .ok v w'∧
     ∃ av st' G',aB X st' G' w'∧(∀ act,bQ G st act→bQ G' st' act)∧aU G' av v∧K av st' = some r:=fun s3 G3 w' act hbo m3 r3 ho=>by
    refine⟨r3.1.trans m3.ds,?_⟩;obtain⟨avs,told,o,news,g0,g1,g3⟩:=h2 _ _ _ ho;rw[g3] at hr;cases tZ:D0 dst L told o news e.st with
    |false=>simp[tZ] at hr
    |true=>
     simp only[tZ,aja] at hr;obtain⟨zv,iM,hav⟩:=KH hE.iK m3 r3 g0;obtain⟨s4,b4,G4,lJ,m4,a4,k4,AD,hqk,hn4,m5,rg⟩:=iR (s3:=RU L.pin avs s3) ⟨hbo.1,hbo.2.1,hbo.2.2.1,hbo.2.2.2⟩ (m3.Xq rfl rfl rfl rfl rfl rfl) g1 tZ;refine⟨_,iM,_,_,_,m5,rg,?_,hr⟩;obtain⟨f1,f2,f3,f4,f5,f6,f7⟩:=D3 tZ;have hvl:zv.length=fn.results.toList.length:=by rw[←All2.length hav,EB g0]
     rw[←hvl]
     conv=>arg 3;rw[←TT zv]
     have hφ4:∀ q tl,(L.st e.c e.v).dT q=some tl→G4.φ q=G2.φ q∧G4.pre q=G2.pre q:=fun q tl hq=>by obtain⟨n,hqm,_⟩:=xT hq;have:=(m4.pin q _ (PN (Rq EN.ON hqm) hq)).2;simp only[aia] at this;exact⟨this.1.symm,this.2.1.symm⟩
     have ae1:∀ p∈news,(L.st e.c e.v).dT p.2.2=none:=fun p hp=>by
      cases ht:(L.st e.c e.v).dT p.2.2 with
      |none=>rfl
      |some tl=>obtain⟨n,hqm,_⟩:=xT ht;obtain⟨ls,Oj,_⟩:=oX (Ij EN) hqm;rw[(f3 p hp).1] at Oj;cases Oj
     have acj:∀{pl:Pl} {sp:mT},(pl,sp)∈told→∀ q off,sp=.lit (.lB q off)→(∃ tl,(L.st e.c e.v).dT q=some tl)∨q∈news.map (·.1):=fun {pl sp} e1 q off hs=>
      (f7 _ e1 q off hs).imp (fun hq=>vP (f:=fun p=>pG (cj L.cs e.c) (cj L.vs e.v) p.1 0 p.2) hq) id
     have acn:∀ i,(fk (Pl.r i).key L.pin=false∨(s4.uN i).qls≠none)→aU G4 (s4.uN i) (zv.getD (i - 500000) undef):=fun i hpi=>by
      unfold St.uN;cases hs:s4.iz i with
      |none=>trivial
      |some v=>
       have hsv:s4.uN i=v:=by unfold St.uN;rw[hs]
       rw[k4.iz] at hs;have Ca:look (pv 500000 avs) i=some v:=by
        have qx:s3.jw=[]:=by
         rw[hbo.2.1];have hl:=EN.ON;simp only[yY,Q3,aqa] at hl;have key:∀{cs:lm} {c:PV cs},(∀ p∈cs,(match p.1 with | .l _ _=>true|_=>false)=true)→mb cs c=[]:=by
          intro cs;induction cs with
          |nil=>intro c _;rfl
          |cons p r ih=>
           intro c h;obtain⟨pl,sp⟩:=p;cases pl with
           |r i=>have:=h _ (awa ..);simp at this
           |q i j=>have:=h _ (awa ..);simp at this
           |l o j=>exact ih fun p hp=>h p (Q8 _ hp)
         exact key hl.2
        have:(RU L.pin avs s3).iz i=(match look (pv 500000 avs++E7 L.pin s3) i with|some v=>some v|none=>look s3.jw i):=rfl
        rw[this,qx,iE] at hs;cases hq:look (pv 500000 avs) i with
        |some u=>rw[hq] at hs;exact hs
        |none=>
         rw[hq] at hs;simp only at hs;cases hp:look (E7 L.pin s3) i with
         |none=>rw[hp] at hs;cases hs
         |some u=>
          rcases hpi with hpi|hpi
          ·rw[RR hpi] at hp;cases hp
          ·rw[hp] at hs
           cases hs;rw[hsv] at hpi;exact absurd (TL hp) hpi
       obtain⟨j,u,q1,q2,q3⟩:=DK hav Ca;have:zv.getD (i - 500000) undef=u:=by rw[q1,bea,a9a,q2];rfl
       rw[this];exact q3.sub a4
     have aeC:=Kg AD (dst:=dst) (news:=news) (pin:=L.pin) (ba:=e.b);refine abD (fun i av hl=>?_) _;unfold Sq at hl;rw[iE] at hl;cases hlr:look (KG dst L.pin news told o) i with
     |some av'=>
      rw[hlr] at hl;cases hl;obtain⟨sp,x',bp,e1,e2,e3,rfl⟩:=aeC.2.1 hlr;cases hpi:fk (Pl.r i).key L.pin with
      |true=>exact⟨.inl ⟨_,rfl⟩,by unfold zh;rw[hpi];trivial⟩
      |false=>exact⟨.inl ⟨_,rfl⟩,Fg (t:=L.st e.c e.v) (p:=.r i) e2 e3 hn4 ⟨_,_,m4⟩ hφ4 f5 ae1 (acj e1) (acn i (.inl hpi))⟩
     |none=>
      rw[hlr] at hl;simp only at hl;have ii:=ep hl;obtain⟨⟨k,n⟩,hk1,hk2⟩:=a0a.1 ii;simp only[aia] at hk2;obtain⟨rfl,rfl⟩:=hk2;refine⟨.inr ⟨_,rfl⟩,?_⟩;have hq4:=aqa.1 hqk _ hk1;split at hq4
      ·rename_i ls Oj
       obtain⟨cs,c1,c2⟩:=Z3 m4 Oj (acn k (.inr (by rw[Oj];exact fun h=>by cases h)))
       refine⟨cs,c1,TQ (R:=aY G4) (sl:=ls) (fun j a lf u ha hlf hu=>?_) n 0 ls cs (Q4 hq4) (fun k=>by rw[aWa]) c2⟩
       obtain⟨sp,x',bp,e1,e2,e3,rfl⟩:=aeC.2.2.1 hlf;exact Fg (t:=L.st e.c e.v) (p:=.q k j) e2 e3 hn4 ⟨_,_,m4⟩ hφ4 f5 ae1 (acj e1) (by
        simp only[St.at,Oj,ha];exact hu)
      ·cases hq4
   have adq:∀ av u s3 G3 w',ub L e.c s3→aB (wY (L.st e.c e.v) (G2.uO (e.a++e.b)) w) s3 G3 w'→aU G3 av u→pout e.c av s3=some x→∃ av st' G',aB X st' G' w'∧aU G' av u∧KP av st' = some r:=fun av u s3 G3 w' hbo m3 hv ho=>by
    obtain⟨T,ls,rfl,hd,g1,g2⟩:=h3 _ _ _ _ ho;rw[g2] at hr;obtain⟨s4,b4,G4,lJ,m4,a4,k4,AD,hqk,hn4,m5,rg⟩:=iR hbo m3 g1 (by simp[D0,sj,ou])
    refine⟨_,_,_,m5,?_,hr⟩;obtain⟨x',cs,e1,e2,e3⟩:=hv;exact⟨x',cs,e1,e2,ab5 (G:=G4) (G':=G2.iR G4 (zi dst (wM L.pin b4)) lJ (C7 [])) rfl hd (HD a4 e3)⟩
   refine⟨Bg _ _,calls_of_wp hf hb ?_⟩;have hx1:=(Qj hE.QX hE.acx body (K':=fun e' s=>gd L e.c s (match e' with | .normal=>out e.c s | .ret=>out e.c s|_=>none))
    (KP':=fun av s=>gd L e.c s (pout e.c av s)) (fun e s hs=>(JQ ⟨hs.1.symm,hs.2.1,hs.2.2.1,hs.2.2.2⟩).symm) (fun av s hs=>(JQ ⟨hs.1.symm,hs.2.1,hs.2.2.1,hs.2.2.2⟩).symm)).symm.trans hx1
   refine z6 hE BM body hL hx1 hmi xC (fun e s G3 w' act m3 r3 hk=>?_) (fun av v s G3 w' act m3 r3 hv hk=>?_)
   ·obtain⟨hbo,hk⟩:=EU hk
    cases e with
    |normal=>exact JU s G3 w' act hbo m3 r3 hk
    |ret=>exact JU s G3 w' act hbo m3 r3 hk
    |_=>cases hk
   ·obtain⟨hbo,hk⟩:=EU hk
    obtain⟨av',st',G',q1,q2,q3⟩:=adq av v s G3 w' hbo m3 hv hk;exact⟨r3.trans m3.ds,_,rfl,av',st',G',q1,q2,q3⟩
end
end Go.Fx
namespace Go.Fx
def WN:TD→TypeDesc→Bool
 |.int k,.int k'=>decide (k=k')
 |.bool,.bool=>true
 |.str,.string=>true
 |.slice e,.slice e'=>Nat.beq e e'
 |.struct fs,.struct oq=>decide (fs=oq.toList.map fun f=>(f.offset,f.type))
 |.lB e,.pointer e'=>Nat.beq e e'
 |.arr n e,.array n' e'=>Nat.beq n n'&&Nat.beq e e'
 |.mp k v,.map k' v'=>Nat.beq k k'&&Nat.beq v v'
 |.ZQ,d=>!d.isRow&&(match d with | .int _=>false | .string=>false | .slice _=>false|_=>true)
 |_,_=>false
theorem aay{x:TD}{d:TypeDesc}(h:WN x d=true):zn x d:=by
 cases x<;>cases d<;>simp_all[WN,zn]
 all_goals first|exact Q4 h|exact⟨Q4 h.1,Q4 h.2⟩|skip
def afl:Kd→Kd→Bool
 |.int k,.int k'=>decide (k=k')
 |.bool,.bool=>true
 |.str,.str=>true
 |_,_=>false
def V3:List Kd→List Kd→Bool
 |[],[]=>true
 |a::r,b::s=>afl a b&&V3 r s
 |_,_=>false
theorem S9:∀{a b:List Kd},V3 a b=true→a=b
 |[],[],_=>rfl
 |x::r,y::s,h=>by simp only[V3,Q3] at h;rw[S9 h.2];have:=h.1;cases x<;>cases y<;>simp_all[afl]
 |[],_::_,h=>by cases h
 |_::_,[],h=>by cases h
def adH(P:Program)(ti:TI):Bool:=
 match ti.iS with
 |.mp k v=>(match P.underlying k,P.underlying v,(P.info? v).bind (·.zero) with
  |some .string,some (.int .i64),some (.int .i64 n)=>decide (n=0)
  |_,_,_=>false)
 |_=>true
theorem abf{P:Program}{ti:TI}(h:adH P ti=true):∀ k v,ti.iS=.mp k v→P.underlying k=some .string∧P.underlying v=some (.int .i64)∧∃ j,P.info? v=some j∧j.zero=some (.int .i64 0):=fun k v hd=>by
 unfold adH at h;rw[hd] at h;simp only at h;split at h
 ·rename_i n h1 h2 h3
  obtain⟨j,h4,h5⟩:=ata.1 h3;have:n=0:=by simpa using h
  exact⟨h1,h2,j,h4,by rw[h5,this]⟩
 ·cases h
def aaS(P:Program)(t:TypeId)(ti:TI):Bool:=
 adH P ti &&
 match ti.iS.agg,ti.ty.bind JZ with
 |true,some ks=>(match CY P 6 t with|some l=>V3 l ks|none=>false)
 |_,_=>true
theorem afU{P:Program}{t:TypeId}{i:TypeInfo}{d:TypeDesc}{ti:TI}(h1:P.info? t=some i)(h2:P.underlying t=some d)(h3:i.zero.isSome=true)(h4:(i.zero.getD undef).cells.toList=ti.zero)
  (h5:(WN ti.iS d&&Nat.beq i.size ti.size&&Nat.beq i.bytes ti.bytes&&(ti.iS.agg||Nat.beq ti.size 1)&&Nat.beq ti.zero.length ti.size)=true) (h6:aaS P t ti=true):Ai P t ti:=by
 simp only[Q3,a6a] at h5;obtain⟨⟨⟨⟨a,b⟩,c⟩,e⟩,f⟩:=h5;refine⟨i,d,i.zero.getD undef,h1,h2,Q4 b,Q4 c,?_,h4,aay a,fun hn=>?_,Q4 f,fun ks h7 h8=>?_,abf (by unfold aaS at h6;simp only[Q3] at h6;exact h6.1)⟩
 ·cases hz:i.zero with
  |none=>rw[hz] at h3;cases h3
  |some z=>rfl
 ·rcases e with e|e
  ·rw[hn] at e;cases e
  ·exact Q4 e
 ·unfold aaS at h6
  simp only[Q3] at h6
  replace h6:=h6.2
  rw[h7,h8] at h6;simp only at h6;split at h6
  ·rename_i l hl;rw[hl,S9 h6]
  ·cases h6
def aaI(P:Program):List (Nat×TI)→Prop
 |[]=>True
 |p::r=>Ai P p.1 p.2∧aaI P r
theorem WM{P:Program}:∀{l:List (Nat×TI)},aaI P l→iQ P (look l)
 |[],_,t,ti,h=>by cases h
 |p::r,hl,t,ti,h=>by
  obtain⟨k,v⟩:=p;rw[aw] at h;by_cases e:k=t
  ·subst e;simp only[ava,Ob] at h;subst h;exact hl.1
  ·simp only[e,aka] at h;exact WM hl.2 t ti h
def Th{α:Type 1}:List (Nat×α)→Nat→Option α
 |[],_=>none
 |(k,v)::r,i=>bif Nat.beq k i then some v else Th r i
theorem Bz{α:Type 1}:∀{l:List (Nat×α)} {k:Nat} {v:α},Th l k=some v→(k,v)∈l
 |(k',v')::r,k,v,h=>by
  simp only[Th] at h;cases hb:Nat.beq k' k with
  |true=>simp only[hb,aja,Ob] at h;obtain rfl:=Q4 hb;subst h;exact awa ..
  |false=>simp only[hb,aoa] at h;exact Q8 _ (Bz h)
structure ld(P:Program)(gt:Nat→Option GA)(f:FuncId)(s:iL):Prop where
 ok:AZ P gt f s
 det:pt s
 QX:nE s
def Sg(P:Program)(gt:Nat→Option GA):List (Nat×iL)→Prop
 |[]=>True
 |p::r=>ld P gt p.1 p.2∧Sg P gt r
theorem Sg.mem{P:Program}{gt:Nat→Option GA}:∀{l:List (Nat×iL)},Sg P gt l→∀ p∈l,ld P gt p.1 p.2
 |[],_,_,h=>by cases h
 |q::r,hl,p,h=>by
  rcases ala.1 h with rfl|h
  ·exact hl.1
  ·exact hl.2.mem p h
def Sf:List (Nat×lM)→Prop
 |[]=>True
 |p::r=>AT p.2∧Sf r
theorem Sf.mem:∀{l:List (Nat×lM)},Sf l→∀ p∈l,AT p.2
 |[],_,_,h=>by cases h
 |q::r,hl,p,h=>by
  rcases ala.1 h with rfl|h
  ·exact hl.1
  ·exact hl.2.mem p h
def ab9(gt:Nat→Option GA)(iK:List (Nat×TI))(abH:List (Nat×iL))(oE:List (Nat×lM))(on:List (Nat×Nat)):tr:=
 ⟨gt,look iK,Th abH,Th oE,fun n=>match look on n with|some o=>o|none=>n+10000⟩
theorem ac6{P:Program}{gt:Nat→Option GA}{iK:List (Nat×TI)}{abH:List (Nat×iL)}{oE:List (Nat×lM)}{on:List (Nat×Nat)}(Y2:P.follows .mixedOrders=true)(ht:aaI P iK)(hs:Sg P gt abH)(hl:Sf oE):FV P (ab9 gt iK abH oE on):=
 ⟨WM ht,Y2,fun f s h=>(hs.mem _ (Bz h)).ok,fun f s h=>(hs.mem _ (Bz h)).det,fun f s h=>(hs.mem _ (Bz h)).QX,fun i L h=>hl.mem _ (Bz h)⟩
def Ud:lm→List Ty
 |[]=>[]
 |(_,.d t)::r=>t::Ud r
 |(_,.h _ t)::r=>.slice t::Ud r
 |(_,.any)::r=>Ud r
 |(_,.lit _)::r=>Ud r
def Nz:(ps:lm)→PV ps→DL (Ud ps)
 |[],_=>()
 |(_,.d _)::r,v=>(v.1,Nz r v.2)
 |(_,.h _ _)::r,v=>(v.1,Nz r v.2)
 |(_,.any)::r,v=>Nz r v.2
 |(_,.lit _)::r,v=>Nz r v.2
def toPV:(ps:lm)→DL (Ud ps)→PV ps
 |[],_=>()
 |(_,.d _)::r,v=>(v.1,toPV r v.2)
 |(_,.h _ _)::r,v=>(v.1,toPV r v.2)
 |(_,.any)::r,v=>((),toPV r v)
 |(_,.lit _)::r,v=>((),toPV r v)
theorem QA:∀{ps:lm} {v:PV ps},toPV ps (Nz ps v)=v
 |[],_=>rfl
 |(_,.d _)::r,v=>by show(v.1,toPV r (Nz r v.2))=v;rw[QA]
 |(_,.h _ _)::r,v=>by show(v.1,toPV r (Nz r v.2))=v;rw[QA]
 |(_,.any)::r,v=>by show((),toPV r (Nz r v.2))=v;rw[QA]
 |(_,.lit _)::r,v=>by show((),toPV r (Nz r v.2))=v;rw[QA]
def PA:(ts:List Ty)→List ai→Option (DL ts)
 |[],[]=>some ()
 |t::ts,.fy u d::r=>(match wc u t d,PA ts r with|some x,some y=>some (x,y)|_,_=>none)
 |_,_=>none
def Yw:(ts:List Ty)→DL ts→List ai
 |[],_=>[]
 |t::r,d=>.fy t d.1::Yw r d.2
theorem Ir:∀{ts:List Ty} {ls:List ai} {d:DL ts},PA ts ls=some d→wG ls=true∧Yw ts d=ls
 |[],[],_,_=>⟨rfl,rfl⟩
 |t::ts,.fy u x::r,d,h=>by
  simp only[PA] at h;split at h
  ·rename_i x' y h1 h2
   simp only[Ob] at h;subst h;obtain⟨e1,e2⟩:=Ir h2;obtain⟨rfl,rfl⟩:=lX h1;exact⟨e1,by simp[Yw,e2]⟩
  ·cases h
 |[],_::_,_,h=>by cases h
 |_::_,[],_,h=>by cases h
 |_::_,.any::_,_,h=>by cases h
 |_::_,.vU::_,_,h=>by cases h
 |_::_,.vb::_,_,h=>by cases h
 |_::_,.nil::_,_,h=>by cases h
 |_::_,.J7::_,_,h=>by cases h
 |_::_,.mX _::_,_,h=>by cases h
 |_::_,.lB _ _::_,_,h=>by cases h
 |_::_,.DX _ _ _ _::_,_,h=>by cases h
 |_::_,.Pa _ _ _::_,_,h=>by cases h
 |_::_,.fn _::_,_,h=>by cases h
 |_::_,.ga _ _::_,_,h=>by cases h
inductive VO where
 |ret (told:lm) (news:List (Nat×Nat×Nat))|AE (T:TypeId) (ts:List Ty)
def VO.tys:VO→List Ty
 |.ret told _=>Ud told
 |.AE _ ts=>ts
@[reducible] def WO:List VO→Type
 |[]=>Empty
 |[v]=>DL v.tys
 |v::u::r=>DL v.tys⊕WO (u::r)
def VO.out(L:qv)(al:AL)(s:St):(v:VO)→Option (DL v.tys)
 |.ret told news=>(O9 L al told news s).map (Nz told)
 |.AE _ _=>none
def VO.pout(L:qv)(al:AL)(av:af)(s:St):(v:VO)→Option (DL v.tys)
 |.ret _ _=>none
 |.AE T ts=>(match av with
  |.Au T' ls=>(bif Nat.beq T T' then(match O9 L al [] [] s with|some _=>PA ts ls|none=>none) else none)
  |_=>none)
def VO.dk(res:List Nat){R:Type}:(v:VO)→DL v.tys→((told:lm)→PV told→List (Nat×Nat×Nat)→List Nat→Option R)→(TypeId→List ai→Option R)→Option R
 |.ret told news,d,f,_=>f told (toPV told d) news res
 |.AE T ts,d,_,g=>g T (Yw ts d)
def abp(L:qv)(al:AL)(s:St):(vs:List VO)→Option (WO vs)
 |[]=>none
 |[v]=>v.out L al s
 |v::u::r=>(match v.out L al s with|some o=>some (.inl o)|none=>(abp L al s (u::r)).map .inr)
def Wr(L:qv)(al:AL)(av:af)(s:St):(vs:List VO)→Option (WO vs)
 |[]=>none
 |[v]=>v.pout L al av s
 |v::u::r=>(match v.pout L al av s with|some o=>some (.inl o)|none=>(Wr L al av s (u::r)).map .inr)
def zJ(res:List Nat):(vs:List VO)→DkO (WO vs)
 |[]=>fun _ x _ _=>x.elim
 |[v]=>fun _ x f g=>v.dk res x f g
 |v::u::r=>fun R x f g=>(match x with | .inl o=>v.dk res o f g | .inr y=>zJ res (u::r) R y f g)
theorem aaC(res:List Nat)(v:VO)(d:DL v.tys):(∃ told o news agU,∀(R:Type) (f:(told:lm)→PV told→List (Nat×Nat×Nat)→List Nat→Option R) g,v.dk res d f g=f told o news agU)∨
  ∃ T ls,∀(R:Type) (f:(told:lm)→PV told→List (Nat×Nat×Nat)→List Nat→Option R) g,v.dk res d f g=g T ls:=by
 cases v with
 |ret told news=>exact .inl ⟨_,_,_,_,fun _ _ _=>rfl⟩
 |AE T ts=>exact .inr ⟨_,_,fun _ _ _=>rfl⟩
theorem MK(res:List Nat):∀(vs:List VO),acQ (zJ res vs)
 |[],x=>x.elim
 |[v],x=>aaC res v x
 |v::u::r,.inl d=>aaC res v d
 |v::u::r,.inr y=>MK res (u::r) y
theorem WU{L:qv}{al:AL}{s:St}{res:List Nat}{v:VO}{x:DL v.tys}(h:v.out L al s=some x):
  ∃ told o news,O9 L al told news s=some o∧∀(R:Type) (f:(told:lm)→PV told→List (Nat×Nat×Nat)→List Nat→Option R) g,v.dk res x f g=f told o news res:=by
 cases v with
 |ret told news=>obtain⟨o,h1,rfl⟩:=aKa.1 h;exact⟨told,o,news,h1,fun R f g=>by simp only[VO.dk,QA]⟩
 |AE T ts=>cases h
theorem Wj{L:qv}{al:AL}{s:St}{res:List Nat}:∀{vs:List VO} {x:WO vs},abp L al s vs=some x→
  ∃ told o news,O9 L al told news s=some o∧∀(R:Type) (f:(told:lm)→PV told→List (Nat×Nat×Nat)→List Nat→Option R) g,zJ res vs R x f g=f told o news res
 |[],x,h=>by cases h
 |[v],x,h=>WU h
 |v::u::r,x,h=>by
  simp only[abp] at h;split at h
  ·rename_i o ho
   simp only[Ob] at h;subst h;exact WU ho
  ·obtain⟨y,h1,rfl⟩:=aKa.1 h
   exact Wj (vs:=u::r) h1
theorem Uh{L:qv}{al:AL}{s:St}{av:af}{res:List Nat}{v:VO}{x:DL v.tys}(h:v.pout L al av s=some x):
  ∃ T ls,av=.Au T ls∧wG ls=true∧O9 L al [] [] s=some ()∧∀(R:Type) (f:(told:lm)→PV told→List (Nat×Nat×Nat)→List Nat→Option R) g,v.dk res x f g=g T ls:=by
 cases v with
 |ret told news=>cases h
 |AE T ts=>
  simp only[VO.pout] at h;split at h
  ·rename_i T' ls
   cases hb:Nat.beq T T' with
   |false=>simp[hb] at h
   |true=>
    simp only[hb,aja] at h;obtain rfl:=Q4 hb;split at h
    ·rename_i u hu
     obtain⟨e1,e2⟩:=Ir h;exact⟨T,ls,rfl,e1,hu,fun R f g=>by simp only[VO.dk,e2]⟩
    ·cases h
  ·cases h
theorem TM{L:qv}{al:AL}{s:St}{av:af}{res:List Nat}:∀{vs:List VO} {x:WO vs},Wr L al av s vs=some x→
  ∃ T ls,av=.Au T ls∧wG ls=true∧O9 L al [] [] s=some ()∧∀(R:Type) (f:(told:lm)→PV told→List (Nat×Nat×Nat)→List Nat→Option R) g,zJ res vs R x f g=g T ls
 |[],x,h=>by cases h
 |[v],x,h=>Uh h
 |v::u::r,x,h=>by
  simp only[Wr] at h;split at h
  ·rename_i o ho
   simp only[Ob] at h;subst h;exact Uh ho
  ·obtain⟨y,h1,rfl⟩:=aKa.1 h
   exact TM (vs:=u::r) h1
def rR(f:Func):Code:=f.body.getD .skip
def kO1(E:tr)(rv:List ResultVar)(L:qv)(vs:List VO)(c:PV L.cs)(s:St):Option (WO vs):=
 match LJ E s rv with
 |some avs=>abp L (gm L.cs c) (RU L.pin avs s) vs
 |none=>none
def kO(E:tr)(rv:List ResultVar)(L:qv)(vs:List VO)(c:PV L.cs)(e:Exit)(s:St):Option (WO vs):=
 match e with
 |.normal=>kO1 E rv L vs c s
 |.ret=>kO1 E rv L vs c s
 |_=>none
def kP(L:qv)(vs:List VO)(c:PV L.cs)(av:af)(s:St):Option (WO vs):=Wr L (gm L.cs c) av s vs
theorem YP{P:Program}{E:tr}(hE:FV P E){f:FuncId}{fn:Func}{L:qv}{vs:List VO}{res:List Nat}{F:PV L.cs→PV L.vs→Option (WO vs)}
  (hf:P.funcs[f]? = some fn) (Bg:∀ args w,(callFunc f args).run P w=.ok (.enter f args) w) (hb:fn.body.isSome=true) (hL:ta P E (rR fn)) (hn:Nat.beq fn.ntmps L.n=true) (Bj:I5 fn.results.toList.length=res)
  (h:∀ c v,F c v=tB E (rR fn) (L.st c v) (kO E fn.results.toList L vs c) (kP L vs c)):ld P E.gt f (mg L F (zJ res vs)):=by
 have It:fn.body=some (rR fn):=by
  unfold rR;cases hh:fn.body with
  |none=>rw[hh] at hb;cases hb
  |some b=>rfl
 refine⟨ada hE hf It Bg hL (Q4 hn) (out:=fun c s=>kO1 E fn.results.toList L vs c s) (pout:=kP L vs) (fun c v x hx=>?_) (fun c s x hx=>?_) (fun c av s x hx=>TM hx),T1 _ _ _ (MK res vs),Qn _ _ _ (MK res vs)⟩
 ·rw[←hx,h]
  rfl
 ·simp only[kO1] at hx
  split at hx
  ·rename_i avs hav
   obtain⟨told,o,news,g1,g2⟩:=Wj (res:=res) hx;exact⟨avs,told,o,news,hav,g1,by rw[Bj];exact g2⟩
  ·cases hx
theorem cU{P:Program}{gt:Nat→Option GA}{f:FuncId}{L:qv}{vs:List VO}{res:List Nat}{F:PV L.cs→PV L.vs→Option (WO vs)}(h:∀ c v,F c v=none):ld P gt f (mg L F (zJ res vs)):=by
 refine⟨fun {R r X st G w dst args us K KP} hr _ _ _=>?_,T1 _ _ _ (MK res vs),Qn _ _ _ (MK res vs)⟩;simp only[mg] at hr;split at hr
 ·cases hr
 ·rw[h] at hr
  rename_i e _;cases hb:(VE L e.st&&QY L.pin e.b e.st)<;>simp[hb] at hr
def kD(E:tr)(rv:List ResultVar)(rs:List Ty)(e:Exit)(s:St):Option (DL rs):=
 match e with
 |.normal=>O8 E rv rs s
 |.ret=>O8 E rv rs s
 |_=>none
theorem Xh{P:Program}{E:tr}(hE:FV P E){f:FuncId}{fn:Func}{ts rs:List Ty}{F:DL ts→Option (DL rs)}
  (hf:P.funcs[f]? = some fn) (Bg:∀ args w,(callFunc f args).run P w=.ok (.enter f args) w) (hb:fn.body.isSome=true) (hL:ta P E (rR fn)) (hn:Nat.ble ts.length fn.ntmps=true)
  (h:∀ d,F d=tB E (rR fn) (stD fn.ntmps ts d) (kD E fn.results.toList rs) (fun _ _=>none)):ld P E.gt f (Az ts rs F id):=by
 have It:fn.body=some (rR fn):=by
  unfold rR;cases hh:fn.body with
  |none=>rw[hh] at hb;cases hb
  |some b=>rfl
 refine⟨aaX hE (pack:=id) (fun r=>rfl) hf It Bg hL (aZa hn) fun d=>?_,BH _ _ _ _,xW _ _ _ _⟩;rw[h]
 congr 1
 funext e s
 cases e<;>simp[kD]
theorem UD{P:Program}{gt:Nat→Option GA}{f:FuncId}{ts rs:List Ty}{F:DL ts→Option (DL rs)}(h:∀ d,F d=none):ld P gt f (Az ts rs F id):=by
 refine⟨fun {R r X st G w dst args us K KP} hr _ _ _=>?_,BH _ _ _ _,xW _ _ _ _⟩;simp only[Az] at hr;split at hr
 ·split at hr
  ·rw[h] at hr;cases hr
  ·cases hr
 ·cases hr
inductive VL where
 |ex (e:Exit) (told:lm)|AE (T:TypeId) (ts:List Ty)
def aaT:Exit→Exit→Bool
 |.normal,.normal=>true
 |.ret,.ret=>true
 |.exit i,.exit j=>Nat.beq i j
 |_,_=>false
theorem aaU{e e':Exit}(h:aaT e e' = true):e=e':=by cases e<;>cases e'<;>simp_all[aaT]
def VL.tys:VL→List Ty
 |.ex _ told=>Ud told
 |.AE _ ts=>ts
@[reducible] def WL:List VL→Type
 |[]=>Empty
 |[v]=>DL v.tys
 |v::u::r=>DL v.tys⊕WL (u::r)
def VL.out(L:qv)(al:AL)(e:Exit)(s:St):(v:VL)→Option (DL v.tys)
 |.ex e' told=>bif aaT e e' then(rnd (L.with told) al s).map (Nz told) else none
 |.AE _ _=>none
def VL.pout(L:qv)(al:AL)(av:af)(s:St):(v:VL)→Option (DL v.tys)
 |.ex _ _=>none
 |.AE T ts=>(match av with
  |.Au T' ls=>(bif Nat.beq T T' then(match rnd (L.with []) al s with|some _=>PA ts ls|none=>none) else none)
  |_=>none)
def VL.dk{R:Type}:(v:VL)→DL v.tys→((e:Exit)→(vs:lm)→PV vs→Option R)→(TypeId→List ai→Option R)→Option R
 |.ex e told,d,f,_=>f e told (toPV told d)
 |.AE T ts,d,_,g=>g T (Yw ts d)
def Xz(L:qv)(al:AL)(e:Exit)(s:St):(vs:List VL)→Option (WL vs)
 |[]=>none
 |[v]=>v.out L al e s
 |v::u::r=>(match v.out L al e s with|some o=>some (.inl o)|none=>(Xz L al e s (u::r)).map .inr)
def Wq(L:qv)(al:AL)(av:af)(s:St):(vs:List VL)→Option (WL vs)
 |[]=>none
 |[v]=>v.pout L al av s
 |v::u::r=>(match v.pout L al av s with|some o=>some (.inl o)|none=>(Wq L al av s (u::r)).map .inr)
def dkL:(vs:List VL)→Dk (WL vs)
 |[]=>fun x _ _=>x.elim
 |[v]=>fun x f g=>v.dk x f g
 |v::u::r=>fun x f g=>(match x with | .inl o=>v.dk o f g | .inr y=>dkL (u::r) y f g)
theorem Ug{L:qv}{al:AL}{e:Exit}{s:St}{v:VL}{x:DL v.tys}(h:v.out L al e s=some x):
  ∃ told o,rnd (L.with told) al s=some o∧∀(R:Type) (f:(e:Exit)→(vs:lm)→PV vs→Option R) g,v.dk x f g=f e told o:=by
 cases v with
 |ex e' told=>
  simp only[VL.out] at h;cases hb:aaT e e' with
  |false=>simp[hb] at h
  |true=>simp only[hb,aja] at h;obtain rfl:=aaU hb;obtain⟨o,h1,rfl⟩:=aKa.1 h;exact⟨told,o,h1,fun R f g=>by simp only[VL.dk,QA]⟩
 |AE T ts=>cases h
theorem RO{L:qv}{al:AL}{e:Exit}{s:St}:∀{vs:List VL} {x:WL vs},Xz L al e s vs=some x→
  ∃ told o,rnd (L.with told) al s=some o∧∀(R:Type) (f:(e:Exit)→(vs:lm)→PV vs→Option R) g,dkL vs (R:=R) x f g=f e told o
 |[],x,h=>by cases h
 |[v],x,h=>Ug h
 |v::u::r,x,h=>by
  simp only[Xz] at h;split at h
  ·rename_i o ho
   simp only[Ob] at h;subst h;exact Ug ho
  ·obtain⟨y,h1,rfl⟩:=aKa.1 h
   exact RO (vs:=u::r) h1
theorem QC{L:qv}{al:AL}{s:St}{av:af}{v:VL}{x:DL v.tys}(h:v.pout L al av s=some x):
  ∃ T ls,av=.Au T ls∧wG ls=true∧rnd (L.with []) al s=some ()∧∀(R:Type) (f:(e:Exit)→(vs:lm)→PV vs→Option R) g,v.dk x f g=g T ls:=by
 cases v with
 |ex e' told=>cases h
 |AE T ts=>
  simp only[VL.pout] at h;split at h
  ·rename_i T' ls
   cases hb:Nat.beq T T' with
   |false=>simp[hb] at h
   |true=>
    simp only[hb,aja] at h;obtain rfl:=Q4 hb;split at h
    ·rename_i u hu
     obtain⟨e1,e2⟩:=Ir h;exact⟨T,ls,rfl,e1,hu,fun R f g=>by simp only[VL.dk,e2]⟩
    ·cases h
  ·cases h
theorem NR{L:qv}{al:AL}{s:St}{av:af}:∀{vs:List VL} {x:WL vs},Wq L al av s vs=some x→
  ∃ T ls,av=.Au T ls∧wG ls=true∧rnd (L.with []) al s=some ()∧∀(R:Type) (f:(e:Exit)→(vs:lm)→PV vs→Option R) g,dkL vs (R:=R) x f g=g T ls
 |[],x,h=>by cases h
 |[v],x,h=>QC h
 |v::u::r,x,h=>by
  simp only[Wq] at h;split at h
  ·rename_i o ho
   simp only[Ob] at h;subst h;exact QC ho
  ·obtain⟨y,h1,rfl⟩:=aKa.1 h
   exact NR (vs:=u::r) h1
def kL(L:qv)(vs:List VL)(c:PV L.cs)(l:PV L.vs→Option (WL vs))(e:Exit)(s:St):Option (WL vs):=
 match e with
 |.normal=>(rnd L (gm L.cs c) s).bind l
 |e=>Xz L (gm L.cs c) e s vs
def kLP(L:qv)(vs:List VL)(c:PV L.cs)(av:af)(s:St):Option (WL vs):=Wq L (gm L.cs c) av s vs
def kR(L:qv)(vs:List VL)(c:PV L.cs)(s:St):Option (WL vs):=Xz L (gm L.cs c) .normal s vs
noncomputable def adE(id:Nat)(c:Code):Option Code:=
 Code.rec (motive:=fun _=>Option Code) none (fun _ _ _=>none)
  (fun _ _ x y=>match x with|some c=>some c|none=>y) (fun _ _ _ x y=>match x with|some c=>some c|none=>y)
  (fun i b x=>bif Nat.beq i id then(match b with | .loop c=>some c|_=>x) else x) (fun _ x=>x) (fun _ _ _ _ x y=>match x with|some c=>some c|none=>y)
  (fun _=>none) (fun _ x=>x) (fun _=>none) (fun _=>none) none (fun _=>none) c
noncomputable def Ek(f:Func)(id:Nat):Code:=(adE id (rR f)).getD .skip
noncomputable def afy(id:Nat)(c:Code):Option (Array Oper):=
 Code.rec (motive:=fun _=>Option (Array Oper)) none (fun i ops d=>bif Nat.beq i id then some ops else none)
  (fun _ _ x y=>match x with|some c=>some c|none=>y) (fun _ _ _ x y=>match x with|some c=>some c|none=>y)
  (fun i b x=>x) (fun _ x=>x) (fun _ _ _ _ x y=>match x with|some c=>some c|none=>y)
  (fun _=>none) (fun _ x=>x) (fun _=>none) (fun _=>none) none (fun _=>none) c
noncomputable def qN(f:Func)(id:Nat):Array Oper:=(afy id (rR f)).getD #[]
noncomputable def aep(f:Func)(id:Nat):Code:=.block id (.loop (Ek f id))
noncomputable def afx(f:Func)(id:Nat):Code:=.region id (qN f id) true
def X8(P:Program)(gt:Nat→Option GA):List (Code×lM)→Prop
 |[]=>True
 |p::r=>u9 P gt p.1 p.2∧X8 P gt r
theorem wd{P:Program}{E:tr}{c:Code}{l:List (Code×lM)}(e:yr E c=l)(h:X8 P E.gt l):ta P E c:=by
 refine Rw e ?_;clear e;induction l with
 |nil=>intro x hx;cases hx
 |cons p r ih=>
  intro x hx;rcases ala.1 hx with rfl|hx
  ·exact h.1
  ·exact ih h.2 x hx
theorem Zx{P:Program}{E:tr}(hE:FV P E){id:Nat}{f:Func}{L:qv}{vs:List VL}{l:Nat→PV L.cs→PV L.vs→Option (WL vs)}(hb:ta P E (Ek f id))(h0:∀ c v,l 0 c v=none)
  (h1:∀ k c v,l (k+1) c v=tB E (Ek f id) (L.st c v) (kL L vs c (l k c)) (kLP L vs c)) (k:Nat):u9 P E.gt (aep f id) (xF id L (l k) (dkL vs)):=
 abd hE (out:=fun c e s=>Xz L (gm L.cs c) e s vs) (pout:=kLP L vs) hb h0 (fun k c v=>by
   rw[h1]
   congr 1)
  (fun c e s x h=>RO h) (fun c av s x h=>NR h) k
theorem abz{P:Program}{E:tr}(hE:FV P E){id:Nat}{f:Func}{L:qv}{vs:List VL}{F:PV L.cs→PV L.vs→Option (WL vs)}{ls:List (List Nat)}
  (hd:DW (qN f id).toList (iY (qN f id).toList [])=true) (hc:jd (qN f id).toList (iY (qN f id).toList []) (qN f id).toList.length []=ls)
  (h1:∀ l∈ls,JH (qN f id).toList l=true∧∀ c v,F c v=Hw E (qN f id).toList (iY (qN f id).toList []) l [] (L.st c v) (kR L vs c) (kLP L vs c)):
  u9 P E.gt (afx f id) (xF (id+1000000) L F (dkL vs)):=
 adS hE hd hc h1 (fun c s x h=>RO h) (fun c av s x h=>NR h)
def Ya{α:Type}(p:α→Prop):List α→Prop
 |[]=>True
 |a::r=>p a∧Ya p r
theorem SN{α:Type}{p:α→Prop}:∀{l:List α},Ya p l→∀ a∈l,p a
 |[],_,_,h=>by cases h
 |b::r,hl,a,h=>by
  rcases ala.1 h with rfl|h
  ·exact hl.1
  ·exact SN hl.2 a h
def aa{α β:Type}(f:β→α)(body:(β→α)→α):α:=body f
abbrev I:Ty:=.int .i64
abbrev U:Ty:=.int .u8
end Go.Fx
namespace Go.Fx
def ai.low:ai→Bool
 |.mX a=>Nat.blt a 1000000000000000000
 |.DX a _ _ _=>Nat.blt a 1000000000000000000
 |.E5 a _ _ _ _=>Nat.blt a 1000000000000000000
 |.nse a _ _ _ _ _ _ _=>Nat.blt a 1000000000000000000
 |.LP a _ _=>Nat.blt a 1000000000000000000
 |_=>true
def af.low:af→Bool
 |.one l=>l.low
 |.agg ls=>ls.all ai.low
 |.KN vs=>vs.all fun p=>p.2.all ai.low
 |.Au _ ls=>ls.all ai.low
theorem Ti{a v q:Nat}{x:af}(h:x.low=true):x.dj true (LC a v q)=false:=by
 have ne:∀{b:Nat},Nat.blt b 1000000000000000000=true→Nat.beq b (LC a v q)=false:=fun {b} hb=>by rw[b5a] at hb;refine vu fun e=>?_;unfold LC at e;omega
 have one:∀{l:ai},l.low=true→l.dj true (LC a v q)=false:=fun {l} h=>by cases l<;>simp only[ai.dj,ai.low,Bool.true_and,cKa,Bool.false_and] at h ⊢<;>exact ne h
 have all:∀{ls:List ai},ls.all ai.low=true→ls.any (ai.dj true (LC a v q))=false:=fun {ls} h=>by rw[aTa];intro l hl;rw[one (aqa.1 h l hl)];simp
 cases x with
 |one l=>exact one h
 |agg ls=>exact all h
 |KN vs=>simp only[af.dj,af.low] at h ⊢;rw[aTa];intro p hp;rw[all (aqa.1 h p hp)];simp
 |Au t ls=>exact all h
def IM(o:Nat)(args:List af):Bool:=args.all fun x=>x.low&&!x.dj false o
def zW(j o:Nat)(s:iL):iL where
 run dst args st K KP:=match (args[j]?).map af.bR with
  |some (.DX a sz i 0)=>(bif R1 st a sz&&IM o args then
   FP st a i o fun s1=>s.run dst (args.set j (.one (.lB o 0))) s1 (fun v s2=>A7 s2 a o (K v)) KP else none)
  |some (.E5 a v sz i off)=>(bif R1 st a sz&&IM (obN a v) args&&Nat.beq v (st.dH a)&&Nat.blt off sz then
   FP st a i (obN a v) fun s1=>s.run dst (args.set j (.one (.mX (LC a v off)))) s1 (fun r s2=>A7 s2 a (obN a v) (K r)) KP else none)
  |_=>s.run dst args st K KP
 Lh args st:=match (args[j]?).map af.bR with
  |some (.DX _ _ _ 0)=>[.all]
  |some (.E5 _ _ _ _ _)=>[.all]
  |_=>s.Lh args st
theorem Zt{j o:Nat}{s:iL}(h:pt s):pt (zW j o s):=by
 intro R dst args st K KP;simp only[zW];have key:∀(H8:List af) (a o:Nat) (s1:St),s.run dst H8 s1 (fun v s2=>A7 s2 a o (K v)) KP=(s.run dst H8 s1 (fun v s2=>A7 s2 a o (oD v)) O5).bind (sk K KP):=fun H8 a o s1=>by
  rw[h dst H8 s1 (fun v s2=>A7 s2 a o (K v)) KP,h dst H8 s1 (fun v s2=>A7 s2 a o (oD v)) O5,Q9]
  congr 1
  funext u
  obtain⟨v,q,b⟩:=u;cases b with
  |true=>simp only[sk,aja];exact SG fun s=>rfl
  |false=>rfl
 split
 ·exact dm (IY fun s1=>key _ _ _ s1) rfl
 ·exact dm (IY fun s1=>key _ _ _ s1) rfl
 ·exact h dst args st K KP
theorem Xo{j o:Nat}{s:iL}(h:nE s):nE (zW j o s):=by
 intro R dst args st K K' KP KP' hK hP;simp only[zW] at hK ⊢;have key:∀(H8:List af) (a o:Nat),(∀ v q,rk [.all] st q→K v q=K' v q)→∀ s1,ky st s1→s1.eH=st.eH→
   s.run dst H8 s1 (fun v s2=>A7 s2 a o (K v)) KP=s.run dst H8 s1 (fun v s2=>A7 s2 a o (K' v)) KP':=fun H8 a o hK s1 b1 r1=>
  h (fun v q hq=>JG fun q' b2 r2=>hK v q' (rk.any (b1.trans (hq.iZ.trans b2)) (r2.trans (hq.eH.trans r1)))) (fun v q hq=>hP v q (b1.trans hq))
 split
 ·rename_i a sz i hl
  rw[hl] at hK;exact aX (Ke fun s1 b1 r1=>key _ _ _ hK s1 b1 r1) rfl
 ·rename_i a v sz i off hl
  rw[hl] at hK;exact aX (Ke fun s1 b1 r1=>key _ _ _ hK s1 b1 r1) rfl
 ·rename_i h1 h2
  refine h (fun v q hq=>hK v q (hq.mono fun p hp=>?_)) hP;split
  ·rename_i a sz i hl;exact absurd hl (h1 a sz i)
  ·rename_i a v sz i off hl;exact absurd hl (h2 a v sz i off)
  ·exact hp
theorem Mp{G:Gh}:∀{args:List af} {vs:List Value} {j:Nat} {x:af} {u:Value},All2 (aU G) args vs→vs[j]? = some u→aU G x u→All2 (aU G) (args.set j x) vs
 |[],[],_,_,_,_,h,_=>by simp at h
 |a::r,v::vs,0,x,u,h,hj,hx=>by simp only[bda,Ob] at hj;subst hj;exact⟨hx,h.2⟩
 |a::r,v::vs,j+1,x,u,h,hj,hx=>⟨h.1,Mp h.2 (by simpa using hj) hx⟩
 |[],_::_,_,_,_,h,_,_=>h.elim
 |_::_,[],_,_,_,h,_,_=>h.elim
theorem abc{P:Program}{gt:Nat→Option GA}{f:FuncId}{j o:Nat}{s:iL}(h:AZ P gt f s):AZ P gt f (zW j o s):=by
 intro R r X st G w dst args vs K KP hr zt hm Ri ha;have key:∀{a i ob:Nat} {x:af} {u:Value},vs[j]? = some u→IM ob args=true→
   FP st a i ob (fun s1=>s.run dst (args.set j x) s1 (fun v s2=>A7 s2 a ob (K v)) KP)=some r→(∀ s1 G1,Yh X st G w a i ob s1 G1→aU G1 x u)→
   (callFunc f vs.toArray).run P w=.ok (.enter f vs.toArray) w∧Calls P f vs.toArray w fun e w'=>match e with
    |.returned v=>∃ av st' G',aB X st' G' w'∧(∀ act,bQ G st act→bQ G' st' act)∧aU G' av v∧K av st' = some r
    |.panicked If=>∃ v,If=[{v,recovered:=false}]∧∃ av st' G',aB X st' G' w'∧aU G' av v∧KP av st' = some r
    |.outgrown=>False:=fun {a i ob x u} hu OI mL hx=>by
  obtain⟨s1,G1,O,iM⟩:=RN mL hm;have ha1:All2 (aU G1) args vs:=ha.vp fun y v hy hv=>by have:=aqa.1 OI y hy;simp only[Q3,aOa] at this;exact O.Oe y v this.2 (fun q=>Ti this.1) hv
  obtain⟨h1,h2⟩:=h iM zt O.Gf (Ri.imp fun act ra=>O.eH act ra) (Mp ha1 hu (hx s1 G1 O));refine⟨h1,h2.mono fun e w' he=>?_⟩;cases e with
  |returned v=>obtain⟨av,st',G',m',r',v',hk⟩:=he;obtain⟨hp1,HG⟩:=Nx hm O.none;obtain⟨s4,G4,m4,r4,l4,hK⟩:=QW hk m' hp1 HG;exact⟨av,s4,G4,m4,fun act ra=>r4 act (r' act (O.eH act ra)),l4 _ _ v',hK⟩
  |panicked If=>obtain⟨v,e1,av,st',G',m',v',hk⟩:=he;exact⟨v,e1,av,st',G',m',v',hk⟩
  |outgrown=>exact he.elim
 have aem:∀{l:ai},(args[j]?).map af.bR=some l→l≠.any→∃ u,vs[j]? = some u∧aY G l u:=fun {l} hl ik=>by
  rw[aKa] at hl;obtain⟨y,hy,he⟩:=hl;obtain⟨u,hu,hr⟩:=ha.vJ hy;refine⟨u,hu,?_⟩;cases y with
  |one l'=>simp only[af.bR] at he;rw[he] at hr;exact hr
  |_=>exact absurd he.symm ik
 simp only[zW] at hr;split at hr
 ·rename_i a sz i hl
  cases hc:(R1 st a sz&&IM o args) with
  |false=>rw[hc] at hr;cases hr
  |true=>
   rw[hc,aja] at hr;simp only[Q3] at hc;obtain⟨u,hu,hru⟩:=aem hl (by simp)
   have m9:=hc.1;unfold R1 at m9;split at m9
   ·rename_i A hA
    obtain rfl:=Q4 m9;exact key hu hc.2 hr fun s1 G1 O=>(O.lB 0 u).2 ⟨A,hA,hru⟩
   ·cases m9
 ·rename_i a v sz i off hl
  cases hc:(R1 st a sz&&IM (obN a v) args&&Nat.beq v (st.dH a)&&Nat.blt off sz) with
  |false=>rw[hc] at hr;cases hr
  |true=>
   rw[hc,aja] at hr;simp only[Q3] at hc;obtain⟨⟨⟨m9,OI⟩,hv⟩,UJ⟩:=hc;obtain rfl:=Q4 hv;rw[b5a] at UJ;obtain⟨u,hu,hru⟩:=aem hl (by simp)
   unfold R1 at m9;split at m9
   ·rename_i A hA
    obtain rfl:=Q4 m9;refine key hu OI hr fun s1 G1 O=>O.abO A off u hA UJ ?_;have hw:∃ x∈args,x.bR=.E5 a (st.dH a) A.t.size i off∧aU G x u:=by rw[aKa] at hl;obtain⟨y,hy,he⟩:=hl;obtain⟨u',hu',hr'⟩:=ha.vJ hy;rw[hu] at hu';cases hu';exact⟨y,a2a hy,he,hr'⟩
    obtain⟨x,hx,hxl,hxr⟩:=hw;have hlx:=aqa.1 OI x hx;simp only[Q3,aOa] at hlx;have:=O.Oe x u hlx.2 (fun q=>Ti hlx.1) hxr;cases x with
    |one l=>simp only[af.bR] at hxl;rw[hxl] at this;exact this
    |_=>cases hxl
   ·cases m9
 ·exact h hr zt hm Ri ha
theorem Xp{P:Program}{gt:Nat→Option GA}{f:FuncId}{j o:Nat}{s:iL}(h:ld P gt f s):ld P gt f (zW j o s):=⟨abc h.ok,Zt h.det,Xo h.QX⟩
end Go.Fx
namespace Go.Fx
theorem aB.Wd{X:mW}{st:St}{G:Gh}{w:World}(hm:aB X st G w){p q:Nat}{ls:List ai}(hpq:p≠q)(hp:st.dT p=some ls)(hq:st.dT q=none)(hb:ls.any ai.pV=false)
    (hX:∀ v,X.pin p≠some v) (hB:∀ j u,X.bv p j≠some u) {F:List (Bool×Nat)} (hF:∀ x∈F,st.dj x.1 x.2=false)
    (hl:(∀ a A,st.arr a=some A→∀ i o,A.md=.Ds i o→o≠q)) (acg:F=[(false,q)]∨(F=[]∧G.φ q=G.φ p∧(G.pre q).length=(G.pre p).length)):
    ∃ G',aB X {st with cp:=(q,ls)::FZ st.cp p} G' w∧(∀ act,bQ G st act→bQ G' {st with cp:=(q,ls)::FZ st.cp p} act)∧
      (∀ x v,(∀ y∈F,x.dj y.1 y.2=false)→aU G x v→aU G' x v)∧G'.φ q=G.φ p∧(G'.pre q).length=(G.pre p).length∧G'.φ p=G.φ p∧G'.pre p=G.pre p:=by
  let G':Gh:={G with φ:=fun o=>if o=q then G.φ p else G.φ o,pre:=fun o=>if o=q then G.pre p else G.pre o,post:=fun o=>if o=q then G.post p else G.post o}
  let s1:St:={st with cp:=(q,ls)::FZ st.cp p}
  have Iw:∀ o,s1.dT o=if q=o then some ls else if p=o then none else st.dT o:=fun o=>by simp only[s1,St.dT,aw,qJ]
  have mL:fq G st (false,p) (G.φ p):=⟨⟨ls,hp⟩,rfl⟩;have Ol:wF X st s1 G G' w w (fun y=>y=(false,p)) (fun y=>y=(false,q)) F:=by
    refine {
             n:=rfl,iz:=fun _=>rfl,bl:=rfl,pn:=rfl,S:=rfl,bR:=fun lf v hlf hr=>?_,fm:=hF,sl:=hm.sl,dT:=fun o l h=>?_,arr:=fun a A hA=>.inr ⟨by simp,hA,rfl,rfl,fun _=>by simp,rfl,fun i o e=>?_⟩,
             gK:=fun y b hy hyo=>?_,qw:=fun y z b hy hz _ _=>hy.trans hz.symm,hv:=hm.hv,old:=fun _ _ _=>rfl,sz:=axa _,os:=rfl,tp:=rfl,out:=rfl,U7:=fun o l ho hpo=>?_,U6:=fun a A _ hA=>⟨⟨A,hA⟩,rfl⟩}
    · rcases acg with rfl|⟨rfl,e1,e2⟩
      · refine aY.leF (G:=G) (G':=G') (F:=[(false,q)]) (fun _ _ h=>h) (fun o ho=>?_) (fun a _=>⟨rfl,axa _,fun _ _=>rfl⟩) hlf hr
        have:o≠q:=fun e=>ho (by rw[e];simp)
        simp[G',this]
      · cases lf with
        |lB o off=>
          by_cases e:o=q
          · subst e
            simp only[aY,G',ava] at hr ⊢;rw[hr,e1,e2]
          · simp only[aY,G',e,aka] at hr ⊢;exact hr
        |fy t d=>exact hr
        |Pa t d off=>exact hr
        |ga t l=>exact hr
        |E5 a v' sz i off=>exact hr
        |nse a v' sz i off s2 j o2=>exact hr
        |_=>exact hr
    · rw[Iw] at h
      by_cases e:q=o
      · subst e
        simp only[ava,Ob] at h;subst h;obtain⟨arr,elem,mid,g1,g2,g3⟩:=hm.ob p ls hp;refine .inl ⟨rfl,arr,elem,mid,by simp only[G',ava];exact g1,by simp only[G',ava];exact g2,?_⟩
        unfold ix at g3 ⊢;rw[vD _ _ _ _ hb] at g3 ⊢;refine g3.vp fun lf v hlm B9=>?_;rcases acg with rfl|⟨rfl,e1,e2⟩
        · refine aY.leF (G:=G) (G':=G') (F:=[(false,q)]) (fun _ _ h=>h) (fun o ho=>?_) (fun a _=>⟨rfl,axa _,fun _ _=>rfl⟩) (fun y hy=>?_) B9
          · have:o≠q:=fun e=>ho (by rw[e];simp)
            simp[G',this]
          · have hmo:=sx (hF y hy) hp 0
            rw[vD _ _ _ _ hb] at hmo;have:=aTa.1 hmo lf hlm;simpa using this
        · cases lf with
          |lB o off=>
            by_cases e:o=q
            · subst e
              simp only[aY,G',ava] at B9 ⊢;rw[B9,e1,e2]
            · simp only[aY,G',e,aka] at B9 ⊢;exact B9
          |fy t d=>exact B9
          |Pa t d off=>exact B9
          |ga t l=>exact B9
          |E5 a v' sz i off=>exact B9
          |nse a v' sz i off s2 j o2=>exact B9
          |_=>exact B9
      · simp only[e,aka] at h
        by_cases e2:p=o
        · simp[e2] at h
        · simp only[e2,aka] at h
          have h1:o≠q:=fun h=>e h.symm;have h2:o≠p:=fun h=>e2 h.symm;exact .inr ⟨by simp[h1],by simp[h2],h,by simp[G',h1],by simp[G',h1],by simp[G',h1]⟩
    · have:o≠q:=hl a A hA i o e
      simp[G',this]
    · subst hy
      obtain⟨_,rfl⟩:=hyo;exact .inl ⟨(false,p),rfl,by simpa[G'] using mL⟩
    · have h1:p≠o:=fun e=>by
        subst e;rcases hpo with ⟨v,hv⟩|⟨j,u,hu⟩
        · exact hX v hv
        · exact hB j u hu
      have h2:q≠o:=fun e=>by rw[←e,hq] at ho;cases ho
      exact⟨by rw[Iw,aBa h2,aBa h1];exact ho,by simpa using fun e=>h2 e.symm⟩
  refine⟨G',Ol.ok hm,fun act=>Ol.eH,fun x v hx hv=>Ol.Td hx hv,by simp[G'],by simp[G'],?_,?_⟩
  · simp[G',hpq]
  · simp[G',hpq]
def Hn(q:Nat)(l:List (Nat×jV)):Bool:=l.all fun p=>!p.2.J2 q
def EA(j o:Nat)(s:iL):iL where
 run dst args st K KP:=match (args[j]?).map af.bR with
  |some (.lB p 0)=>(bif Nat.beq p o then s.run dst args st K KP else(match st.dT p with
   |some ls=>(bif Nat.ble 10000 p&&(st.dT o).isNone&&!st.dj false o&&!ls.any ai.pV&&args.all (fun x=>!x.dj false o)&&(look st.eH st.n).isNone&&(look st.eH (st.n+1)).isNone&&(look st.jw st.n).isNone&&(look st.jw (st.n+1)).isNone then
    s.run dst (args.set j (.one (.lB o 0))) {st with n:=st.n+2,eH:=(st.n,.one (.lB o 0))::(st.n+1,.one (.lB p 0))::st.eH,cp:=(o,ls)::FZ st.cp p}
     (fun v s2=>match s2.dT o,s2.eH with
      |some ls2,(a,.one (.lB o1 0))::(b,.one (.lB p1 0))::rest=>
       (bif Nat.beq a st.n&&Nat.beq b (st.n+1)&&Nat.beq o1 o&&Nat.beq p1 p&&(s2.dT p).isNone&&!ls2.any ai.pV&&Hn p s2.cT&&Hn p s2.gc&&(look rest st.n).isNone&&(look rest (st.n+1)).isNone&&(look s2.jw st.n).isNone&&(look s2.jw (st.n+1)).isNone then
        K v {s2 with n:=st.n,eH:=rest,cp:=(p,ls2)::FZ s2.cp o} else none)
      |_,_=>none)
     (fun v s2=>KP v {s2 with n:=st.n,eH:=st.eH}) else none)
   |none=>none))
  |_=>s.run dst args st K KP
 Lh args st:=match (args[j]?).map af.bR with
  |some (.lB p 0)=>bif Nat.beq p o then s.Lh args st else [.all]
  |_=>s.Lh args st
theorem abA{j o:Nat}{s:iL}(h:pt s):pt (EA j o s):=by
 intro R dst args st K KP;simp only[EA];split
 ·rename_i p hl
  refine dm (h dst args st K KP) ?_;split
  ·rename_i ls ho
   refine dm ?_ rfl;rw[h dst _ _ _ _,h dst _ _ (fun v s2=>match s2.dT o,s2.eH with
     |some ls2,(a,.one (.lB o1 0))::(b,.one (.lB p1 0))::rest=>
      (bif Nat.beq a st.n&&Nat.beq b (st.n+1)&&Nat.beq o1 o&&Nat.beq p1 p&&(s2.dT p).isNone&&!ls2.any ai.pV&&Hn p s2.cT&&Hn p s2.gc&&(look rest st.n).isNone&&(look rest (st.n+1)).isNone&&(look s2.jw st.n).isNone&&(look s2.jw (st.n+1)).isNone then
       oD v {s2 with n:=st.n,eH:=rest,cp:=(p,ls2)::FZ s2.cp o} else none)
     |_,_=>none) (fun v s2=>O5 v {s2 with n:=st.n,eH:=st.eH}),Q9]
   congr 1
   funext u
   obtain⟨v,q,b⟩:=u;cases b with
   |true=>
    simp only[sk,aja];split
    ·exact dm rfl rfl
    ·rfl
   |false=>rfl
  ·rfl
 ·exact h dst args st K KP
theorem aaa{j o:Nat}{s:iL}(h:nE s):nE (EA j o s):=by
 intro R dst args st K K' KP KP' hK hP;simp only[EA] at hK ⊢;split
 ·rename_i p hl
  rw[hl] at hK;cases hpo:Nat.beq p o with
  |true=>simp only[hpo,aja] at hK ⊢;exact h hK hP
  |false=>
   simp only[hpo,aoa] at hK ⊢;split
   ·rename_i ls ho
    refine aX (h (fun v q hq=>?_) (fun v q hq=>hP v _ ?_)) rfl
    ·split
     ·rename_i ls2 a o1 b p1 rest h1 h2
      refine aX (hK v _ (rk.any ?_ ?_)) rfl
      ·exact⟨rfl,hq.iZ.2.1,hq.iZ.2.2.1,hq.iZ.2.2.2⟩
      ·have:=hq.eH
       rw[h2] at this;simp only[aJa] at this;exact this.2.2
     ·rfl
    ·exact⟨rfl,hq.2.1,hq.2.2.1,hq.2.2.2⟩
   ·rfl
 ·rename_i h1
  refine h (fun v q hq=>hK v q (hq.mono fun p hp=>?_)) hP;split
  ·rename_i p hl;exact absurd hl (h1 p)
  ·exact hp
theorem P4{q:Nat}{l:List (Nat×jV)}(h:Hn q l=true){a:Nat}{A:jV}(ha:look l a=some A):∀ i o,A.md=.Ds i o→o≠q:=fun i o hm e=>by have:=aqa.1 h _ (ep ha);subst e;simp[jV.J2,hm] at this
theorem Z8{st:St}{i:Nat}(h:(look st.eH i).isNone=true)(h2:(look st.jw i).isNone=true):st.iz i=none:=by
 unfold St.iz;have h:look st.eH i=none:=by simpa using h
 have h2:look st.jw i=none:=by simpa using h2
 rw[h];exact h2
theorem adV{P:Program}{gt:Nat→Option GA}{f:FuncId}{j o:Nat}{s:iL}(h:AZ P gt f s):AZ P gt f (EA j o s):=by
 intro R r X st G w dst args vs K KP hr zt hm Ri ha;simp only[EA] at hr;split at hr
 ·rename_i p hl
  cases hpo:Nat.beq p o with
  |true=>rw[hpo,aja] at hr;exact h hr zt hm Ri ha
  |false=>
   rw[hpo,aoa] at hr;split at hr
   ·rename_i ls OJ
    cases hc:(Nat.ble 10000 p&&(st.dT o).isNone&&!st.dj false o&&!ls.any ai.pV&&args.all (fun x=>!x.dj false o)&&(look st.eH st.n).isNone&&(look st.eH (st.n+1)).isNone&&(look st.jw st.n).isNone&&(look st.jw (st.n+1)).isNone) with
    |false=>rw[hc] at hr;cases hr
    |true=>
     rw[hc,aja] at hr;simp only[Q3,aOa] at hc;obtain⟨⟨⟨⟨⟨⟨⟨⟨c1,c2⟩,c3⟩,c4⟩,c5⟩,c6⟩,c7⟩,c8⟩,c9⟩:=hc;have aa0:=aZa c1;have wK:st.dT o=none:=by simpa using c2
     have ik:p≠o:=fun e=>by rw[e] at hpo;simp at hpo
     obtain⟨agA,agB⟩:=Nx hm wK;obtain⟨G1,m1,r1,v1,e1,e2,e3,e4⟩:=hm.Wd (F:=[(false,o)]) ik OJ wK c4 (fun v hv=>by have:=X.pl p v hv;omega) (fun j u hu=>by have:=X.bl p j u hu;omega) (fun x hx=>by rw[Q7.1 hx];exact c3)
      (fun a A hA i o' vm=>EZ c3 hA vm) (.inl rfl)
     obtain⟨u,hu,hru⟩:∃ u,vs[j]? = some u∧aY G (.lB p 0) u:=by
      rw[aKa] at hl;obtain⟨y,hy,he⟩:=hl;obtain⟨u,hu,hr'⟩:=ha.vJ hy;refine⟨u,hu,?_⟩;cases y with
      |one l'=>simp only[af.bR] at he;rw[he] at hr';exact hr'
      |_=>cases he
     have hu0:u=.pointer (some ⟨G.φ p,(G.pre p).length+0,none⟩):=hru;have hro:aY G1 (.lB o 0) u:=by simp only[aY,e1,e2];exact hu0
     have agD:aY G1 (.lB p 0) u:=by simp only[aY,e3,e4];exact hu0
     have ha1:All2 (aU G1) args vs:=ha.vp fun y v hy hv=>v1 y v (fun z hz=>by
      rw[Q7.1 hz];have:=aqa.1 c5 y hy;simpa using this) hv
     generalize hs1:({st with n:=st.n+2,eH:=(st.n,.one (.lB o 0))::(st.n+1,.one (.lB p 0))::st.eH,cp:=(o,ls)::FZ st.cp p}:St)=s1 at hr
     have m1':aB X s1 G1 w:=by rw[←hs1];exact m1.Xq rfl rfl rfl rfl rfl rfl
     have YL:∀ act,bQ G st act→bQ G1 s1 {tmps:=act.tmps.push u |>.push u,defers:=act.defers}:=fun act ra=>by
      have rb:=r1 act ra;have m9:act.tmps.size=st.n:=ra.2.1;refine⟨rb.1,by rw[←hs1];simp[m9],fun i x hx=>?_⟩
      rw[←hs1] at hx;simp only[St.iz,aw] at hx;by_cases i1:st.n=i
      ·subst i1
       simp only[ava,Ob] at hx;subst hx;have:((act.tmps.push u).push u).getD st.n undef=u:=by rw[aCa,bfa,aBa (by simp;omega),bfa,a8a m9.symm];rfl
       rw[this];exact hro
      ·by_cases i2:st.n+1=i
       ·subst i2
        simp only[i1,aka,ava,Ob] at hx;subst hx;have:((act.tmps.push u).push u).getD (st.n+1) undef=u:=by rw[aCa,bfa,a8a (by simp;omega)];rfl
        rw[this];exact agD
       ·simp only[i1,i2,aka] at hx
        have hg:((act.tmps.push u).push u).getD i undef=act.tmps.getD i undef:=by rw[aCa,bfa,aBa (by simp;omega),bfa,aBa (by omega),←aCa]
        rw[hg];exact rb.2.2 i x hx
     obtain⟨h1,h2⟩:=h hr zt m1' (Ri.imp' _ fun act ra=>YL act ra) (Mp ha1 hu (show aU G1 (.one (.lB o 0)) u from hro))
     refine⟨h1,h2.mono fun e w' he=>?_⟩;cases e with
     |outgrown=>exact he.elim
     |panicked If=>obtain⟨v,q1,av,st',G',m',v',hk⟩:=he;exact⟨v,q1,av,{st' with n:=st.n,eH:=st.eH},G',m'.Xq rfl rfl rfl rfl rfl rfl,v',hk⟩
     |returned v=>
      obtain⟨av,s2,G',m',r',v',hk⟩:=he;split at hk
      ·rename_i ls2 a o1 b p1 rest q1 q2
       cases hd:(Nat.beq a st.n&&Nat.beq b (st.n+1)&&Nat.beq o1 o&&Nat.beq p1 p&&(s2.dT p).isNone&&!ls2.any ai.pV&&Hn p s2.cT&&Hn p s2.gc&&(look rest st.n).isNone&&(look rest (st.n+1)).isNone&&(look s2.jw st.n).isNone&&(look s2.jw (st.n+1)).isNone) with
       |false=>rw[hd] at hk;cases hk
       |true=>
        rw[hd,aja] at hk;simp only[Q3,aOa] at hd;obtain⟨⟨⟨⟨⟨⟨⟨⟨⟨⟨⟨d1,d2⟩,d3⟩,d4⟩,d5⟩,d6⟩,d7⟩,d8⟩,d9⟩,d10⟩,d11⟩,d12⟩:=hd;obtain rfl:=Q4 d1;obtain rfl:=Q4 d2;obtain rfl:=Q4 d3;obtain rfl:=Q4 d4;have hnp:s2.dT p1=none:=by simpa using d5
        have frame:∀ act,bQ G st act→bQ G' s2 {tmps:=act.tmps.push u |>.push u,defers:=act.defers}:=fun act ra=>r' _ (YL act ra);have lK:G'.φ p1=G'.φ o1∧(G'.pre p1).length=(G'.pre o1).length:=by
         obtain⟨act,ra⟩:=Ri;have rf:=frame act ra;have k1:=rf.2.2 st.n (.one (.lB o1 0)) (by simp only[St.iz,q2,aw,ava])
         have k2:=rf.2.2 (st.n+1) (.one (.lB p1 0)) (by simp only[St.iz,q2,aw];rw[aBa (by omega)];simp)
         have m9:act.tmps.size=st.n:=ra.2.1;have g1:((act.tmps.push u).push u).getD st.n undef=u:=by rw[aCa,bfa,aBa (by simp;omega),bfa,a8a m9.symm];rfl
         have g2:((act.tmps.push u).push u).getD (st.n+1) undef=u:=by rw[aCa,bfa,a8a (by simp;omega)];rfl
         rw[g1] at k1;rw[g2] at k2;have k1:u=.pointer (some ⟨G'.φ o1,(G'.pre o1).length+0,none⟩):=k1;have k2:u=.pointer (some ⟨G'.φ p1,(G'.pre p1).length+0,none⟩):=k2;rw[k1] at k2;simp only[Value.pointer.injEq,Ob,Addr.mk.injEq,a7a] at k2;exact⟨k2.1.symm,by omega⟩
        have UI:o1≠p1:=fun e=>ik e.symm;obtain⟨G2,m2,r2,v2,_⟩:=m'.Wd (F:=[]) (p:=o1) (q:=p1) UI q1 hnp d6 agA agB (fun x hx=>by cases hx)
         (fun a A hA i o' vm=>by
          unfold St.arr at hA;cases hl:look s2.cT a with
          |some B=>rw[hl] at hA;cases hA;exact P4 d7 hl i o' vm
          |none=>rw[hl] at hA;exact P4 d8 hA i o' vm) (.inr ⟨rfl,lK⟩)
        refine⟨av,{s2 with n:=st.n,eH:=rest,cp:=(p1,ls2)::FZ s2.cp o1},G2,m2.Xq rfl rfl rfl rfl rfl rfl,fun act ra=>?_,v2 av v (fun y hy=>by cases hy) v',hk⟩
        have rf:=frame act ra;have m9:act.tmps.size=st.n:=ra.2.1;refine⟨ra.1.trans (hm.ds.trans m2.ds.symm),m9,fun i x hx=>?_⟩;have hx:({s2 with n:=st.n,eH:=rest,cp:=(p1,ls2)::FZ s2.cp o1}:St).iz i=some x:=hx
        have i1:i≠st.n:=fun e=>by rw[e] at hx;rw[Z8 (st:={s2 with n:=st.n,eH:=rest,cp:=(p1,ls2)::FZ s2.cp o1}) d9 d11] at hx;cases hx
        have i2:i≠st.n+1:=fun e=>by rw[e] at hx;rw[Z8 (st:={s2 with n:=st.n,eH:=rest,cp:=(p1,ls2)::FZ s2.cp o1}) d10 d12] at hx;cases hx
        have hx2:s2.iz i=some x:=by simp only[St.iz,q2,aw];rw[aBa (bDa i1),aBa (bDa i2)];exact hx
        have k:=rf.2.2 i x hx2;have hg:((act.tmps.push u).push u).getD i undef=act.tmps.getD i undef:=by rw[aCa,bfa,aBa (by simp;omega),bfa,aBa (by omega),←aCa]
        rw[hg] at k;exact v2 x _ (fun y hy=>by cases hy) k
      ·cases hk
   ·cases hr
 ·exact h hr zt hm Ri ha
theorem aab{P:Program}{gt:Nat→Option GA}{f:FuncId}{j o:Nat}{s:iL}(h:ld P gt f s):ld P gt f (EA j o s):=⟨adV h.ok,abA h.det,aaa h.QX⟩
end Go.Fx
namespace Go.Fx
structure Tb(P:Program) where
 n:Nat
 i:TI
 ok:Ai P n i
def tbs{P:Program}:List (Tb P)→List (Nat×TI)
 |[]=>[]
 |t::r=>(t.n,t.i)::tbs r
theorem aax{P:Program}:∀ l:List (Tb P),aaI P (tbs l)
 |[]=>trivial
 |t::r=>⟨t.ok,aax r⟩
structure Prg where
 P:Program
 gt:Nat→Option GA
 iK:List (Tb P)
 mix:P.follows .mixedOrders=true
structure Cl(A:Prg) where
 f:Nat
 s:iL
 ok:ld A.P A.gt f s
def Cl.agI{A:Prg}(c:Cl A)(j o:Nat):Cl A:=⟨c.f,zW j o c.s,Xp c.ok⟩
def Cl.uO{A:Prg}(c:Cl A)(j o:Nat):Cl A:=⟨c.f,EA j o c.s,aab c.ok⟩
def cls{A:Prg}:List (Cl A)→List (Nat×iL)
 |[]=>[]
 |c::r=>(c.f,c.s)::cls r
theorem Yt{A:Prg}:∀ l:List (Cl A),Sg A.P A.gt (cls l)
 |[]=>trivial
 |c::r=>⟨c.ok,Yt r⟩
def Gd(A:Prg)(f:Nat){T:Type}(S:T→iL):Type:={r:T // ld A.P A.gt f (S r)}
def Gd.cl{A:Prg}{f:Nat}{T:Type}{S:T→iL}(r:Gd A f S):Cl A:=⟨f,S r.1,r.2⟩
structure mS where
 L:qv
 V:List VL
 F:Nat→PV L.cs→PV L.vs→Option (WL V)
def mS.BG(d:mS)(id q:Nat):lM:=xF id d.L (d.F q) (dkL d.V)
structure LpB where
 id:Nat
 s:lM
 c:AT s
def lp(id:Nat)(d:mS)(q:Nat):LpB:=⟨id,d.BG id q,PY _ _ _ _⟩
def rg(id:Nat)(d:mS):LpB:=⟨id+1000000,d.BG (id+1000000) 0,PY _ _ _ _⟩
def lps:List LpB→List (Nat×lM)
 |[]=>[]
 |c::r=>(c.id,c.s)::lps r
theorem ZB:∀ l:List LpB,Sf (lps l)
 |[]=>trivial
 |c::r=>⟨c.c,ZB r⟩
structure Ev(A:Prg) where
 cs:List (Cl A)
 ls:List LpB
 on:List (Nat×Nat)
def Ev.e{A:Prg}(E:Ev A):tr:=ab9 A.gt (tbs A.iK) (cls E.cs) (lps E.ls) E.on
theorem Ev.ok{A:Prg}(E:Ev A):FV A.P E.e:=ac6 A.mix (aax _) (Yt _) (ZB _)
structure Cd(A:Prg) where
 c:Code
 s:lM
 ok:u9 A.P A.gt c s
def cds{A:Prg}:List (Cd A)→List (Code×lM)
 |[]=>[]
 |c::r=>(c.c,c.s)::cds r
theorem QV{A:Prg}:∀ l:List (Cd A),X8 A.P A.gt (cds l)
 |[]=>trivial
 |c::r=>⟨c.ok,QV r⟩
noncomputable def oM{A:Prg}(E:Ev A)(f:Func)(id:Nat)(d:mS)(q:Nat)(l:List (Cd A))(hb:yr E.e (Ek f id)=cds l:=by kernel_rfl)(h0:∀ c v,d.F 0 c v=none:=by intros;rfl)
  (h1:∀ q c v,d.F (q+1) c v=tB E.e (Ek f id) (d.L.st c v) (kL d.L d.V c (d.F q c)) (kLP d.L d.V c):=by intros;kernel_rfl):Cd A:=
 ⟨aep f id,d.BG id q,Zx E.ok (wd hb (QV l)) h0 h1 q⟩
noncomputable def rgC{A:Prg}(E:Ev A)(f:Func)(id:Nat)(d:mS)(ls:List (List Nat))(hd:DW (qN f id).toList (iY (qN f id).toList [])=true:=by kernel_rfl)(hc:jd (qN f id).toList (iY (qN f id).toList []) (qN f id).toList.length []=ls:=by kernel_rfl)
  (h1:Ya (fun l=>JH (qN f id).toList l=true∧∀ c v,d.F 0 c v=Hw E.e (qN f id).toList (iY (qN f id).toList []) l [] (d.L.st c v) (kR d.L d.V c) (kLP d.L d.V c)) ls:=by(repeat' first|exact trivial|refine⟨?_,?_⟩);all_goals intros;all_goals kernel_rfl):Cd A:=
 ⟨afx f id,d.BG (id+1000000) 0,abz E.ok hd hc (SN h1)⟩
def zp{A:Prg}(E:Ev A)(k:FuncId)(f:Func)(hf:A.P.funcs[k]? = some f)(Bg:∀ args w,(callFunc k args).run A.P w=.ok (.enter k args) w)(ts rs:List Ty)(F:DL ts→Option (DL rs))(l:List (Cd A))
  (hb:f.body.isSome=true:=by kernel_rfl) (hl:yr E.e (rR f)=cds l:=by kernel_rfl) (hn:Nat.ble ts.length f.ntmps=true:=by kernel_rfl)
  (h:∀ d,F d=tB E.e (rR f) (stD f.ntmps ts d) (kD E.e f.results.toList rs) (fun _ _=>none):=by intros;kernel_rfl):Cl A:=
 ⟨k,Az ts rs F id,Xh E.ok hf Bg hb (wd hl (QV l)) hn h⟩
structure CF where
 L:qv
 V:List VO
 F:PV L.cs→PV L.vs→Option (WO V)
def lO{A:Prg}(E:Ev A)(k:FuncId)(f:Func)(hf:A.P.funcs[k]? = some f)(Bg:∀ args w,(callFunc k args).run A.P w=.ok (.enter k args) w)(res:List Nat)(d:CF)(l:List (Cd A))
  (hb:f.body.isSome=true:=by kernel_rfl) (hl:yr E.e (rR f)=cds l:=by kernel_rfl) (hn:Nat.beq f.ntmps d.L.n=true:=by kernel_rfl) (Bj:I5 f.results.toList.length=res:=by kernel_rfl)
  (h:∀ c v,d.F c v=tB E.e (rR f) (d.L.st c v) (kO E.e f.results.toList d.L d.V c) (kP d.L d.V c):=by intros;kernel_rfl):Cl A:=
 ⟨k,mg d.L d.F (zJ res d.V),YP E.ok hf Bg hb (wd hl (QV l)) hn Bj h⟩
end Go.Fx
namespace Go.Fx
def tb{P:Program}(n:TypeId)(i:TypeInfo){d:TypeDesc}(hu:P.underlying n=some d)(ti:TI)(h1:P.info? n=some i:=by kernel_rfl)(h3:i.zero.isSome=true:=by kernel_rfl)(h4:(i.zero.getD undef).cells.toList=ti.zero:=by kernel_rfl)
 (h5:(WN ti.iS d&&Nat.beq i.size ti.size&&Nat.beq i.bytes ti.bytes&&(ti.iS.agg||Nat.beq ti.size 1)&&Nat.beq ti.zero.length ti.size)=true:=by kernel_rfl) (h6:aaS P n ti=true:=by kernel_rfl):Tb P:=⟨n,ti,afU h1 hu h3 h4 h5 h6⟩
abbrev rI(i:Nat):Pl×mT:=(.r i,.d I)
abbrev rD(i:Nat)(t:Ty):Pl×mT:=(.r i,.d t)
abbrev rP(i o:Nat):Pl×mT:=(.r i,.lit (.lB o 0))
abbrev lI(o j:Nat):Pl×mT:=(.l o j,.d I)
abbrev lD(o j:Nat)(t:Ty):Pl×mT:=(.l o j,.d t)
abbrev lN(o j:Nat):Pl×mT:=(.l o j,.lit .nil)
abbrev lF(o j:Nat)(t:Ty):Pl×mT:=(.l o j,.h .eL t)
abbrev lU(o j:Nat)(t:Ty):Pl×mT:=(.l o j,.h .bA t)
abbrev lH(m:Md)(o j:Nat)(t:Ty):Pl×mT:=(.l o j,.h m t)
end Go.Fx
