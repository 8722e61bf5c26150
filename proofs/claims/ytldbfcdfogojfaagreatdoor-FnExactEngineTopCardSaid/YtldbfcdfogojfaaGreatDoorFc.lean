/- Proved here: laws.FnExactEngineTop returns true at every input (the tied card), no condition beyond the card. -/
import Derived.Test.YtldbfcdfogojfaaGreatDoorFb
set_option linter.unusedVariables false
set_option linter.unusedSimpArgs false
set_option linter.unusedSectionVars false
set_option linter.defProp false
set_option maxRecDepth 100000
namespace Go.Fx
structure zg(st s:St):Prop where
 iL:ke st s
 et:s.et=st.et
 cg:s.cg=st.cg
 ER:s.ER=st.ER
theorem zg.refl(st:St):zg st st:=⟨.refl _,rfl,rfl,rfl⟩
theorem zg.trans{a b c:St}(h:zg a b)(k:zg b c):zg a c:=⟨h.iL.trans k.iL,k.et.trans h.et,k.cg.trans h.cg,k.ER.trans h.ER⟩
theorem zg.at{st s:St}(h:zg st s)(p:Pl):s.at p=st.at p:=by
 have hr:∀ i,s.ib i=st.ib i:=fun i=>by simp only[St.ib,h.et,h.iL.2.1]
 have ho:∀ o,s.dL o=st.dL o:=fun o=>by simp only[St.dL,h.cg]
 have Bb:∀ o j l,s.res o j l=st.res o j l:=fun o j l=>by cases l<;>simp[St.res,h.iL.2.2.1]
 cases p with
 |r i=>simp only[St.at,St.uH,hr]
 |q i j=>simp only[St.at,St.uH,hr]
 |l o j=>simp only[St.at,ho,Bb]
theorem Jt{st s:St}{l:ag}(h:st.yT l=some s):zg st s:=by
 unfold St.yT at h;split at h
 ·split at h
  ·rename_i A _
   cases hs:A.sh with
   |true=>simp only[hs,Q9,OF] at h;subst h;exact .refl _
   |false=>
    cases hw:A.pd with
    |false=>simp[hs,hw] at h
    |true=>simp only[hs,hw,ana,Q9,OF] at h;subst h;exact⟨⟨rfl,rfl,rfl,rfl⟩,rfl,rfl,rfl⟩
  ·split at h
   ·rename_i A _
    cases hs:A.sh<;>simp[hs] at h;subst h;exact .refl _
   ·cases h
 ·cases h;exact .refl _
theorem Cm:∀{ls:List ag} {st s:St},st.uK ls=some s→zg st s
 |[],st,s,h=>by cases h;exact .refl _
 |l::r,st,s,h=>by
  simp only[St.uK] at h;split at h
  ·rename_i q hq;exact(Jt hq).trans (Cm h)
  ·cases h
theorem Ju{st s:St}{v:ab}(h:v.qn st=some s):zg st s:=by
 unfold ab.qn at h;split at h
 ·exact Jt h
 ·exact Cm h
 ·cases h
 ·exact Cm h
theorem qm:∀{ps:kT} {st s:St},iA ps st=some s→zg st s
 |[],st,s,h=>by simp only[iA,OF] at h;subst h;exact .refl _
 |(p,sp)::r,st,s,h=>by
  cases sp with
  |d t=>
   simp only[iA] at h;split at h
   ·rename_i q hq;exact(Ju hq).trans (qm h)
   ·cases h
  |_=>exact qm (ps:=r) h
theorem xf{W:List pO}:∀{ps:kT} {st s:St},iA ps st=some s→(∀ p∈ps,∀ q∈(st.at p.1).te,q∈W)→qA W st s
 |[],st,s,h,_=>by simp only[iA,OF] at h;subst h;exact .refl _ _
 |(p,sp)::r,st,s,h,hW=>by
  have tail:∀{s1:St},zg st s1→∀ p∈r,∀ q∈(s1.at p.1).te,q∈W:=fun ha p hp q hq=>hW p (Q8 _ hp) q (by rw[←ha.at];exact hq)
  cases sp with
  |d t=>
   simp only[iA] at h;split at h
   ·rename_i s1 h1
    exact((uL h1).mono fun q hq=>hW _ (aqa ..) q hq).trans (xf h (tail (Ju h1)))
   ·cases h
  |_=>exact xf (ps:=r) h (tail (.refl st))
theorem HF{s:St}{p:Pl}{sp:mu}{x:sp.V}{b:AL}(h:zP s p sp=some (x,b)):∀ nm jM A,(nm,jM,A)∈b→nm=p.key∧sp.arr x=some A∧(match jM with|some a=>s.at p=.one (.mA a)|none=>s.at p=.one .nil):=by
 cases sp with
 |any=>simp only[zP,OF,aia] at h;obtain⟨_,rfl⟩:=h;intro _ _ _ hm;cases hm
 |d t=>
  simp only[zP] at h;split at h
  ·simp only[OF,aia] at h;obtain⟨_,rfl⟩:=h;intro _ _ _ hm;cases hm
  ·cases h
 |lit l=>
  simp only[zP] at h;split at h
  ·rename_i l' _
   cases he:vC l l'<;>simp[he] at h;subst h;intro _ _ _ hm;cases hm
  ·cases h
 |h m t=>
  simp only[zP] at h;split at h
  ·rename_i uw
   cases hw:m.Se with
   |false=>simp[hw] at h
   |true=>simp only[hw,Q9,OF,aia] at h;obtain⟨rfl,rfl⟩:=h;intro nm jM A hm;simp only[Q7,aia] at hm;obtain⟨rfl,rfl,rfl⟩:=hm;exact⟨rfl,rfl,uw⟩
  ·rename_i a uw
   split at h
   ·rename_i A hA
    cases hs:(A.sh||!m.lj A.md) with
    |true=>simp[hs] at h
    |false=>
     simp only[hs,ana] at h;split at h
     ·simp only[OF,aia] at h
      obtain⟨rfl,rfl⟩:=h;intro nm jM B hm;simp only[Q7,aia] at hm;obtain⟨rfl,rfl,rfl⟩:=hm;exact⟨rfl,rfl,uw⟩
     ·cases h
   ·cases h
  ·cases h
theorem Ez{s:St}:∀{ps:kT} {v:PV ps} {b:AL},lc s ps=some (v,b)→∀ nm jM A,(nm,jM,A)∈b→∃ p∈ps,nm=p.1.key∧(∃ m t,p.2=.h m t)∧(match jM with|some a=>s.at p.1=.one (.mA a)|none=>s.at p.1=.one .nil)
 |[],v,b,h,nm,jM,A,hm=>by simp only[lc,OF,aia] at h;obtain⟨_,rfl⟩:=h;cases hm
 |(p,sp)::r,v,b,h,nm,jM,A,hm=>by
  simp only[lc] at h;split at h
  ·rename_i x a1 h1
   split at h
   ·rename_i xs b1 h2
    simp only[OF,aia] at h;obtain⟨_,rfl⟩:=h;rcases ala.1 hm with hm|hm
    ·obtain⟨e1,e2,e3⟩:=HF h1 nm jM A hm
     exact⟨(p,sp),aqa ..,e1,(AT e2).2,e3⟩
    ·obtain⟨q,hq,e⟩:=Ez h2 nm jM A hm
     exact⟨q,Q8 _ hq,e⟩
   ·cases h
  ·cases h
theorem tD{α β:Type}{f:Nat×α→β}:∀{l:List (Nat×α)} {o:Nat} {x:α},(l.map (·.1)).Nodup→(o,x)∈l→look (l.map fun p=>(p.1,f p)) o=some (f (o,x))
 |p::r,o,x,hn,h=>by
  simp only[aFa,au];rw[aFa,a0a] at hn;by_cases e:p.1=o
  ·rcases aka.1 h with h|h
   ·rw[a4a e,←h]
   ·exact absurd (aGa (f:=(·.1)) h) (by rw[←e];exact hn.1)
  ·rw[aza e]
   rcases aka.1 h with h|h
   ·exact absurd (by rw[←h]) e
   ·exact tD hn.2 h
theorem Ky{α:Type}:∀{l:List (Nat×α)} {o:Nat},o∉l.map (·.1)→look l o=none
 |[],o,_=>rfl
 |(k,v)::r,o,h=>by rw[au];simp only[aFa,aka,cha] at h;rw[aza (fun e=>h.1 e.symm)];exact Ky h.2
theorem Ej:∀{b:List Nat} {l:List (Nat×jG)} {a:Nat},look (kW b l) a=if a∈b then none else look l a
 |[],l,a=>by simp[kW]
 |x::r,l,a=>by
  simp only[kW,Ej (b:=r),qe,aka];by_cases h1:a∈r
  ·simp[h1]
  ·by_cases h2:a=x
   ·subst h2;simp[h1]
   ·simp[h1,h2,cba (a:=x)]
theorem Aq{tl:List (Nat×Nat×ag)}{cs:kT}{o:Nat}:∀{ls:List ag} {j:Nat},(vW tl cs o j ls).length=ls.length
 |[],j=>rfl
 |l::r,j=>by simp[vW,Aq (ls:=r)]
theorem Cf{tl:List (Nat×Nat×ag)}{cs:kT}{o:Nat}:∀{ls:List ag} {i j:Nat},(vW tl cs o i ls)[j]? = (ls[j]?).map fun l=>(match dV tl o (i+j) with|some x=>x|none=>bif zb o (i+j) cs then l else .any)
 |[],i,j=>by simp[vW]
 |l::r,i,0=>by simp[vW]<;>rfl
 |l::r,i,j+1=>by simp only[vW,bpa];rw[Cf (ls:=r),show i+1+j=i+(j+1) by omega]
theorem Eo{tl:List (Nat×Nat×ag)}{k:Nat}:∀{n j:Nat},(LX tl k j n).length=n
 |0,j=>rfl
 |n+1,j=>by simp[LX,Eo (n:=n)]
theorem TR{tl:List (Nat×Nat×ag)}{k:Nat}:∀{n i j:Nat},j<n→(LX tl k i n)[j]? = some (match dV tl k (i+j) with|some x=>x|none=>.any)
 |n+1,i,0,_=>by simp[LX]<;>rfl
 |n+1,i,j+1,h=>by simp only[LX,bpa];rw[TR (n:=n) (by omega),show i+1+j=i+(j+1) by omega]
theorem D3{o j:Nat}:∀{ps:kT},zb o j ps=true↔∃ s,(Pl.l o j,s)∈ps
 |[]=>by simp[zb]
 |(.r i,s)::r=>by simp only[zb,D3 (ps:=r),aka,aia,reduceCtorEq,false_and,false_or]
 |(.q i k,s)::r=>by simp only[zb,D3 (ps:=r),aka,aia,reduceCtorEq,false_and,false_or]
 |(.l o' j',s)::r=>by
  simp only[zb,a3a,Q4,D3 (ps:=r),aka,aia,Pl.l.injEq];constructor
  ·rintro(⟨h1,h2⟩|⟨x,h⟩)
   ·exact⟨s,.inl ⟨⟨(Q5 h1).symm,(Q5 h2).symm⟩,rfl⟩⟩
   ·exact⟨x,.inr h⟩
  ·rintro⟨x,⟨⟨rfl,rfl⟩,_⟩|h⟩
   ·exact .inl ⟨by simp,by simp⟩
   ·exact .inr ⟨x,h⟩
theorem vA{dst:Nat}{pin:List Nat}{news:List (Nat×Nat×Nat)}:∀{ps:kT} {v:PV ps} {o j:Nat} {lf:ag},dV (jg dst pin news ps v) o j=some lf→∃ s,(Pl.l o j,s)∈ps
 |[],v,o,j,lf,h=>by cases h
 |(.r i,s)::r,v,o,j,lf,h=>by obtain⟨x,hx⟩:=vA (ps:=r) (v:=v.2) h;exact⟨x,Q8 _ hx⟩
 |(.q i k,s)::r,v,o,j,lf,h=>by obtain⟨x,hx⟩:=vA (ps:=r) (v:=v.2) h;exact⟨x,Q8 _ hx⟩
 |(.l o' j',s)::r,v,o,j,lf,h=>by
  simp only[jg,dV] at h;cases hb:(Nat.beq o' o&&Nat.beq j' j) with
  |true=>simp only[Q4] at hb;rw[Q5 hb.1,Q5 hb.2];exact⟨s,aqa ..⟩
  |false=>simp only[hb,ana] at h;obtain⟨x,hx⟩:=vA (ps:=r) (v:=v.2) h;exact⟨x,Q8 _ hx⟩
theorem DE:∀{l:List ab} {i k:Nat} {v:ab},look (oU i l) k=some v→v∈l
 |x::r,i,k,v,h=>by
  simp only[oU,au] at h;by_cases e:i=k
  ·simp only[e,aua,OF] at h;subst h;exact aqa ..
  ·simp only[e,aca] at h;exact Q8 _ (DE h)
theorem Kj{q:pO}{v:ab}:∀{l:List ab},v∈l→q∈v.te→q∈nr l
 |x::r,h,hq=>by
  rcases aka.1 h with rfl|h
  ·exact axa _ hq
  ·exact aoa _ (Kj h hq)
end Go.Fx
namespace Go.Fx
section
variable {L:pW} {args:List ab} {st:St} {e:aa0 L}
structure ET(L:pW)(args:List ab)(st:St)(e:aa0 L)(s1 s:St):Prop where
 sc:iA L.cs (CQ L.n args st)=some s1
 sv:iA L.vs s1=some s
 rc:lc s L.cs=some (e.c,e.a)
 rv:lc s L.vs=some (e.v,e.b)
 al:z6 (e.a++e.b)=true
 ob:yL L.cg s=true
 Pp:yJ L=true
 len:args.length≤L.n
 q:qOk L.vs s=true
 pin:aaj L.pin e.b=true
 st':e.st = {st with cM:=s.cM}
 zo:zg (CQ L.n args st) s
theorem Wf(h:Y2 L args st=some e):∃ s1 s,ET L args st e s1 s:=by
 unfold Y2 at h;split at h
 ·cases h
 ·rename_i s1 h1
  split at h
  ·cases h
  ·rename_i s h2
   split at h
   ·cases h
   ·rename_i c a h3
    split at h
    ·cases h
    ·rename_i v b h4
     cases hb:(z6 (a++b)&&yL L.cg s&&yJ L&&Nat.ble args.length L.n&&qOk L.vs s&&aaj L.pin b) with
     |false=>simp[hb] at h
     |true=>simp only[hb,Q9,OF] at h;subst h;simp only[Q4] at hb;exact⟨s1,s,h1,h2,h3,h4,hb.1.1.1.1.1,hb.1.1.1.1.2,hb.1.1.1.2,aUa hb.1.1.2,hb.1.2,hb.2,rfl,(qm h1).trans (qm h2)⟩
theorem WA(h:yJ L=true){p:Pl×mu}(hp:p∈L.cs++L.vs){o j:Nat}(ho:p.1=.l o j):o∈L.cg.map (·.1):=by simp only[yJ,Q4,apa] at h;have:=h.1.2 p hp;rw[ho] at this;exact gD.1 this
theorem RR(h:yJ L=true){p:Nat×Nat}(hp:p∈L.cg):p.1<10000:=by simp only[yJ,Q4,apa] at h;have:=h.1.1.1.1 p hp;simpa[b1a] using this
theorem Kt(h:yJ L=true):(L.cg.map (·.1)).Nodup:=by simp only[yJ,Q4] at h;exact eB h.1.1.1.2
theorem afB(h:yJ L=true):((L.cs++L.vs).map fun p=>p.1.key).Nodup:=by simp only[yJ,Q4] at h;exact eB h.1.1.2
theorem oD{cg:List (Nat×Nat)}{s:St}(h:yL cg s=true){p:Nat×Nat}(hp:p∈cg):∃ ls,s.dL p.1=some ls∧ls.length=p.2:=by
 have:=apa.1 h p hp;split at this
 ·rename_i ls hl;exact⟨ls,hl,Q5 this⟩
 ·cases this
theorem aaA{st:St}{o:Nat}:∀{ls:List ag} {i j:Nat} {l:ag},ls[j]? = some l→st.res o (i+j) l∈st.jV o i ls:=fun {ls i j l} h=>by refine aZa (i:=j) ?_;rw[rH,h];rfl
theorem NC{q:pO}{l:ag}:∀{R:List ag},l∈R→q∈fH [l]→q∈fH R
 |x::r,hl,hq=>by
  rcases aka.1 hl with rfl|hl
  ·cases l<;>simp only[fH,bNa] at hq<;>simp only[Q7] at hq<;>subst hq<;>exact aqa ..
  ·have:=NC hl hq
   cases x<;>simp only[fH]<;>first|exact this|exact Q8 _ this
theorem Ma{W:Type}{F:PV L.cs→PV L.vs→Option W}{dk:DkO W}(hl:yJ L=true){p:Pl×mu}(hp:p∈L.cs++L.vs){q:pO}(hq:q∈((CQ L.n args st).at p.1).te):q∈(mP L F dk).LH args st:=by
 obtain⟨pl,sp⟩:=p;simp only[mP];refine aoa _ ?_;cases pl with
 |r i=>
  refine aoa _ ?_;simp only[St.at,St.uH,St.ib,CQ] at hq;cases hr:look (oU 0 args) i with
  |none=>rw[hr] at hq;simp[look,ab.te,fH] at hq
  |some v=>rw[hr] at hq;exact Kj (DE hr) hq
 |q i j=>
  refine aoa _ ?_;simp only[St.at,St.uH,St.ib,CQ] at hq;cases hr:look (oU 0 args) i with
  |none=>rw[hr] at hq;simp[look,ab.qls,ab.isAgg,ab.te,fH] at hq
  |some v=>
   rw[hr] at hq;simp only at hq;cases hv:v.qls with
   |none=>rw[hv] at hq;simp[ab.te,fH] at hq
   |some ls=>
    rw[hv] at hq;simp only at hq;cases hj:ls[j]? with
    |none=>rw[hj] at hq;simp[ab.te,fH] at hq
    |some l=>
     rw[hj] at hq;refine Kj (DE hr) ?_;have hql:q∈fH ls:=by have:q∈fH [l]:=hq;have hm:=aZa hj;exact NC hm this
     unfold ab.qls at hv;cases hi:v.isAgg with
     |false=>rw[hi] at hv;cases hv
     |true=>rw[hi,Q9] at hv;exact D4 hv q hql
 |l o j=>
  refine axa _ ?_;have ho:=WA hl hp rfl;obtain⟨⟨o',n⟩,gS,rfl⟩:=aXa.1 ho;refine bka.2 ⟨(o',n),gS,?_⟩;simp only[St.at,St.dL,CQ] at hq;have IV:look st.cg o' = st.dL o':=rfl;simp only at hq ⊢;rw[IV] at hq;cases wN:st.dL o' with
  |none=>rw[wN] at hq;simp[ab.te,fH] at hq
  |some ls=>
   rw[wN] at hq;simp only at hq ⊢;cases hj:ls[j]? with
   |none=>rw[hj] at hq;simp[ab.te,fH] at hq
   |some l=>
    rw[hj] at hq;have Bb:(CQ L.n args st).res o' j l=st.res o' j l:=by cases l<;>rfl
    have hm:=aaA (st:=st) (o:=o') (i:=0) hj;rw[aTa] at hm;generalize st.jV o' 0 ls=R at hm;have hq:q∈fH [st.res o' j l]:=by have:q∈(ab.one ((CQ L.n args st).res o' j l)).te:=hq;rw[Bb] at this;exact this
    exact NC hm hq
theorem ad3{news:List (Nat×Nat×Nat)}{o:Nat}(h:o∉news.map (·.1)):Jb news o=none:=by
 induction news with
 |nil=>rfl
 |cons p r ih=>simp only[aFa,aka,cha] at h;simp only[Jb,uE (bxa h.1),ana];exact ih h.2
theorem DX{dst:Nat}{told:kT}{o:PV told}{news:List (Nat×Nat×Nat)}{s:St}(h:DW dst L told o news s=true):
  (told.map fun p=>p.1.key).Nodup∧(∀ p∈rp dst L.pin told o,s.arr p.1=none∧s.cZ true p.1=false)∧(∀ p∈news,s.dL p.2.2=none∧s.cZ false p.2.2=false∧p.1∉L.cg.map (·.1))∧
   (news.map (·.1)).Nodup∧(news.map (·.2.2)).Nodup∧(∀ p∈told,∀ q j,p.1=.l q j→(∀ c∈L.cs,c.1.key≠p.1.key)∧(q∈L.cg.map (·.1)∨q∈news.map (·.1)))∧
   (∀ p∈told,∀ q off,p.2=.lit (.np q off)→q∈L.cg.map (·.1)∨q∈news.map (·.1)):=by
 simp only[DW,Q4,apa] at h;obtain⟨⟨⟨⟨⟨⟨h1,h2⟩,h3⟩,h4⟩,h5⟩,h6⟩,h7⟩:=h;refine⟨eB h1,fun p hp=>?_,fun p hp=>?_,eB h4,eB h5,fun p hp q j e=>?_,fun p hp q off e=>?_⟩
 ·have:=h2 p hp;simpa using this
 ·have:=h3 p hp
  simp only[aLa,Hv] at this;refine⟨by simpa using this.1.1,this.1.2,fun hm=>?_⟩
  rw[gD.2 hm] at this;cases this.2
 ·have:=h6 p hp
  rw[e] at this;simp only[Q4,aLa,a3a,DW.acy,Hv] at this;refine⟨fun c hc e2=>?_,this.2.imp gD.1 gD.1⟩;have hm:eU p.1.key (L.cs.map fun p=>p.1.key)=true:=gD.2 (by rw[←e2];exact aGa hc)
  rw[e] at hm;rw[hm] at this;cases this.1
 ·have:=h7 p hp
  rw[e] at this;simp only[a3a,Hv] at this;exact this.imp gD.1 gD.1
theorem V1{dst:Nat}{told:kT}{o:PV told}{news:List (Nat×Nat×Nat)}{a b:AL}{s:St}(hn:(L.cg.map (·.1)).Nodup)(Pk:yL L.cg s=true)(hf:∀ p∈news,s.dL p.2.2=none)(hnn:(news.map (·.2.2)).Nodup)(q:Nat):
  (∃ k n,(k,n,q)∈news∧(Im dst L told o news a b s).dL q=some (LX (jg dst L.pin news told o) k 0 n))∨
  (q∉news.map (·.2.2)∧((∃ n ls,(q,n)∈L.cg∧s.dL q=some ls∧(Im dst L told o news a b s).dL q=some (vW (jg dst L.pin news told o) L.cs q 0 ls))∨
   (q∉L.cg.map (·.1)∧(Im dst L told o news a b s).dL q=s.dL q))):=by
 have e1:(Im dst L told o news a b s).dL q=look ((news.map fun p=>(p.2.2,LX (jg dst L.pin news told o) p.1 0 p.2.1))++((L.cg.map fun p=>(p.1,vW (jg dst L.pin news told o) L.cs p.1 0 ((s.dL p.1).getD [])))++s.cg)) q:=rfl;rw[e1,ij,ij];by_cases h:q∈news.map (·.2.2)
 ·obtain⟨⟨k,n,q'⟩,hm,rfl⟩:=aXa.1 h
  refine .inl ⟨k,n,hm,?_⟩;have key:∀{TS:List (Nat×Nat×Nat)} {k n q:Nat},(TS.map (·.2.2)).Nodup→(k,n,q)∈TS→look (TS.map fun p=>(p.2.2,LX (jg dst L.pin news told o) p.1 0 p.2.1)) q=some (LX (jg dst L.pin news told o) k 0 n):=by
   intro TS;induction TS with
   |nil=>intro k n q _ h;cases h
   |cons p r ih=>
    intro k n q hn h;rw[aFa,a0a] at hn;simp only[aFa,au];rcases aka.1 h with rfl|h
    ·simp
    ·rw[aza (fun e=>hn.1 (by rw[e];exact aGa (f:=(·.2.2)) h)),ih hn.2 h]
  rw[key hnn hm]
 ·have h0:look (news.map fun p=>(p.2.2,LX (jg dst L.pin news told o) p.1 0 p.2.1)) q=none:=Ky (by simpa[csa] using h)
  rw[h0];refine .inr ⟨h,?_⟩;by_cases h2:q∈L.cg.map (·.1)
  ·obtain⟨⟨q',n⟩,hm,rfl⟩:=aXa.1 h2
   obtain⟨ls,hl,_⟩:=oD Pk hm;refine .inl ⟨n,ls,hm,hl,?_⟩;rw[tD (f:=fun p=>vW (jg dst L.pin news told o) L.cs p.1 0 ((s.dL p.1).getD [])) hn hm,hl];rfl
  ·have h3:look (L.cg.map fun p=>(p.1,vW (jg dst L.pin news told o) L.cs p.1 0 ((s.dL p.1).getD []))) q=none:=Ky (by simpa[csa,Function.comp_def] using h2)
   rw[h3];exact .inr ⟨h2,rfl⟩
theorem Qr(st:St)(q:Nat):∀(ks:List Nat),(match look (ks.map (fun k=>(k,st.dA k+1))++st.ER) q with|some v=>v|none=>0)=if q∈ks then st.dA q+1 else st.dA q
 |[]=>rfl
 |k::r=>by
  rw[aFa,a2a,au];by_cases e:k=q
  ·subst e;simp
  ·rw[aza e,Qr st q r]
   have:(q∈k::r)↔q∈r:=⟨fun h=>(aka.1 h).resolve_left (fun h=>e h.symm),Q8 _⟩;simp only[this]
theorem V2{dst:Nat}{told:kT}{o:PV told}{news:List (Nat×Nat×Nat)}{a b:AL}{s:St}(q:Nat):
 (Im dst L told o news a b s).dA q=if q∈KK (a++DU L.pin b) then s.dA q+1 else s.dA q:=Qr s q _
theorem AU{pin:List Nat}{b:AL}:∀{ps:kT} {v:PV ps} {a:Nat} {A:jG},look (oI pin b ps v) a=some A→∃ nm C,(nm,some a,C)∈b
 |[],v,a,A,h=>by cases h
 |(p,s)::r,v,a,A,h=>by
  simp only[oI] at h;split at h
  ·cases hm:eU p.key pin with
   |false=>rw[hm,ana] at h;exact AU (ps:=r) h
   |true=>
    rw[hm,Q9] at h;split at h
    ·rename_i x C hl
     rw[au] at h;by_cases e:x=a
     ·subst e;exact⟨_,_,dY hl⟩
     ·rw[aza e] at h;exact AU (ps:=r) h
    ·exact AU (ps:=r) h
  ·exact AU (ps:=r) h
theorem QL(L:pW){W:Type}(F:PV L.cs→PV L.vs→Option W)(dk:DkO W)(hdk:ac6 dk):m6 (mP L F dk):=by
 intro R dst args st K K' KP KP' hK hP;simp only[mP];cases he:Y2 L args st with
 |none=>rfl
 |some e=>
  obtain⟨s1,s,E⟩:=Wf he;simp only;refine uu (fun hc=>dR fun x=>?_) (fun _=>rfl);have Wq:ke st e.st:=by rw[E.st'];exact⟨rfl,rfl,rfl,by have:=E.zo.iL.2.2.2;exact rfl⟩
  rcases hdk x with ⟨told,o,news,res,h⟩|⟨T,ls,h⟩
  ·rw[h,h]
   refine uu (fun hf=>hK _ _ ?_) (fun _=>rfl);obtain⟨f1,f2,f3,f4,f5,f6,_⟩:=DX hf;have hW:∀ p∈L.cs++L.vs,∀ q∈((CQ L.n args st).at p.1).te,q∈(mP L F dk).LH args st:=fun p hp q hq=>Ma E.Pp hp hq;have u0:qA ((mP L F dk).LH args st) (CQ L.n args st) s:=
    (xf E.sc fun p hp=>hW p (axa _ hp)).trans (xf E.sv fun p hp q hq=>hW p (aoa _ hp) q (by rw[←(qm E.sc).at];exact hq))
   have Nw:∀ a,e.st.arr a=s.arr a:=fun a=>by rw[E.st'];simp only[St.arr,(bja E.zo.iL.2.2.2).1];rfl
   have D7:∀ q,e.st.dL q=st.dL q:=fun q=>by rw[E.st'];rfl
   have Pk:yL L.cg e.st=true:=by
    have:∀ q,e.st.dL q=s.dL q:=fun q=>by rw[D7];simp only[St.dL,E.zo.cg];rfl
    have:=E.ob;unfold yL at this ⊢;rw[←this]
    congr 1
    funext p
    rw[show e.st.dL p.1=s.dL p.1 from ‹∀ q,e.st.dL q=s.dL q› p.1]
   refine⟨Wq,?_,fun q ls hq _ _=>?_,fun a A hA hn fd=>?_,fun a hn _=>?_⟩
   ·show e.st.et=st.et;rw[E.st']
   ·rcases V1 (dst:=dst) (told:=told) (o:=o) (news:=news) (a:=e.a) (b:=e.b) (Kt E.Pp) Pk (fun p hp=>(f3 p hp).1) f5 q with ⟨k,n,hm,_⟩|⟨_,⟨n,wX,hm,hl,e2⟩|⟨_,e2⟩⟩
    ·have:=(f3 _ hm).1
     rw[D7,hq] at this;cases this
    ·rw[D7,hq] at hl
     cases hl;refine⟨_,e2,Aq,fun j hj=>?_⟩;rw[Cf,aTa];cases hlj:ls[j]? with
     |none=>rfl
     |some l=>
      have hjn:j<n:=by obtain⟨ls2,h1,h2⟩:=oD Pk hm;rw[D7,hq] at h1;cases h1;have:=(aja.1 hlj).1;simp only at h2;omega
      have hc:zb q j L.cs=true:=by
       cases hh:zb q j L.cs with
       |true=>rfl
       |false=>exact absurd ⟨rfl,ava _,Nat.lt_succ_self _⟩ (hj (.o q j 1) (axa _ (bka.2 ⟨(q,n),hm,aXa.2 ⟨j,bSa.2 ⟨b3a.2 hjn,by simp[hh]⟩,rfl⟩⟩)))
      have ht:dV (jg dst L.pin news told o) q j=none:=by
       cases hh:dV (jg dst L.pin news told o) q j with
       |none=>rfl
       |some x=>obtain⟨sp,hsp⟩:=vA hh;obtain⟨sc,hsc⟩:=D3.1 hc;exact absurd (rfl:(Pl.l q j).key=(Pl.l q j).key) ((f6 (Pl.l q j,sp) hsp q j rfl).1 (Pl.l q j,sc) hsc)
      simp[ht,hc]
    ·exact⟨ls,by rw[e2,D7];exact hq,rfl,fun _ _=>rfl⟩
   ·have h1:e.st.arr a=some A:=by
     rw[Nw];exact u0.arr a A hA hn fd
    have hns:a∉KK e.b:=fun hs=>hn (by
     obtain⟨⟨nm,jM,B⟩,hm,Tz⟩:=bha.1 hs;simp only at Tz;subst Tz;obtain⟨p,hp,_,_,uw⟩:=Ez E.rv nm _ B hm;exact Ma E.Pp (aoa _ hp) (by rw[←E.zo.at,uw];simp[ab.te,fH]))
    have hnb:look (oI L.pin e.b told o) a=none:=by
     cases hl:look (oI L.pin e.b told o) a with
     |none=>rfl
     |some B=>obtain⟨nm,C,hm⟩:=AU hl;exact absurd (show a∈KK e.b from bha.2 ⟨_,hm,rfl⟩) hns
    have hnt:look (rp dst L.pin told o) a=none:=by
     cases hl:look (rp dst L.pin told o) a with
     |none=>rfl
     |some B=>have:=(f2 _ (dY hl)).1;rw[h1] at this;cases this
    have e1:(Im dst L told o news e.a e.b e.st).arr a=(match look (rp dst L.pin told o++(oI L.pin e.b told o++kW (KK e.b) e.st.cM)) a with|some v=>some v|none=>look e.st.fK a):=rfl
    rw[e1,ij,hnt,ij,hnb,Ej,aza hns];exact h1
   ·rw[V2,aza ?_]
    ·rw[E.st'];rfl
    ·intro hs
     obtain⟨⟨nm,jM,B⟩,hm,Tz⟩:=bha.1 hs;simp only at Tz;subst Tz;rcases ala.1 hm with hm|hm
     ·obtain⟨p,hp,_,_,uw⟩:=Ez E.rc nm _ B hm
      exact hn (Ma E.Pp (axa _ hp) (by rw[←E.zo.at,uw];simp[ab.te,fH]))
     ·obtain⟨p,hp,_,_,uw⟩:=Ez E.rv nm _ B (bSa.1 hm).1
      exact hn (Ma E.Pp (aoa _ hp) (by rw[←E.zo.at,uw];simp[ab.te,fH]))
  ·rw[h,h]
   exact hP _ _ Wq
end
end Go.Fx
namespace Go.Fx
theorem qf{pin:List Nat}{b:AL}{e:Nat×Option Nat×jG}:e∈vU pin b↔e∈b∧eU e.1 pin=false:=by simp[vU,bSa]
theorem xr{pin:List Nat}{b:AL}{e:Nat×Option Nat×jG}:e∈DU pin b↔e∈b∧eU e.1 pin=true:=by simp[DU,bSa]
theorem Ch{pin:List Nat}{b:AL}(h:(b.map (·.1)).Nodup):((vU pin b).map (·.1)).Nodup:=h.sublist (List.filter_sublist.map _)
def y0(dst:Nat)(b:AL)(nm:Nat):Option (Option Nat):=look (b.map fun e=>(nmO dst e.1,e.2.1)) nm
def Ec(a:AL)(nm:Nat):Option Nat:=look (a.filterMap fun e=>e.2.1.map fun s=>(s,e.1)) nm
def C5(news:List (Nat×Nat×Nat))(q:Nat):Option Nat:=look (news.map fun p=>(p.2.2,p.1)) q
theorem abH{dst k k':Nat}(h:nmO dst k=nmO dst k'):k=k':=by unfold nmO at h;omega
theorem uO{dst:Nat}:∀{b:AL} {nm:Nat} {jM:Option Nat},y0 dst b nm=some jM→∃ k A,nm=nmO dst k∧(k,jM,A)∈b
 |(k,s,A)::r,nm,jM,h=>by
  simp only[y0,aFa,au] at h;by_cases e:nmO dst k=nm
  ·simp only[e,aua,OF] at h
   exact⟨k,A,e.symm,by rw[h];exact aqa ..⟩
  ·simp only[e,aca] at h
   obtain⟨k',A',h1,h2⟩:=uO (b:=r) h;exact⟨k',A',h1,Q8 _ h2⟩
theorem EQ{dst:Nat}:∀{b:AL} {k:Nat} {jM:Option Nat} {A:jG},(b.map (·.1)).Nodup→(k,jM,A)∈b→y0 dst b (nmO dst k)=some jM
 |(k',s,B)::r,k,jM,A,hn,h=>by
  simp only[y0,aFa,au];rw[aFa,a0a] at hn;rcases aka.1 h with h|h
  ·cases h;simp
  ·have gT:k'≠k:=fun e=>hn.1 (by rw[e];exact aGa (f:=(·.1)) h)
   rw[aza (fun e=>gT (abH e))];exact EQ (b:=r) hn.2 h
theorem qE:∀{a:AL} {nm k:Nat},Ec a nm=some k→∃ A,(k,some nm,A)∈a
 |(k',s,A)::r,nm,k,h=>by
  cases s with
  |none=>
   obtain⟨B,hB⟩:=qE (a:=r) (nm:=nm) (k:=k) (by simpa[Ec] using h)
   exact⟨B,Q8 _ hB⟩
  |some x=>
   simp only[Ec,bXa,bBa,au] at h;by_cases e:x=nm
   ·simp only[e,aua,OF] at h
    exact⟨A,by rw[←h,e];exact aqa ..⟩
   ·simp only[e,aca] at h
    obtain⟨B,hB⟩:=qE (a:=r) (nm:=nm) (k:=k) h;exact⟨B,Q8 _ hB⟩
theorem Hw{a:AL}{nm:Nat}(h:Ec a nm=none):∀ k A,(k,some nm,A)∉a:=by
 induction a with
 |nil=>intro k A hm;cases hm
 |cons p r ih=>
  obtain⟨k',s,B⟩:=p;intro k A hm;cases s with
  |none=>
   rcases aka.1 hm with hm|hm
   ·cases hm
   ·exact ih (by simpa[Ec] using h) k A hm
  |some x=>
   simp only[Ec,bXa,bBa,au] at h;by_cases e:x=nm
   ·simp[e] at h
   ·simp only[e,aca] at h
    rcases aka.1 hm with hm|hm
    ·cases hm;exact e rfl
    ·exact ih h k A hm
theorem Bv:∀{news:List (Nat×Nat×Nat)} {q k:Nat},C5 news q=some k→∃ n,(k,n,q)∈news
 |(k',n,q')::r,q,k,h=>by
  simp only[C5,aFa,au] at h;by_cases e:q' = q
  ·simp only[e,aua,OF] at h
   exact⟨n,by rw[←h,e];exact aqa ..⟩
  ·simp only[e,aca] at h
   obtain⟨m,hm⟩:=Bv (news:=r) h;exact⟨m,Q8 _ hm⟩
theorem NZ:∀{news:List (Nat×Nat×Nat)} {q k n:Nat},(news.map (·.2.2)).Nodup→(k,n,q)∈news→C5 news q=some k
 |(k',n',q')::r,q,k,n,hn,h=>by
  simp only[C5,aFa,au];rw[aFa,a0a] at hn;rcases aka.1 h with h|h
  ·cases h;simp
  ·rw[aza (fun e=>hn.1 (by rw[e];exact aGa (f:=(·.2.2)) h))]
   exact NZ (news:=r) hn.2 h
theorem Qu:∀{news:List (Nat×Nat×Nat)} {o k:Nat},Jb news o=some k→∃ n,(o,n,k)∈news
 |p::r,o,k,h=>by
  simp only[Jb] at h;cases hb:Nat.beq p.1 o with
  |true=>simp only[hb,Q9,OF] at h;have e:=Q5 hb;exact⟨p.2.1,by rw[←e,←h];exact aqa ..⟩
  |false=>simp only[hb,ana] at h;obtain⟨n,hn⟩:=Qu (news:=r) h;exact⟨n,Q8 _ hn⟩
theorem VV{dst:Nat}{t s4:St}{b4:AL}{G G4:Gh}{li:Nat→Option Nat}{news:List (Nat×Nat×Nat)}{p:Pl}{sp:mu}{x:sp.V}{bp:AL}(Ay:zP s4 p sp=some (x,bp))(p9:∀ e∈bp,e∈b4)(hn:(b4.map (·.1)).Nodup)
  (hm:∃ X w',ay X s4 G4 w') (hφ:∀ q tl,t.dL q=some tl→G4.φ q=G.φ q∧G4.pre q=G.pre q) (hnn:(news.map (·.2.2)).Nodup) (hnt:∀ p∈news,t.dL p.2.2=none)
  (XR:∀ q off,sp=.lit (.np q off)→(∃ tl,t.dL q=some tl)∨q∈news.map (·.1)) {u:Value} (hu:aP G4 (s4.at p) u):aT (G.iy G4 (y0 dst b4) li (C5 news)) (aav news (sp.bN (nmO dst p.key) x)) u:=by
 obtain⟨X,w',hm⟩:=hm;have gS:=HF Ay;cases sp with
 |any=>trivial
 |d t'=>
  simp only[zP] at Ay;split at Ay
  ·rename_i y hy
   simp only[OF,aia] at Ay;obtain⟨rfl,_⟩:=Ay;obtain⟨cs,e,hr⟩:=DG hm hy hu;exact⟨cs,e,hr⟩
  ·cases Ay
 |h m t'=>
  show u=(match y0 dst b4 (nmO dst p.key) with|some (some k)=>G4.ψ k|some none=>.slice none 0 0|none=>G.ψ (nmO dst p.key))
  simp only[zP] at Ay;split at Ay
  ·rename_i uw
   cases hw:m.Se with
   |false=>simp[hw] at Ay
   |true=>simp only[hw,Q9,OF,aia] at Ay;obtain⟨_,rfl⟩:=Ay;rw[EQ hn (p9 _ (Q7.2 rfl))];rw[uw] at hu;exact hu
  ·rename_i a uw
   split at Ay
   ·rename_i A hA
    cases hs:(A.sh||!m.lj A.md) with
    |true=>simp[hs] at Ay
    |false=>
     simp only[hs,ana] at Ay;split at Ay
     ·simp only[OF,aia] at Ay
      obtain⟨_,rfl⟩:=Ay;rw[EQ hn (p9 _ (Q7.2 rfl))];rw[uw] at hu;exact hu
     ·cases Ay
   ·cases Ay
  ·cases Ay
 |lit l=>
  simp only[zP] at Ay;split at Ay
  ·rename_i l' uw
   cases he:vC l l' with
   |false=>simp[he] at Ay
   |true=>
    have e:=NT he;rw[uw,←e] at hu;show aT _ (aav news l) u;cases l with
    |np q off=>
     have hu:u=.pointer (some ⟨G4.φ q,(G4.pre q).length+off,none⟩):=hu;simp only[aav];cases hq:Jb news q with
     |some k=>obtain⟨n,hmm⟩:=Qu hq;simp only[aT,Gh.iy,NZ hnn hmm];exact hu
     |none=>
      rcases XR q off rfl with ⟨tl,htl⟩|hnw
      ·have vP:C5 news q=none:=by
        cases hh:C5 news q with
        |none=>rfl
        |some k=>obtain⟨n,hmm⟩:=Bv hh;have:=hnt _ hmm;rw[htl] at this;cases this
       obtain⟨e1,e2⟩:=hφ q tl htl;simp only[aT,Gh.iy,vP];rw[hu,e1,e2]
      ·obtain⟨⟨q',n,k⟩,hmm,rfl⟩:=aXa.1 hnw
       have:∀{news:List (Nat×Nat×Nat)},(q',n,k)∈news→Jb news q'≠none:=by
        intro news;induction news with
        |nil=>intro h;cases h
        |cons p r ih=>
         intro h;simp only[Jb];cases hb:Nat.beq p.1 q' with
         |true=>simp
         |false=>
          simp only[ana];rcases aka.1 h with h|h
          ·rw[←h] at hb;simp at hb
          ·exact ih h
       exact absurd hq (this hmm)
    |nil=>exact hu
    |Kz=>exact hu
    |uZ=>exact hu
    |fn f=>exact hu
    |_=>simp[vC] at he
  ·cases Ay
theorem Fj{dst:Nat}{pin:List Nat}{t s4:St}{b4:AL}{G G4:Gh}{li:Nat→Option Nat}{news:List (Nat×Nat×Nat)}{p:Pl}{sp:mu}{x:sp.V}{bp:AL}(Ay:zP s4 p sp=some (x,bp))(p9:∀ e∈bp,e∈b4)(hn:(b4.map (·.1)).Nodup)
  (hm:∃ X w',ay X s4 G4 w') (hφ:∀ q tl,t.dL q=some tl→G4.φ q=G.φ q∧G4.pre q=G.pre q) (hnn:(news.map (·.2.2)).Nodup) (hnt:∀ p∈news,t.dL p.2.2=none)
  (XR:∀ q off,sp=.lit (.np q off)→(∃ tl,t.dL q=some tl)∨q∈news.map (·.1)) {u:Value} (hu:aP G4 (s4.at p) u):aT (G.iy G4 (y0 dst (vU pin b4)) li (C5 news)) (yZ dst pin news p sp x) u:=by
 unfold yZ;cases hp:eU p.key pin with
 |true=>trivial
 |false=>rw[ana];refine VV Ay (fun e he=>qf.2 ⟨p9 e he,?_⟩) (Ch hn) hm hφ hnn hnt XR hu;obtain⟨k,jM,A⟩:=e;have:=(HF Ay k jM A he).1;rw[this];exact hp
theorem KG{s:St}{pin:List Nat}{ba:AL}:∀{ps:kT} {v:PV ps} {b:AL},lc s ps=some (v,b)→∀{dst:Nat} {news:List (Nat×Nat×Nat)},
  (∀{o j:Nat} {lf:ag},dV (jg dst pin news ps v) o j=some lf→∃ sp x bp,(Pl.l o j,sp)∈ps∧zP s (.l o j) sp=some (x,bp)∧(∀ e∈bp,e∈b)∧lf=yZ dst pin news (.l o j) sp x)∧
  (∀{i:Nat} {av:ab},look (K8 dst pin news ps v) i=some av→∃ sp x bp,(Pl.r i,sp)∈ps∧zP s (.r i) sp=some (x,bp)∧(∀ e∈bp,e∈b)∧av=.one (yZ dst pin news (.r i) sp x))∧
  (∀{i j:Nat} {lf:ag},dV (VB dst pin news ps v) i j=some lf→∃ sp x bp,(Pl.q i j,sp)∈ps∧zP s (.q i j) sp=some (x,bp)∧(∀ e∈bp,e∈b)∧lf=yZ dst pin news (.q i j) sp x)∧
  (∀{nm:Nat} {A:jG},look (rp dst pin ps v) nm=some A→∃ p sp x bp,(p,sp)∈ps∧zP s p sp=some (x,bp)∧(∀ e∈bp,e∈b)∧nm=nmO dst p.key∧sp.arr x=some A∧eU p.key pin=false)∧
  (∀{k:Nat} {jM:Option Nat} {A:jG},(k,jM,A)∈b→eU k pin=false→∃ B,look (rp dst pin ps v) (nmO dst k)=some B)∧
  (∀{nm:Nat} {A:jG},look (oI pin ba ps v) nm=some A→∃ p sp x bp C,(p,sp)∈ps∧zP s p sp=some (x,bp)∧(∀ e∈bp,e∈b)∧look ba p.key=some (some nm,C)∧sp.arr x=some A∧eU p.key pin=true)∧
  (∀{k a:Nat} {jM:Option Nat} {A C:jG},(k,jM,A)∈b→eU k pin=true→look ba k=some (some a,C)→∃ B,look (oI pin ba ps v) a=some B)
 |[],v,b,h,dst,news=>by simp only[lc,OF,aia] at h;obtain⟨_,rfl⟩:=h;exact⟨(fun h=>(by cases h)),(fun h=>(by cases h)),(fun h=>(by cases h)),(fun h=>(by cases h)),(fun h=>(by cases h)),(fun h=>(by cases h)),(fun h=>(by cases h))⟩
 |(p,sp)::r,v,b,h,dst,news=>by
  simp only[lc] at h;split at h
  ·rename_i x a1 h1
   split at h
   ·rename_i xs b1 h2
    simp only[OF,aia] at h;obtain⟨rfl,rfl⟩:=h;obtain⟨g1,g2,g5,g3,g4,g6,g7⟩:=KG h2 (dst:=dst) (news:=news);have aaN:∀ e∈a1,e∈a1++b1:=fun e he=>axa _ he;refine⟨fun {o j lf} hl=>?_,fun {i av} hl=>?_,fun {i j lf} hl=>?_,fun {nm A} hl=>?_,fun {k jM A} hm hp=>?_,fun {nm A} hl=>?_,fun {k a jM A C} hm hp hb=>?_⟩
    ·have tail:dV (jg dst pin news r xs) o j=some lf→(∃ sp0 x bp,(Pl.l o j,sp0)∈((p,sp)::r)∧zP s (.l o j) sp0=some (x,bp)∧(∀ e∈bp,e∈a1++b1)∧lf=yZ dst pin news (.l o j) sp0 x):=fun hl=>by
      obtain⟨sp',x',bp,e1,e2,e3,e4⟩:=g1 hl;exact⟨sp',x',bp,Q8 _ e1,e2,fun e he=>aoa _ (e3 e he),e4⟩
     cases p with
     |r i=>exact tail hl
     |q i k=>exact tail hl
     |l o' j'=>
      simp only[jg,dV] at hl;cases hb:(Nat.beq o' o&&Nat.beq j' j) with
      |false=>simp only[hb,ana] at hl;exact tail hl
      |true=>simp only[hb,Q9,OF] at hl;simp only[Q4] at hb;obtain rfl:=Q5 hb.1;obtain rfl:=Q5 hb.2;exact⟨sp,x,a1,aqa ..,h1,aaN,hl.symm⟩
    ·have tail:look (K8 dst pin news r xs) i=some av→(∃ sp0 x bp,(Pl.r i,sp0)∈((p,sp)::r)∧zP s (.r i) sp0=some (x,bp)∧(∀ e∈bp,e∈a1++b1)∧av=.one (yZ dst pin news (.r i) sp0 x)):=fun hl=>by
      obtain⟨sp',x',bp,e1,e2,e3,e4⟩:=g2 hl;exact⟨sp',x',bp,Q8 _ e1,e2,fun e he=>aoa _ (e3 e he),e4⟩
     cases p with
     |l o j=>exact tail hl
     |q i k=>exact tail hl
     |r i'=>
      simp only[K8,au] at hl;by_cases e:i' = i
      ·subst e
       simp only[aua,OF] at hl;exact⟨sp,x,a1,aqa ..,h1,aaN,hl.symm⟩
      ·simp only[e,aca] at hl;exact tail hl
    ·have tail:dV (VB dst pin news r xs) i j=some lf→(∃ sp0 x bp,(Pl.q i j,sp0)∈((p,sp)::r)∧zP s (.q i j) sp0=some (x,bp)∧(∀ e∈bp,e∈a1++b1)∧lf=yZ dst pin news (.q i j) sp0 x):=fun hl=>by
      obtain⟨sp',x',bp,e1,e2,e3,e4⟩:=g5 hl;exact⟨sp',x',bp,Q8 _ e1,e2,fun e he=>aoa _ (e3 e he),e4⟩
     cases p with
     |r i=>exact tail hl
     |l i k=>exact tail hl
     |q o' j'=>
      simp only[VB,dV] at hl;cases hb:(Nat.beq o' i&&Nat.beq j' j) with
      |false=>simp only[hb,ana] at hl;exact tail hl
      |true=>simp only[hb,Q9,OF] at hl;simp only[Q4] at hb;obtain rfl:=Q5 hb.1;obtain rfl:=Q5 hb.2;exact⟨sp,x,a1,aqa ..,h1,aaN,hl.symm⟩
    ·have tail:look (rp dst pin r xs) nm=some A→(∃ p0 sp0 x bp,(p0,sp0)∈((p,sp)::r)∧zP s p0 sp0=some (x,bp)∧(∀ e∈bp,e∈a1++b1)∧nm=nmO dst p0.key∧sp0.arr x=some A∧eU p0.key pin=false):=fun hl=>by
      obtain⟨p',sp',x',bp,e1,e2,e3,e4,e5,e6⟩:=g3 hl;exact⟨p',sp',x',bp,Q8 _ e1,e2,fun e he=>aoa _ (e3 e he),e4,e5,e6⟩
     simp only[rp] at hl;split at hl
     ·rename_i B hB
      cases hpk:eU p.key pin with
      |true=>rw[hpk,Q9] at hl;exact tail hl
      |false=>
       rw[hpk,ana,au] at hl;by_cases e:nmO dst p.key=nm
       ·simp only[e,aua,OF] at hl
        subst hl;exact⟨p,sp,x,a1,aqa ..,h1,aaN,e.symm,hB,hpk⟩
       ·simp only[e,aca] at hl;exact tail hl
     ·exact tail hl
    ·simp only[rp]
     rcases ala.1 hm with hm|hm
     ·obtain⟨e1,e2,_⟩:=HF h1 k jM A hm
      subst e1;exact⟨A,by simp[e2,au,hp]⟩
     ·obtain⟨B,hB⟩:=g4 hm hp
      split
      ·cases hpk:eU p.key pin with
       |true=>exact⟨B,hB⟩
       |false=>
        rw[ana,au];by_cases e:nmO dst p.key=nmO dst k
        ·exact⟨_,by rw[a4a e]⟩
        ·exact⟨B,by rw[aza e];exact hB⟩
      ·exact⟨B,hB⟩
    ·have tail:look (oI pin ba r xs) nm=some A→(∃ p0 sp0 x bp C,(p0,sp0)∈((p,sp)::r)∧zP s p0 sp0=some (x,bp)∧(∀ e∈bp,e∈a1++b1)∧look ba p0.key=some (some nm,C)∧sp0.arr x=some A∧eU p0.key pin=true):=fun hl=>by
      obtain⟨p',sp',x',bp,C,e1,e2,e3,e4,e5,e6⟩:=g6 hl;exact⟨p',sp',x',bp,C,Q8 _ e1,e2,fun e he=>aoa _ (e3 e he),e4,e5,e6⟩
     simp only[oI] at hl;split at hl
     ·rename_i B hB
      cases hpk:eU p.key pin with
      |false=>rw[hpk,ana] at hl;exact tail hl
      |true=>
       rw[hpk,Q9] at hl;split at hl
       ·rename_i y C hy
        rw[au] at hl;by_cases e:y=nm
        ·subst e
         simp only[aua,OF] at hl;subst hl;exact⟨p,sp,x,a1,C,aqa ..,h1,aaN,hy,hB,hpk⟩
        ·rw[aza e] at hl;exact tail hl
       ·exact tail hl
     ·exact tail hl
    ·simp only[oI]
     have tail:(∃ B,look (oI pin ba r xs) a=some B)→∃ B,look (match sp.arr x with
       |some A=>bif eU p.key pin then(match look ba p.key with|some (some a,_)=>(a,A)::oI pin ba r xs|_=>oI pin ba r xs) else oI pin ba r xs
       |none=>oI pin ba r xs) a=some B:=fun⟨B,hB⟩=>by
      split
      ·cases eU p.key pin with
       |false=>exact⟨B,hB⟩
       |true=>
        rw[Q9];split
        ·rw[au]
         split
         ·exact⟨_,rfl⟩
         ·exact⟨B,hB⟩
        ·exact⟨B,hB⟩
      ·exact⟨B,hB⟩
     rcases ala.1 hm with hm|hm
     ·obtain⟨e1,e2,_⟩:=HF h1 k jM A hm
      subst e1;exact⟨A,by simp[e2,hp,hb,au]⟩
     ·exact tail (g7 hm hp hb)
   ·cases h
  ·cases h
end Go.Fx
namespace Go.Fx
theorem NY:∀{cs:kT} {c:PV cs} {k:Nat} {jM:Option Nat} {A:jG},(k,jM,A)∈fP cs c→jM=some k∧∃ p∈cs,p.1.key=k∧∃ m t,p.2=.h m t
 |(p,s)::r,c,k,jM,A,h=>by
  simp only[fP] at h;split at h
  ·rename_i B hB
   rcases aka.1 h with h|h
   ·cases h;exact⟨rfl,(p,s),aqa ..,rfl,(AT hB).2⟩
   ·obtain⟨e,q,hq,e2⟩:=NY (cs:=r) h
    exact⟨e,q,Q8 _ hq,e2⟩
  ·obtain⟨e,q,hq,e2⟩:=NY (cs:=r) h
   exact⟨e,q,Q8 _ hq,e2⟩
theorem Kq{s:St}:∀{cs:kT} {c:PV cs} {a:AL},lc s cs=some (c,a)→∀{k:Nat} {jM:Option Nat} {A:jG},(k,jM,A)∈a→(k,some k,A)∈fP cs c∧look (eF cs c) k≠none
 |[],c,a,h,k,jM,A,hm=>by simp only[lc,OF,aia] at h;obtain⟨_,rfl⟩:=h;cases hm
 |(p,sp)::r,c,a,h,k,jM,A,hm=>by
  simp only[lc] at h;split at h
  ·rename_i x a1 h1
   split at h
   ·rename_i xs b1 h2
    simp only[OF,aia] at h;obtain⟨rfl,rfl⟩:=h;simp only[fP,eF];rcases ala.1 hm with hm|hm
    ·obtain⟨e1,e2,_⟩:=HF h1 k jM A hm
     subst e1;simp only[e2];exact⟨aqa ..,by simp[au]⟩
    ·obtain⟨g1,g2⟩:=Kq h2 hm
     split
     ·refine⟨Q8 _ g1,?_⟩
      rw[au];split
      ·simp
      ·exact g2
     ·exact⟨g1,g2⟩
   ·cases h
  ·cases h
theorem aas{s:St}{p:Pl}{m:Md}{t:Ty}{x:List t.nw}{b:AL}(h:zP s p (.h m t)=some (x,b)):∀ i o,m≠.Dp i o:=fun i o e=>by
 subst e;simp only[zP] at h;split at h
 ·simp[Md.Se] at h
 ·split at h
  ·rename_i A _
   cases hs:A.sh<;>simp[hs,Md.lj] at h
  ·cases h
 ·cases h
theorem I7{cs:kT}{c:PV cs}{o j:Nat}(h:zb o j cs=true):∃ lf,dV (bZ cs c) o j=some lf:=by
 induction cs with
 |nil=>cases h
 |cons p r ih=>
  obtain⟨pl,sp⟩:=p;cases pl with
  |r i=>exact ih (c:=c.2) (by simpa[zb] using h)
  |q i k=>exact ih (c:=c.2) (by simpa[zb] using h)
  |l o' j'=>
   simp only[bZ,dV];cases hb:(Nat.beq o' o&&Nat.beq j' j) with
   |true=>exact⟨_,rfl⟩
   |false=>simp only[ana];exact ih (c:=c.2) (by simpa[zb,hb] using h)
section
variable {L:pW} {args:List ab} {st:St} {e:aa0 L} {s1 s s4:St} {dst:Nat} {told:kT} {o:PV told} {news:List (Nat×Nat×Nat)} {b4:AL}
theorem KV(E:ET L args st e s1 s)(q:Nat):e.st.dL q=s.dL q:=by rw[E.st'];simp only[St.dL,E.zo.cg];rfl
theorem KU(E:ET L args st e s1 s)(a:Nat):e.st.arr a=s.arr a:=by rw[E.st'];simp only[St.arr,(bja E.zo.iL.2.2.2).1];rfl
theorem ado(E:ET L args st e s1 s):e.st.cD=s.cD:=by rw[E.st'];exact E.zo.iL.2.2.1.symm
theorem IG(E:ET L args st e s1 s):yL L.cg e.st=true:=by
 have:=E.ob;unfold yL at this ⊢;rw[←this]
 congr 1
 funext p
 rw[KV E p.1]
theorem aar{s:St}:∀{cs:kT} {c:PV cs} {a0:AL},lc s cs=some (c,a0)→∀ k a (A':jG),(k,some a,A')∈a0→∀ i o,A'.md≠.Dp i o:=by
 intro cs;induction cs with
 |nil=>intro c a0 h k a A' hm;simp only[lc,OF,aia] at h;obtain⟨_,rfl⟩:=h;cases hm
 |cons q r ih=>
  intro c a0 h k a A' hm i o;simp only[lc] at h;split at h
  ·rename_i x a1 h1
   split at h
   ·rename_i xs b1 h2
    simp only[OF,aia] at h;obtain⟨_,rfl⟩:=h;rcases ala.1 hm with hm|hm
    ·obtain⟨_,e3,_⟩:=HF h1 _ _ _ hm
     obtain⟨_,m',t',e4⟩:=AT e3;obtain⟨q1,q2⟩:=q;simp only at e4;subst e4;simp only[mu.arr,OF] at e3;rw[←e3];exact aas h1 i o
    ·exact ih h2 k a A' hm i o
   ·cases h
  ·cases h
theorem ZZ(E:ET L args st e s1 s)(Zi:V6 L e.st=true)(acA:Ry L.pin e.b e.st=true)(Ay:lc s4 told=some (o,b4))(IS:uT s4 L.cs=true)(abl:z6 (fP L.cs e.c++b4)=true)
  (afi:yL L.cg s4=true) (agL:yL (news.map fun p=>(p.1,p.2.1)) s4=true) (Wq:s6 L e.c s4) (hf:DW dst L told o news e.st=true) (Zw:Gj L.pin b4=true):
  Ij e.st (L.st e.c e.v) s4 (Im dst L told o news e.a e.b e.st) (e.a++e.b) (y0 dst (vU L.pin b4)) (Ec (e.a++DU L.pin e.b)) (C5 news):=by
 obtain⟨f1,f2,f3,f4,f5,f6,f7⟩:=DX hf;have Zu:=IG E;have IU:=Kt E.Pp;have RJ:=V1 (dst:=dst) (told:=told) (o:=o) (news:=news) (a:=e.a) (b:=e.b) IU Zu (fun p hp=>(f3 p hp).1) f5;have Ga:=E.al;simp only[z6,Q4] at Ga abl;have hn4:(b4.map (·.1)).Nodup:=by have:=eB abl.1;rw[bra,a_a] at this;exact this.2.1
 have hs4:(b4.filterMap (·.2.1)).Nodup:=by have:=eB abl.2;rw[List.filterMap_append,a_a] at this;exact this.2.1
 obtain⟨g1,g2,g5,g3,g4,g6,g7⟩:=KG Ay (dst:=dst) (news:=news) (pin:=L.pin) (ba:=e.b);have acw:=pf Ay;have aeU:=pf E.rc;have tob:∀ q tl,(L.st e.c e.v).dL q=some tl→∃ n,(q,n)∈L.cg∧tl=pg (bZ L.cs e.c) (bZ L.vs e.v) q 0 n:=fun q tl h=>xq h;have aes:∀{q n},(q,n)∈L.cg→(L.st e.c e.v).dL q=some (pg (bZ L.cs e.c) (bZ L.vs e.v) q 0 n):=fun {q n} hm=>
  tD (f:=fun p=>pg (bZ L.cs e.c) (bZ L.vs e.v) p.1 0 p.2) IU hm
 have Xh:∀ q,q∉L.cg.map (·.1)→(L.st e.c e.v).dL q=none:=fun q hq=>by
  cases h:(L.st e.c e.v).dL q with
  |none=>rfl
  |some tl=>obtain⟨n,hm,_⟩:=tob q tl h;exact absurd (aGa (f:=(·.1)) hm) hq
 have shl:∀(cl vl:List (Nat×Nat×ag)) (q j n:Nat),(pg cl vl q j n).length=n:=by
  intro cl vl q j n;induction n generalizing j with
  |zero=>rfl
  |succ n ih=>simp[pg,ih]
 have XR:∀{p:Pl} {sp:mu},(p,sp)∈told→∀ q off,sp=.lit (.np q off)→(∃ tl,(L.st e.c e.v).dL q=some tl)∨q∈news.map (·.1):=fun {p sp} hp q off e1=>by
  rcases f7 _ hp q off e1 with h|h
  ·obtain⟨⟨q',n⟩,hm,rfl⟩:=aXa.1 h
   exact .inl ⟨_,aes hm⟩
  ·exact .inr h
 have hnt:∀ p∈news,(L.st e.c e.v).dL p.2.2=none:=fun p hp=>Xh _ fun hm=>by obtain⟨⟨q',n⟩,hm,e1⟩:=aXa.1 hm;obtain⟨ls,hl,_⟩:=oD Zu hm;have:=(f3 p hp).1;simp only at e1 hl;rw[←e1,hl] at this;cases this
 have Z8:∀{sp:mu} {x:sp.V} {p p':Pl} {bp:AL},zP s4 p sp=some (x,bp)→∀(q:St) o j,q.res o j (yZ dst L.pin news p' sp x)=yZ dst L.pin news p' sp x:=fun {sp x p p' bp} hr q o j=>by
  unfold yZ;cases eU p'.key L.pin with
  |true=>rfl
  |false=>
  rw[ana];cases sp with
  |any=>rfl
  |d t=>rfl
  |h m t=>rfl
  |lit l=>
   simp only[zP] at hr;split at hr
   ·rename_i l' _
    cases he:vC l l' with
    |false=>simp[he] at hr
    |true=>
     cases l<;>simp[vC] at he<;>try rfl
     simp only[mu.bN,aav];split<;>rfl
   ·cases hr
 have YL:∀ a,(Im dst L told o news e.a e.b e.st).arr a=(match look (rp dst L.pin told o) a with|some v=>some v|none=>match look (oI L.pin e.b told o) a with|some v=>some v|none=>(if a∈KK e.b then none else e.st.arr a)):=fun a=>by
  have e1:(Im dst L told o news e.a e.b e.st).arr a=(match look (rp dst L.pin told o++(oI L.pin e.b told o++kW (KK e.b) e.st.cM)) a with|some v=>some v|none=>look e.st.fK a):=rfl
  rw[e1,ij,ij,Ej];cases look (rp dst L.pin told o) a with
  |some v=>rfl
  |none=>
   cases look (oI L.pin e.b told o) a with
   |some v=>rfl
   |none=>
   by_cases B7:a∈KK e.b
   ·obtain⟨x,hx,hxe⟩:=bha.1 B7
    have:=apa.1 acA x hx;rw[hxe] at this;simp only[Q4] at this;simp only[B7,aua];simpa using this.1
   ·simp only[B7,aca];rfl
 have ae8:∀{nm:Nat} {A:jG},look (oI L.pin e.b told o) nm=some A→∃ k C,eU k L.pin=true∧(k,some nm,C)∈e.b∧(k,some k,A)∈b4∧s4.arr k=some A∧A.sh=false∧∀ i o,A.md≠.Dp i o:=fun {nm A} h=>by
  obtain⟨p,sp,x,bp,C,h1,h2,h3,h4,h5,h6⟩:=g6 h;have hp4:=apa.1 Zw p.key (gD.1 h6);split at hp4
  ·rename_i b0 B hl
   have e0:=Q5 hp4;subst e0;have gS:=dY hl;obtain⟨dq,m,t,rfl⟩:=AT h5;have hnl:=aas h2;have ux:A.md=m:=by simp only[mu.arr,OF] at h5;rw[←h5]
   have hbp:∃ jM,(p.key,jM,A)∈bp:=by
    simp only[mu.arr,OF] at h5;simp only[zP] at h2;split at h2
    ·cases hw:m.Se with
     |false=>simp[hw] at h2
     |true=>simp only[hw,Q9,OF,aia] at h2;obtain⟨rfl,rfl⟩:=h2;exact⟨none,by rw[←h5];exact Q7.2 rfl⟩
    ·rename_i a' _
     split at h2
     ·rename_i A' _
      cases hs:(A'.sh||!m.lj A'.md) with
      |true=>simp[hs] at h2
      |false=>
       simp only[hs,ana] at h2;split at h2
       ·simp only[OF,aia] at h2
        obtain⟨rfl,rfl⟩:=h2;exact⟨some a',by rw[←h5];exact Q7.2 rfl⟩
       ·cases h2
     ·cases h2
    ·cases h2
   obtain⟨jM,hbp⟩:=hbp;have e1:=lb hn4 (h3 _ hbp);rw[hl] at e1;simp only[OF,aia] at e1;obtain⟨rfl,rfl⟩:=e1;obtain⟨_,hgd⟩:=acw _ _ _ gS;exact⟨p.key,C,h6,dY h4,gS,hgd,dq,fun i o e2=>hnl i o (by rw[←ux];exact e2)⟩
  ·cases hp4
 have acn:∀{q j:Nat} {sl:List ag} {a:ag},s4.dL q=some sl→sl[j]? = some a→s4.at (.l q j)=.one (s4.res q j a):=fun {q j sl a} h1 h2=>by simp[St.at,h1,h2]
 refine {n:=rfl,vr:=fun q=>?_,ib:=fun _=>rfl,bl:=rfl,acb:=fun q tl h=>?_,dL:=fun q wX hq=>?_,Ep:=fun q k h=>?_,afG:=fun q q' k h h'=>?_,Wx:=fun q ls h=>?_,ur:=fun q j ls lf h1 h2 h3=>?_,arr:=fun a A hA=>?_,ti:=fun a a' k h h'=>?_,ki:=fun a a' k h h'=>?_,tk:=fun a a' k h h'=>?_,F8:=fun a x h=>?_,pn:=rfl,ap:=fun a A hp hA=>?_}
 ·rw[V2]
  cases hk:Ec (e.a++DU L.pin e.b) q with
  |none=>
   rw[aza fun hs=>(by
    obtain⟨⟨nm,jM,B⟩,hm,Tz⟩:=bha.1 hs;simp only at Tz;subst Tz;exact Hw hk _ _ hm)]
  |some k=>obtain⟨A',hm⟩:=qE hk;rw[a4a (show q∈KK (e.a++DU L.pin e.b) from bha.2 ⟨_,hm,rfl⟩)]
 ·obtain⟨n,hm,_⟩:=tob q tl h
  obtain⟨ls,hl,_⟩:=oD Zu hm;obtain⟨sl,Mk,_⟩:=oD afi hm;exact⟨RR E.Pp hm,⟨ls,hl⟩,sl,Mk⟩
 ·rcases RJ q with ⟨k,n,hm,e1⟩|⟨hqn,⟨n,ls,hm,hl,e1⟩|⟨hqo,e1⟩⟩
  ·
   rw[e1] at hq;cases hq;have hmn:(k,n)∈news.map fun p=>(p.1,p.2.1):=aXa.2 ⟨(k,n,q),hm,rfl⟩;obtain⟨sl,Mk,Zy⟩:=oD agL hmn;refine .inr (.inr ⟨k,sl,NZ f5 hm,Mk,by rw[Eo];exact Zy.symm,fun j l' a h1 h2 G G3 u hX hφ hu=>?_⟩)
   have hj:j<n:=by have:=(aja.1 h1).1;rwa[Eo] at this
   rw[TR hj,aTa] at h1;simp only[OF] at h1;cases hlk:dV (jg dst L.pin news told o) k j with
   |none=>rw[hlk] at h1;simp only at h1;subst h1;trivial
   |some x=>rw[hlk] at h1;simp only at h1;subst h1;obtain⟨sp,y,bp,hp,hr,p9,rfl⟩:=g1 hlk;rw[Z8 hr];exact Fj hr p9 hn4 hX hφ f5 hnt (XR hp) (by rw[acn Mk h2];exact hu)
  ·
   rw[e1] at hq;cases hq;obtain⟨sl,Mk,Zy⟩:=oD afi hm;obtain⟨ls2,hl2,jI⟩:=oD Zu hm;rw[hl] at hl2;cases hl2;simp only at Zy jI;refine .inr (.inl ⟨ls,_,sl,hl,aes hm,Mk,by rw[shl];exact jI.symm,by omega,Aq,fun j l' l a h1 h2 h3=>?_⟩)
   rw[Cf,aTa,h2] at h1;simp only[bBa,OF] at h1;have hjn:j<n:=by have:=(aja.1 h2).1;omega
   cases hlk:dV (jg dst L.pin news told o) q j with
   |some x=>rw[hlk] at h1;simp only at h1;subst h1;obtain⟨sp,y,bp,hp,hr,p9,rfl⟩:=g1 hlk;refine .inr fun G G3 u hX hφ hu=>?_;rw[Z8 hr];exact Fj hr p9 hn4 hX hφ f5 hnt (XR hp) (by rw[acn Mk h3];exact hu)
   |none=>
    rw[hlk] at h1;simp only at h1;cases hc:zb q j L.cs with
    |true=>
     rw[hc,Q9] at h1;subst h1;obtain⟨lf,hlf⟩:=I7 (c:=e.c) hc;refine .inl ⟨?_,?_,lf,hlf⟩
     ·have:∀ x:ag,(Im dst L told o news e.a e.b e.st).res q j x=e.st.res q j x:=fun x=>by cases x<;>rfl
      exact this _
     ·exact yS hjn (by rw[aTa];exact hlf)
    |false=>rw[hc,ana] at h1;subst h1;exact .inr fun _ _ _ _ _ _=>trivial
  ·exact .inl ⟨Xh q hqo,by rw[←e1];exact hq⟩
 ·obtain⟨n,hm⟩:=Bv h
  obtain⟨h1,h2,h3⟩:=f3 _ hm;exact⟨h1,h2,Xh k h3⟩
 ·obtain⟨n,hm⟩:=Bv h
  obtain⟨n',hm'⟩:=Bv h';have key:∀{news:List (Nat×Nat×Nat)},(news.map (·.1)).Nodup→(k,n,q)∈news→(k,n',q')∈news→q=q':=by
   intro news;induction news with
   |nil=>intro _ h;cases h
   |cons p r ih=>
    intro hn h1 h2;rw[aFa,a0a] at hn;rcases aka.1 h1 with h1|h1<;>rcases aka.1 h2 with h2|h2
    ·rw[←h1] at h2;cases h2;rfl
    ·exact absurd (by rw[←h1];exact aGa (f:=(·.1)) h2) hn.1
    ·exact absurd (by rw[←h2];exact aGa (f:=(·.1)) h1) hn.1
    ·exact ih hn.2 h1 h2
  exact key f4 hm hm'
 ·rcases RJ q with ⟨k,n,hm,e1⟩|⟨hqn,⟨n,ls,hm,hl,e1⟩|⟨hqo,e1⟩⟩
  ·exact⟨_,e1⟩
  ·exact⟨_,e1⟩
  ·exact⟨ls,by rw[e1];exact h⟩
 ·rcases RJ q with ⟨k,n,hm,e1⟩|⟨hqn,⟨n,wX,hm,hl,e1⟩|⟨hqo,e1⟩⟩
  ·have:=(f3 _ hm).1;rw[h1] at this;cases this
  ·rw[h1] at hl
   cases hl;obtain⟨ls2,hl2,jI⟩:=oD Zu hm;rw[h1] at hl2;cases hl2;simp only at jI;have hjn:j<n:=by have:=(aja.1 h2).1;omega
   have hc:zb q j L.cs=true:=by have:=apa.1 (apa.1 Zi _ hm) j (b3a.2 hjn);simp only[h1,bOa,h2,Bool.or_false] at this;exact this
   have ht:dV (jg dst L.pin news told o) q j=none:=by
    cases hh:dV (jg dst L.pin news told o) q j with
    |none=>rfl
    |some x=>obtain⟨sp,hsp⟩:=vA hh;obtain⟨sc,hsc⟩:=D3.1 hc;exact absurd (rfl:(Pl.l q j).key=(Pl.l q j).key) ((f6 (Pl.l q j,sp) hsp q j rfl).1 (Pl.l q j,sc) hsc)
   obtain⟨lf',afd⟩:=I7 (c:=e.c) hc;refine⟨_,e1,?_,.inr ⟨_,lf',aes hm,yS hjn (by rw[aTa];exact afd),afd⟩⟩
   rw[Cf,aTa,h2,ht];simp[hc]
  ·exact⟨ls,by rw[e1];exact h1,h2,.inl (Xh q hqo)⟩
 ·rw[YL] at hA
  cases hlk:look (rp dst L.pin told o) a with
  |some B=>
   rw[hlk] at hA;simp only[OF] at hA;subst hA;obtain⟨p,sp,x,bp,hp,hr,p9,rfl,XX,hpk⟩:=g3 hlk;obtain⟨dq,m,t,rfl⟩:=AT XX;have hnl:=aas hr;have ux:B.md=m:=by simp only[mu.arr,OF] at XX;rw[←XX]
   have gS:∃ jM,(p.key,jM,B)∈bp:=by
    simp only[mu.arr,OF] at XX;simp only[zP] at hr;split at hr
    ·cases hw:m.Se with
     |false=>simp[hw] at hr
     |true=>simp only[hw,Q9,OF,aia] at hr;obtain⟨rfl,rfl⟩:=hr;exact⟨none,by rw[←XX];exact Q7.2 rfl⟩
    ·rename_i a' _
     split at hr
     ·rename_i A' _
      cases hs:(A'.sh||!m.lj A'.md) with
      |true=>simp[hs] at hr
      |false=>
       simp only[hs,ana] at hr;split at hr
       ·simp only[OF,aia] at hr
        obtain⟨rfl,rfl⟩:=hr;exact⟨some a',by rw[←XX];exact Q7.2 rfl⟩
       ·cases hr
     ·cases hr
    ·cases hr
   obtain⟨jM,gS⟩:=gS;have hb4:=p9 _ gS;have aeY:=qf.2 ⟨hb4,hpk⟩;obtain⟨_,hgd⟩:=acw _ _ _ hb4;cases jM with
   |some k=>exact .inl ⟨k,EQ (Ch hn4) aeY,hgd,dq,fun i o e2=>hnl i o (by rw[←ux];exact e2)⟩
   |none=>exact .inr (.inl ⟨EQ (Ch hn4) aeY,hgd.1,dq,hgd.2⟩)
  |none=>
   rw[hlk] at hA;simp only at hA;have htn:y0 dst (vU L.pin b4) a=none:=by
    cases ht:y0 dst (vU L.pin b4) a with
    |none=>rfl
    |some jM=>obtain⟨k,A',rfl,hm⟩:=uO ht;obtain⟨LT,hm2⟩:=qf.1 hm;obtain⟨B,hB⟩:=g4 LT hm2;rw[hlk] at hB;cases hB
   have hn:((e.a++e.b).map (·.1)).Nodup:=eB Ga.1
   cases hlb:look (oI L.pin e.b told o) a with
   |some B=>
    rw[hlb] at hA;simp only[OF] at hA;subst hA;obtain⟨k,C,q1,q2,q3,q4,q5,q6⟩:=ae8 hlb;cases hk:Ec (e.a++DU L.pin e.b) a with
    |none=>exact absurd (aoa _ (xr.2 ⟨q2,q1⟩)) (Hw hk _ _)
    |some k'=>
     obtain⟨A',hm⟩:=qE hk;have hm':(k',some a,A')∈e.a++e.b:=by
      rcases ala.1 hm with hm|hm
      ·exact axa _ hm
      ·exact aoa _ (xr.1 hm).1
     have e1:k' = k:=Jw (eB Ga.2) hm' (aoa _ q2);subst e1;exact .inr (.inr (.inl ⟨k',htn,rfl,trivial,q4,q5,q6⟩))
   |none=>
   rw[hlb] at hA;simp only at hA;by_cases B7:a∈KK e.b
   ·simp[B7] at hA
   ·simp only[B7,aca] at hA
    cases hk:Ec (e.a++DU L.pin e.b) a with
    |some k=>
     obtain⟨A',hm⟩:=qE hk;have hm:(k,some a,A')∈e.a:=by
      rcases ala.1 hm with hm|hm
      ·exact hm
      ·exact absurd (show a∈KK e.b from bha.2 ⟨_,(xr.1 hm).1,rfl⟩) B7
     obtain⟨dq,oW⟩:=aeU _ _ _ hm;simp only at oW;rw[KU E,oW] at hA;cases hA;obtain⟨hkp,_⟩:=Kq E.rc hm;simp only[uT,Q4] at IS;have agA:=A4 (v:=e.c) (eB IS.1);obtain⟨_,h4⟩:=Be (full:=⟨L.cs,e.c⟩) (bja Wq.2.2.2).1 agA IS.2 k (some k) A hkp;exact .inr (.inr (.inl ⟨k,htn,rfl,trivial,h4,dq,fun i o e2=>aar E.rc _ _ _ hm i o e2⟩))
    |none=>
     refine .inr (.inr (.inr ⟨htn,rfl,hA,.inr fun nm B h=>?_⟩));have hm:=dY h;rcases ala.1 hm with hm|hm
     ·exact Hw hk _ _ (axa _ hm)
     ·exact B7 (bha.2 ⟨_,hm,rfl⟩)
 ·obtain⟨k1,A1,rfl,LT⟩:=uO h
  obtain⟨k2,A2,rfl,hm2⟩:=uO h';rw[Jw hs4 (qf.1 LT).1 (qf.1 hm2).1]
 ·have sub:∀{k' a':Nat} {A':jG},(k',some a',A')∈e.a++DU L.pin e.b→(k',some a',A')∈e.a++e.b:=fun {k' a' A'} hm=>by
   rcases ala.1 hm with hm|hm
   ·exact axa _ hm
   ·exact aoa _ (xr.1 hm).1
  obtain⟨A1,LT⟩:=qE h;obtain⟨A2,hm2⟩:=qE h';have hn:((e.a++e.b).map (·.1)).Nodup:=eB Ga.1
  have e1:=lb hn (sub LT);have e2:=lb hn (sub hm2);rw[e1] at e2;simp only[OF,aia] at e2;exact e2.1
 ·obtain⟨k1,A1,rfl,LT⟩:=uO h
  obtain⟨LT,abq⟩:=qf.1 LT;obtain⟨A2,hm2⟩:=qE h';rcases ala.1 hm2 with hm2|hm2
  ·obtain⟨hk2,_⟩:=Kq E.rc hm2
   have IU:=eB abl.2;rw[List.filterMap_append,a_a] at IU;exact IU.2.2 k (bha.2 ⟨_,hk2,rfl⟩) k (bha.2 ⟨_,LT,rfl⟩) rfl
  ·obtain⟨_,hpk⟩:=xr.1 hm2
   have hp4:=apa.1 Zw k (gD.1 hpk);split at hp4
   ·rename_i b0 B hl
    have e0:=Q5 hp4;subst e0;have:=Jw hs4 LT (dY hl);subst this;rw[hpk] at abq;cases abq
   ·cases hp4
 ·obtain⟨k1,A1,rfl,LT⟩:=uO h
  obtain⟨LT,abq⟩:=qf.1 LT;obtain⟨B,hB⟩:=g4 LT abq;exact(f2 _ (dY hB)).2
 ·have hlk:look (rp dst L.pin told o) a=none:=by
   cases hl:look (rp dst L.pin told o) a with
   |none=>rfl
   |some B=>have:=(f2 _ (dY hl)).1;rw[hA] at this;cases this
  refine⟨?_,?_⟩
  ·cases ht:y0 dst (vU L.pin b4) a with
   |none=>rfl
   |some jM=>obtain⟨k,A',rfl,hm⟩:=uO ht;obtain⟨LT,hm2⟩:=qf.1 hm;obtain⟨B,hB⟩:=g4 LT hm2;rw[hlk] at hB;cases hB
  ·rw[YL,hlk]
   simp only;cases hlb:look (oI L.pin e.b told o) a with
   |some B=>exact⟨B,rfl⟩
   |none=>
    simp only;by_cases B7:a∈KK e.b
    ·obtain⟨⟨k,jM,B⟩,hx,hxe⟩:=bha.1 B7
     simp only at hxe;subst hxe;have h5:=apa.1 acA _ hx;simp only[Q4,a3a,aLa] at h5;rcases h5.2 with h6|h6
     ·have hp4:=apa.1 Zw k (gD.1 h6)
      split at hp4
      ·rename_i b0 B' hl
       have hnb:look e.b k=some (some a,B):=by
        have hn:((e.a++e.b).map (·.1)).Nodup:=eB Ga.1
        rw[bra,a_a] at hn;exact lb hn.2.1 hx
       obtain⟨C,hC⟩:=g7 (dY hl) h6 hnb;rw[hlb] at hC;cases hC
      ·cases hp4
     ·have Ax:eU a e.st.pin=true:=hp
      rw[h6] at Ax;cases Ax
    ·rw[aza B7];exact⟨A,hA⟩
end
end Go.Fx
namespace Go.Fx
theorem DF{G:Gh}:∀{args:List ab} {vs:List Value} {k i:Nat} {v:ab},All2 (aP G) args vs→look (oU k args) i=some v→∃ j u,i=k+j∧vs[j]? = some u∧aP G v u
 |[],[],k,i,v,_,h=>by cases h
 |a::r,u::us,k,i,v,hr,h=>by
  simp only[oU,au] at h;by_cases e:k=i
  ·simp only[e,aua,OF] at h
   subst h;exact⟨0,u,by omega,rfl,hr.1⟩
  ·simp only[e,aca] at h
   obtain⟨j,u',e1,e2,e3⟩:=DF hr.2 h;exact⟨j+1,u',by omega,by simpa using e2,e3⟩
 |[],_::_,_,_,_,hr,_=>hr.elim
 |_::_,[],_,_,_,hr,_=>hr.elim
theorem ay.X1{X:mz}{st st':St}{G:Gh}{w:World}(hm:ay X st G w)(ho:st'.cg=st.cg)(ha:st'.cM=st.cM)(hl:st'.cD=st.cD)(hb:st'.fK=st.fK)(hp:st'.pin=st.pin)(hv:st'.ER=st.ER):ay X st' G w:=by
 obtain⟨n,et,cg,cM,br,bl,ba,pn,vr⟩:=st;obtain⟨n',acW,WM,V5,br',bl',ba',pn',vr'⟩:=st';simp only at ho ha hl hb hp hv;subst ho ha hl hb hp hv;have Bb:∀ o j l,(⟨n',acW,WM,V5,br',bl',ba',pn',vr'⟩:St).res o j l=(⟨n,et,WM,V5,br,bl',ba',pn',vr'⟩:St).res o j l:=fun o j l=>by cases l<;>rfl
 have afp:∀ o (ls:List ag) j,(⟨n',acW,WM,V5,br',bl',ba',pn',vr'⟩:St).jV o j ls=(⟨n,et,WM,V5,br,bl',ba',pn',vr'⟩:St).jV o j ls:=fun o ls=>by
  induction ls with
  |nil=>intro j;rfl
  |cons l r ih=>intro j;simp only[St.jV,Bb,ih]
 exact {sl:=hm.sl,sh:=hm.sh,ob:=fun o ls h=>(by obtain⟨arr,elem,mid,g1,g2,g3⟩:=hm.ob o ls h;exact⟨arr,elem,mid,g1,g2,by unfold hY at g3 ⊢;rw[afp];exact g3⟩),ar:=hm.ar,ah:=hm.ah,nd:=hm.nd,pX:=hm.pX,dS:=hm.dS,sZ:=hm.sZ,s0:=hm.s0,sn:=hm.sn,fr:=hm.fr,sz:=hm.sz,os:=hm.os,tp:=hm.tp,out:=hm.out,pin:=hm.pin,bv:=hm.bv,ap:=hm.ap,hv:=hm.hv,ds:=hm.ds,hh:=hm.hh}
def mz.aa8(X:mz):mz:=⟨X.S0,X.Ya,X.w0,fun _=>none,(fun _ _ h=>(by cases h)),fun _ _=>none,(fun _ _ _ h=>(by cases h)),fun _=>none,X.ds⟩
theorem ay.aa8{X:mz}{st:St}{G:Gh}{w:World}(hm:ay X st G w):ay X.aa8 st G w:=
 {sl:=hm.sl,sh:=hm.sh,ob:=hm.ob,ar:=hm.ar,ah:=hm.ah,nd:=hm.nd,pX:=hm.pX,dS:=hm.dS,sZ:=hm.sZ,s0:=hm.s0,sn:=hm.sn,fr:=hm.fr,sz:=hm.sz,os:=hm.os,tp:=hm.tp,out:=hm.out,pin:=fun o p h=>(by cases h),bv:=fun o j u h=>(by cases h),ap:=fun a u h=>(by cases h),hv:=hm.hv,ds:=hm.ds,hh:=hm.hh}
theorem V7{X:mz}{st:St}{G:Gh}{w:World}(hm:ay X st G w){o j:Nat}{ls:List ag}{lf:ag}(ho:st.dL o=some ls)(hj:ls[j]? = some .ur)(hl:dV st.cD o j=some lf):
  ∃ arr elem u,w.heap[G.φ o]? = some (.cells arr elem (0,0))∧arr.toList[(G.pre o).length+j]? = some u∧aT G lf u:=by
 obtain⟨arr,elem,mid,g1,g2,g3⟩:=hm.ob o ls ho;have hml:mid.length=ls.length:=by have:=All2.length g3;rw[iJ] at this;exact this.symm
 have hjl:j<ls.length:=(aja.1 hj).1;have hx:(st.jV o 0 ls)[j]? = some lf:=by rw[rH,hj,aTa];simp[St.res,hl]
 obtain⟨u,hu,hr⟩:=All2.wh g3 hx;exact⟨arr,elem,u,g1,by rw[RY g2 (by omega)];exact hu,hr⟩
theorem Wl{full:(ps:kT)×PV ps}:∀{ps:kT} {v:PV ps} {o j:Nat} {m:Md} {t:Ty},kS full ps v→(Pl.l o j,mu.h m t)∈ps→dV (bZ full.1 full.2) o j=some (.mA (Pl.l o j).key)
 |[],v,_,_,_,_,_,h=>by cases h
 |(p,sp)::r,v,o,j,m,t,hf,h=>by
  rcases aka.1 h with h' | h'
  ·simp only[aia] at h'
   obtain⟨rfl,rfl⟩:=h';exact hf.1
  ·clear h
   cases p<;>exact Wl (ps:=r) hf.2.2 h'
theorem acp{G G':Gh}(hS:G'.S=G.S):∀{ls:List ag} {vs:List Value},vL ls=true→All2 (aT G) ls vs→All2 (aT G') ls vs
 |[],[],_,_=>trivial
 |.eV t d::r,_::_,h,hr=>⟨(by obtain⟨cs,e1,e2⟩:=hr.1;exact⟨cs,e1,by rw[hS];exact e2⟩),acp hS (ls:=r) h hr.2⟩
 |[],_::_,_,hr=>hr.elim
 |_::_,[],_,hr=>hr.elim
def Rc(av:ab):Prop:=(∃ lf,av=.one lf)∨∃ ls,av=.agg ls
theorem aaz{G':Gh}{l:List (Nat×ab)}{val:Nat→Value}(h:∀ i av,500000≤i→look l i=some av→Rc av∧aP G' av (val i))(i:Nat)(hi:500000≤i):Rc (QF l i)∧aP G' (QF l i) (val i):=by
 unfold QF;cases hl:look l i with
 |none=>exact⟨.inl ⟨_,rfl⟩,trivial⟩
 |some av=>exact h i av hi hl
theorem aaV{G':Gh}{av:ab}{u:Value}(ho:Rc av)(h:aP G' av u):if(OG av).1=true then ∃ cs:List Value,u=.agg cs.toArray∧All2 (aT G') (OG av).2 cs else ∃ l,(OG av).2=[l]∧aT G' l u:=by
 rcases ho with ⟨lf,rfl⟩|⟨ls,rfl⟩
 ·cases lf with
  |eV t d=>
   obtain⟨cs,e1,e2⟩:=h;by_cases ha:t.agg=true
   ·rw[a4a ha] at e1
    rw[a4a (show(OG (.one (.eV t d))).1=true from ha)]
    exact⟨cs,e1,lE e2⟩
   ·rw[aza ha] at e1
    rw[aza (show ¬ (OG (.one (.eV t d))).1=true from ha)]
    cases t<;>simp[Ty.agg] at ha<;>exact⟨_,rfl,cs,by simpa[Ty.agg] using e1,e2⟩
  |_=>exact⟨_,rfl,h⟩
 ·exact h
theorem abW{G':Gh}{l:List (Nat×ab)}{val:Nat→Value}(h:∀ i av,500000≤i→look l i=some av→Rc av∧aP G' av (val i))(res:List Nat)(hr:∀ i∈res,500000≤i):
  aP G' (afM l res) (HG (res.map val)):=by
 have uw:=aaz h;have all:∀(is:List Nat),(∀ i∈is,500000≤i)→All2 (fun(p:Bool×List ag) u=>if p.1=true then ∃ cs:List Value,u=.agg cs.toArray∧All2 (aT G') p.2 cs else ∃ l,p.2=[l]∧aT G' l u) (is.map fun i=>OG (QF l i)) (is.map val):=by
  intro is;induction is with
  |nil=>exact fun _=>trivial
  |cons i r ih=>exact fun hi=>⟨aaV (uw i (hi i (aqa ..))).1 (uw i (hi i (aqa ..))).2,ih fun k hk=>hi k (Q8 _ hk)⟩
 match res with
 |[]=>exact⟨[],rfl,trivial⟩
 |[i]=>exact(uw i (hr i (aqa ..))).2
 |i::j::r=>exact⟨_,rfl,all (i::j::r) hr⟩
theorem Ui{G':Gh}{l:List (Nat×Nat×ag)}{i:Nat}{sl:List ag}{R:ag→Value→Prop}(h:∀ j a lf u,sl[j]? = some a→dV l i j=some lf→R a u→aT G' lf u):∀(n j:Nat) (m:List ag) (cs:List Value),m.length=n→(∀ k,sl[j+k]? = m[k]?)→All2 R m cs→All2 (aT G') (qsh l i j n) cs
 |0,j,[],[],_,_,_=>trivial
 |n+1,j,a::m,c::cs,hl,hi,ha=>by
  refine⟨?_,Ui h n (j+1) m cs (by simpa using hl) (fun k=>by have:=hi (k+1);rw[show j+(k+1)=j+1+k by omega] at this;simpa using this) ha.2⟩
  cases hc:dV l i j with
  |none=>trivial
  |some lf=>exact h j a lf c (by simpa using hi 0) hc ha.1
 |0,j,[],_::_,_,_,ha=>ha.elim
 |n+1,j,_::_,[],_,_,ha=>ha.elim
def Mr(pin:List Nat)(s:St):List (Nat×ab):=s.et.filter fun p=>Nat.ble p.1 499999 &&
 (match p.2 with | .one (.mA _)=>eU (Pl.r p.1).key pin | .agg ls=>(List.range ls.length).any fun j=>eU (Pl.q p.1 j).key pin|_=>false)
theorem Vz{pin:List Nat}{s:St}{i:Nat}{v:ab}(h:look (Mr pin s) i=some v):i<500000:=by have:=(bSa.1 (dY h)).2;simp only[Q4] at this;have:=aUa this.1;omega
def Si(pin:List Nat)(avs:List ab)(s:St):St:={s with et:=oU 500000 avs++Mr pin s}
def Jp(n:Nat):List Nat:=(List.range n).map (500000 + ·)
theorem Uk(uP:List Value):(Jp uP.length).map (fun i=>uP.getD (i - 500000) undef)=uP:=by
 apply bHa;intro i;unfold Jp;rw[bIa,bIa];by_cases h:i<uP.length
 ·simp[h]
 ·simp[coa h]
theorem EB{E:sb}{st:St}:∀{rv:List ResultVar} {avs:List ab},L5 E st rv=some avs→avs.length=rv.length
 |[],avs,h=>by cases h;rfl
 |.tmp t::r,avs,h=>by
  simp only[L5] at h;split at h
  ·rename_i l hl;cases h;simp[EB hl]
  ·cases h
 |.cell t T::r,avs,h=>by
  simp only[L5] at h;split at h
  ·split at h
   ·rename_i v l _ hl;cases h;simp[EB hl]
   ·cases h
  ·cases h
section
variable {P:Program} {E:sb} (hE:F1 P E)
include hE
theorem adt{f:FuncId}{fn:Func}{body:Code}{L:pW}{W:Type}{F:PV L.cs→PV L.vs→Option W}{dk:DkO W}{out:PV L.cs→St→Option W}{pout:PV L.cs→ab→St→Option W}
  (hf:P.funcs[f]? = some fn) (hb:fn.body=some body) (A8:∀ args w,(callFunc f args).run P w=.ok (.enter f args) w) (hL:rV P E body) (hn:fn.ntmps=L.n)
  (h1:∀ c v x,F c v=some x→sm E body (L.st c v) (fun e s=>match e with | .normal=>out c s | .ret=>out c s|_=>none) (pout c)=some x)
  (h2:∀ c s x,out c s=some x→∃ avs told o news,L5 E s fn.results.toList=some avs∧PJ L (fP L.cs c) told news (Si L.pin avs s)=some o∧∀(R:Type) (f:(told:kT)→PV told→List (Nat×Nat×Nat)→List Nat→Option R) g,dk R x f g=f told o news (Jp fn.results.toList.length))
  (h3:∀ c av s x,pout c av s=some x→∃ T ls,av=.Ak T ls∧vL ls=true∧PJ L (fP L.cs c) [] [] s=some ()∧∀(R:Type) (f:(told:kT)→PV told→List (Nat×Nat×Nat)→List Nat→Option R) g,dk R x f g=g T ls):
  AR P E.gt f (mP L F dk):=by
 intro R r X st G w dst args vs K KP hr zd hm _ ha;simp only[mP] at hr;cases he:Y2 L args st with
 |none=>rw[he] at hr;cases hr
 |some e=>
  rw[he] at hr;obtain⟨s1,s,EN⟩:=Wf he;simp only at hr;cases hbc:(V6 L e.st&&Ry L.pin e.b e.st) with
  |false=>simp[hbc] at hr
  |true=>
   simp only[hbc,Q9] at hr;simp only[Q4] at hbc;obtain⟨x,hx,hr⟩:=awa.1 hr;have m0:ay X (CQ L.n args st) G w:=hm.X1 rfl rfl rfl rfl rfl rfl;obtain⟨G1,m1,a1,k1⟩:=nO EN.sc m0;obtain⟨G2,m2,a2,k2⟩:=nO EN.sv m1;have a02:=a1.trans a2;have al':=EN.al;simp only[z6,Q4] at al';have IU:((e.a++e.b).map (·.1)).Nodup:=eB al'.1
   have N:=TT (L:=L) (uG IU EN.rc (fun e he=>axa _ he)) (uG IU EN.rv (fun e he=>aoa _ he))
    (fun nm jM A gS=>by
     rcases ala.1 gS with gS|gS
     ·exact pf EN.rc nm jM A gS
     ·exact pf EN.rv nm jM A gS) EN.al EN.ob EN.zo.iL.1.symm EN.q
   have Ai:ay X.aa8 (L.st e.c e.v) (G2.t8 (e.a++e.b)) w:=N.ok m2.aa8 (fun o p h=>by cases h) (fun o j u h=>by cases h) (fun a u h=>by cases h)
   have hmi:=Ai.enter;have me:ay X e.st G2 w:=by rw[EN.st'];have al:=EN.zo;exact m2.X1 al.cg.symm rfl al.iL.2.2.1.symm (bja al.iL.2.2.2).1.symm (bja al.iL.2.2.2).2.symm al.ER.symm
   have BI:nv E.gt (wi (L.st e.c e.v) (G2.t8 (e.a++e.b)) w).S0:=zd.mono m2.s0;have jI:vs.length=args.length:=(All2.length ha).symm;have wM:bM {G2.t8 (e.a++e.b) with ds:=[]} (L.st e.c e.v) {tmps:=vs.toArray++Array.replicate (fn.ntmps - vs.toArray.size) undef,defers:=[]}:=by
    refine N.et (G:={G2 with ds:=[]}) m2.ds0 ⟨rfl,?_,fun i v hv=>?_⟩
    ·have:s.n=L.n:=EN.zo.iL.1
     have:=EN.len;simp;omega
    ·have e1:s.ib i=look (oU 0 args) i:=by
      simp only[St.ib,EN.zo.et,EN.zo.iL.2.1];show(match look (oU 0 args) i with|some v=>some v|none=>look [] i)=_
      cases look (oU 0 args) i<;>rfl
     rw[e1] at hv;obtain⟨j,u,e2,e3,e4⟩:=DF ha hv;have hj:j<vs.length:=(aja.1 e3).1;have e5:i=j:=by omega
     subst e5;have:(vs.toArray++Array.replicate (fn.ntmps - vs.toArray.size) undef).getD i undef=u:=by
      rw[aAa,Array.getElem?_append_left (by simpa using hj)]
      simp[e3]
     rw[this];exact Gh.aeu (e4.sub a02)
   have hx1:=h1 e.c e.v x hx;have iy:∀{told:kT} {o:PV told} {news:List (Nat×Nat×Nat)} {s3:St} {G3:Gh} {w':World},s6 L e.c s3→ay (wi (L.st e.c e.v) (G2.t8 (e.a++e.b)) w) s3 G3 w'→PJ L (fP L.cs e.c) told news s3=some o→DW dst L told o news e.st=true→
     ∃ s4 b4 G4 li,ay (wi (L.st e.c e.v) (G2.t8 (e.a++e.b)) w) s4 G4 w'∧G3.ME G4∧qS s3 s4∧lc s4 told=some (o,b4)∧qOk told s4=true∧(b4.map (·.1)).Nodup∧ay X (Im dst L told o news e.a e.b e.st) (G2.iy G4 (y0 dst (vU L.pin b4)) li (C5 news)) w'∧
      (∀ act,bM G st act→bM (G2.iy G4 (y0 dst (vU L.pin b4)) li (C5 news)) (Im dst L told o news e.a e.b e.st) act):=fun {told o news s3 G3 w'} hbo m3 hrn sU=>by
    unfold PJ at hrn;split at hrn
    ·cases hrn
    ·rename_i s4 hs4
     split at hrn
     ·cases hrn
     ·rename_i o' b4 Ay
      cases hk:(uT s4 L.cs&&z6 (fP L.cs e.c++b4)&&yL L.cg s4&&yL (news.map fun p=>(p.1,p.2.1)) s4&&qOk told s4&&Gj L.pin b4) with
      |false=>simp[hk] at hrn
      |true=>
       simp only[hk,Q9,OF] at hrn;subst hrn;simp only[Q4] at hk;obtain⟨⟨⟨⟨⟨q1,q2⟩,q3⟩,q4⟩,q5⟩,q6⟩:=hk;have hb4:=hbo.iL (nZ hs4);obtain⟨G4,m4,a4,k4⟩:=nO hs4 m3;have M:=ZZ EN hbc.1 hbc.2 Ay q1 q2 q3 q4 hb4 sU q6;have hn4:(b4.map (·.1)).Nodup:=by have:=q2;simp only[z6,Q4] at this;have:=eB this.1;rw[bra,a_a] at this;exact this.2.1
       have IS:∀ a k,Ec (e.a++DU L.pin e.b) a=some k→y0 dst (vU L.pin b4) a=none→G4.ψ k=G2.ψ a:=fun a k hka _=>by
        obtain⟨A',gS⟩:=qE hka;rcases ala.1 gS with gS|gS
        rotate_left
        ·obtain⟨hmb,hpk⟩:=xr.1 gS
         have hl:look (e.a++e.b) k=some (some a,A'):=lb IU (aoa _ hmb);obtain⟨B,hB⟩:=Sp (L:=L) (c:=e.c) (v:=e.v) (.inr (xt EN.rv _ _ _ hmb));have h1:=(m4.ap k _ (Vc (show eU k (L.st e.c e.v).pin=true from hpk) hB)).2.2;rw[h1];simp only[Gh.t8,hl]
        obtain⟨p,hp,ek,⟨md,t,hsp⟩,uw⟩:=Ez EN.rc k _ A' gS;obtain⟨⟨pl,sp⟩,rfl⟩:∃ q,q=p:=⟨p,rfl⟩;simp only at ek hsp uw;subst hsp;cases pl with
        |r i=>have hl:=EN.Pp;simp only[yJ,Q4,apa] at hl;have:=hl.2 _ hp;simp at this
        |q i j=>have hl:=EN.Pp;simp only[yJ,Q4,apa] at hl;have:=hl.2 _ hp;simp at this
        |l q j=>
         have hq:=WA EN.Pp (axa _ hp) rfl;obtain⟨⟨q',n⟩,hqm,rfl⟩:=aXa.1 hq;have bq:=RR EN.Pp hqm;have ho:(L.st e.c e.v).dL q' = some (pg (bZ L.cs e.c) (bZ L.vs e.v) q' 0 n):=
          tD (f:=fun p=>pg (bZ L.cs e.c) (bZ L.vs e.v) p.1 0 p.2) (Kt EN.Pp) hqm
         simp only[uT,Q4,apa] at q1;have hlf:=Wl (A4 (v:=e.c) (eB q1.1)) hp;have hjn:j<n:=by
          obtain⟨sl,e1,e2⟩:=oD EN.ob hqm;simp only at e1 e2;simp only[St.at,e1] at uw;cases hj:sl[j]? with
          |none=>rw[hj] at uw;simp at uw
          |some l=>have:=(aja.1 hj).1;omega
         have hjt:(pg (bZ L.cs e.c) (bZ L.vs e.v) q' 0 n)[j]? = some .ur:=yS hjn (by rw[aTa];exact hlf)
         have h5:=q1.2 _ hp;simp only[I4,Q4] at h5;have h6:=h5.1;split at h6
         ·rename_i ls4 e4
          split at h6
          ·rename_i Pj
           obtain⟨arr,elem,u,b1,b2,b3⟩:=NO Ai bq ho hlf hjt;obtain⟨arr',P6,u',b4',b5,b6⟩:=V7 Ai ho hjt hlf;rw[b1] at b4';simp only[OF,Obj.cells.injEq] at b4';obtain⟨rfl,_⟩:=b4';rw[b2] at b5;cases b5;obtain⟨_,_,YK,Y1,c1,c2⟩:=m4.bv _ _ _ b3;have agF:dV s4.cD q' j=some (.mA (Pl.l q' j).key):=by rw[hb4.2.2.1];exact hlf
           obtain⟨aeF,ahg,u3,d1,d2,d3⟩:=V7 m4 e4 Pj agF;rw[c1] at d1;simp only[OF,Obj.cells.injEq] at d1;obtain⟨rfl,_⟩:=d1;rw[c2] at d2;cases d2;have f1:u=G4.ψ (Pl.l q' j).key:=d3;have f2:u=(G2.t8 (e.a++e.b)).ψ (Pl.l q' j).key:=b6;have f3:look (e.a++e.b) (Pl.l q' j).key=some (some a,A'):=lb IU (axa _ (by rw[←ek];exact gS))
           rw[ek,←f1,f2];simp only[Gh.t8,f3]
          ·cases h6
         ·cases h6
       have jr:∀ x b,eR (G2.t8 (e.a++e.b)) (L.st e.c e.v) x b→∃ x',eR G2 e.st x' b∧((∃ o,x=(false,o)∧x' = (false,o))∨∃ nm a A,x=(true,nm)∧x' = (true,a)∧look (e.a++e.b) nm=some (some a,A)):=fun x b hx=>by
        obtain⟨x',h1,h2⟩:=N.pd x b hx;refine⟨x',?_,h2⟩;obtain⟨kd,nn⟩:=x';cases kd with
        |false=>obtain⟨⟨ls,hl⟩,e⟩:=h1;exact⟨⟨ls,by rw[KV EN];exact hl⟩,e⟩
        |true=>obtain⟨⟨A,hA,hs⟩,e⟩:=h1;exact⟨⟨A,by rw[KU EN];exact hA,hs⟩,e⟩
       have m5:=M.ok me jr Ai m4 IS;refine⟨s4,b4,G4,_,m4,a4,k4,Ay,q5,hn4,m5,fun act ra=>M.et m4.s0 ?_⟩;refine ra.sub a02 ?_ fun i=>?_<;>rw[EN.st'];rfl
   have Kl:∀ s3 G3 w' act,s6 L e.c s3→ay (wi (L.st e.c e.v) (G2.t8 (e.a++e.b)) w) s3 G3 w'→bM G3 s3 act→out e.c s3=some x→act.defers=[]∧∃ v,(results fn act.tmps).run P w' = .ok v w'∧
     ∃ av st' G',ay X st' G' w'∧(∀ act,bM G st act→bM G' st' act)∧aP G' av v∧K av st' = some r:=fun s3 G3 w' act hbo m3 r3 ho=>by
    refine⟨r3.1.trans m3.ds,?_⟩;obtain⟨avs,told,o,news,g0,g1,g3⟩:=h2 _ _ _ ho;rw[g3] at hr;cases sU:DW dst L told o news e.st with
    |false=>simp[sU] at hr
    |true=>
     simp only[sU,Q9] at hr;obtain⟨uP,it,hav⟩:=K9 hE.ia m3 r3 g0;obtain⟨s4,b4,G4,li,m4,a4,k4,Ay,hqk,hn4,m5,rg⟩:=iy (s3:=Si L.pin avs s3) ⟨hbo.1,hbo.2.1,hbo.2.2.1,hbo.2.2.2⟩ (m3.X1 rfl rfl rfl rfl rfl rfl) g1 sU;refine⟨_,it,_,_,_,m5,rg,?_,hr⟩;obtain⟨f1,f2,f3,f4,f5,f6,f7⟩:=DX sU;have hvl:uP.length=fn.results.toList.length:=by rw[←All2.length hav,EB g0]
     rw[←hvl]
     conv=>arg 3;rw[←Uk uP]
     have hφ4:∀ q tl,(L.st e.c e.v).dL q=some tl→G4.φ q=G2.φ q∧G4.pre q=G2.pre q:=fun q tl hq=>by obtain⟨n,hqm,_⟩:=xq hq;have:=(m4.pin q _ (Qk (RR EN.Pp hqm) hq)).2;simp only[aia] at this;exact⟨this.1.symm,this.2.1.symm⟩
     have afh:∀ p∈news,(L.st e.c e.v).dL p.2.2=none:=fun p hp=>by
      cases ht:(L.st e.c e.v).dL p.2.2 with
      |none=>rfl
      |some tl=>obtain⟨n,hqm,_⟩:=xq ht;obtain⟨ls,Pj,_⟩:=oD (IG EN) hqm;rw[(f3 p hp).1] at Pj;cases Pj
     have acC:∀{pl:Pl} {sp:mu},(pl,sp)∈told→∀ q off,sp=.lit (.np q off)→(∃ tl,(L.st e.c e.v).dL q=some tl)∨q∈news.map (·.1):=fun {pl sp} e1 q off hs=>
      (f7 _ e1 q off hs).imp (fun hq=>uU (f:=fun p=>pg (bZ L.cs e.c) (bZ L.vs e.v) p.1 0 p.2) hq) id
     have acG:∀ i,500000≤i→aP G4 (s4.uH i) (uP.getD (i - 500000) undef):=fun i hpi=>by
      unfold St.uH;cases hs:s4.ib i with
      |none=>trivial
      |some v=>
       have hsv:s4.uH i=v:=by unfold St.uH;rw[hs]
       rw[k4.ib] at hs;have B6:look (oU 500000 avs) i=some v:=by
        have rh:s3.jh=[]:=by
         rw[hbo.2.1];have hl:=EN.Pp;simp only[yJ,Q4,apa] at hl;have key:∀{cs:kT} {c:PV cs},(∀ p∈cs,(match p.1 with | .l _ _=>true|_=>false)=true)→lG cs c=[]:=by
          intro cs;induction cs with
          |nil=>intro c _;rfl
          |cons p r ih=>
           intro c h;obtain⟨pl,sp⟩:=p;cases pl with
           |r i=>have:=h _ (aqa ..);simp at this
           |q i j=>have:=h _ (aqa ..);simp at this
           |l o j=>exact ih fun p hp=>h p (Q8 _ hp)
         exact key hl.2
        have:(Si L.pin avs s3).ib i=(match look (oU 500000 avs++Mr L.pin s3) i with|some v=>some v|none=>look s3.jh i):=rfl
        rw[this,rh,ij] at hs;cases hq:look (oU 500000 avs) i with
        |some u=>rw[hq] at hs;exact hs
        |none=>
         rw[hq] at hs;simp only at hs;cases hp:look (Mr L.pin s3) i with
         |none=>rw[hp] at hs;cases hs
         |some u=>exact absurd (Vz hp) (by omega)
       obtain⟨j,u,q1,q2,q3⟩:=DF hav B6;have:uP.getD (i - 500000) undef=u:=by rw[q1,bca,a6a,q2];rfl
       rw[this];exact q3.sub a4
     have aeS:=KG Ay (dst:=dst) (news:=news) (pin:=L.pin) (ba:=e.b);refine abW (fun i av hi5 hl=>?_) _ (fun i hi=>by obtain⟨j,_,rfl⟩:=aXa.1 hi;omega)
     unfold SR at hl;rw[ij] at hl;cases hlr:look (K8 dst L.pin news told o) i with
     |some av'=>
      rw[hlr] at hl;cases hl;obtain⟨sp,x',bp,e1,e2,e3,rfl⟩:=aeS.2.1 hlr;cases hpi:eU (Pl.r i).key L.pin with
      |true=>exact⟨.inl ⟨_,rfl⟩,by unfold yZ;rw[hpi];trivial⟩
      |false=>exact⟨.inl ⟨_,rfl⟩,Fj (t:=L.st e.c e.v) (p:=.r i) e2 e3 hn4 ⟨_,_,m4⟩ hφ4 f5 afh (acC e1) (acG i hi5)⟩
     |none=>
      rw[hlr] at hl;simp only at hl;have gS:=dY hl;obtain⟨⟨k,n⟩,hk1,hk2⟩:=aXa.1 gS;simp only[aia] at hk2;obtain⟨rfl,rfl⟩:=hk2;refine⟨.inr ⟨_,rfl⟩,?_⟩;have hq4:=apa.1 hqk _ hk1;split at hq4
      ·rename_i ls Pj
       obtain⟨cs,c1,c2⟩:=aap m4 Pj (acG k hi5);refine⟨cs,c1,Ui (R:=aT G4) (sl:=ls) (fun j a lf u ha hlf hu=>?_) n 0 ls cs (Q5 hq4) (fun k=>by rw[aTa]) c2⟩
       obtain⟨sp,x',bp,e1,e2,e3,rfl⟩:=aeS.2.2.1 hlf;exact Fj (t:=L.st e.c e.v) (p:=.q k j) e2 e3 hn4 ⟨_,_,m4⟩ hφ4 f5 afh (acC e1) (by
        simp only[St.at,Pj,ha];exact hu)
      ·cases hq4
   have adI:∀ av u s3 G3 w',s6 L e.c s3→ay (wi (L.st e.c e.v) (G2.t8 (e.a++e.b)) w) s3 G3 w'→aP G3 av u→pout e.c av s3=some x→∃ av st' G',ay X st' G' w'∧aP G' av u∧KP av st' = some r:=fun av u s3 G3 w' hbo m3 hv ho=>by
    obtain⟨T,ls,rfl,hd,g1,g2⟩:=h3 _ _ _ _ ho;rw[g2] at hr;obtain⟨s4,b4,G4,li,m4,a4,k4,Ay,hqk,hn4,m5,rg⟩:=iy hbo m3 g1 (by simp[DW,rp,nX])
    refine⟨_,_,_,m5,?_,hr⟩;obtain⟨x',cs,e1,e2,e3⟩:=hv;exact⟨x',cs,e1,e2,acp (G:=G4) (G':=G2.iy G4 (y0 dst (vU L.pin b4)) li (C5 [])) rfl hd (HS a4 e3)⟩
   refine⟨A8 _ _,calls_of_wp hf hb ?_⟩;have hx1:=(QI hE.Rx hE.acP body (K':=fun e' s=>gd L e.c s (match e' with | .normal=>out e.c s | .ret=>out e.c s|_=>none))
    (KP':=fun av s=>gd L e.c s (pout e.c av s)) (fun e s hs=>(Kg ⟨hs.1.symm,hs.2.1,hs.2.2.1,hs.2.2.2⟩).symm) (fun av s hs=>(Kg ⟨hs.1.symm,hs.2.1,hs.2.2.1,hs.2.2.2⟩).symm)).symm.trans hx1
   refine zQ hE BI body hL hx1 hmi wM (fun e s G3 w' act m3 r3 hk=>?_) (fun av v s G3 w' act m3 r3 hv hk=>?_)
   ·obtain⟨hbo,hk⟩:=E0 hk
    cases e with
    |normal=>exact Kl s G3 w' act hbo m3 r3 hk
    |ret=>exact Kl s G3 w' act hbo m3 r3 hk
    |_=>cases hk
   ·obtain⟨hbo,hk⟩:=E0 hk
    obtain⟨av',st',G',q1,q2,q3⟩:=adI av v s G3 w' hbo m3 hv hk;exact⟨r3.trans m3.ds,_,rfl,av',st',G',q1,q2,q3⟩
end
end Go.Fx
namespace Go.Fx
def Xg:TD→TypeDesc→Bool
 |.int k,.int k'=>decide (k=k')
 |.bool,.bool=>true
 |.str,.string=>true
 |.slice e,.slice e'=>Nat.beq e e'
 |.struct fs,.struct nV=>decide (fs=nV.toList.map fun f=>(f.offset,f.type))
 |.np e,.pointer e'=>Nat.beq e e'
 |.arr n e,.array n' e'=>Nat.beq n n'&&Nat.beq e e'
 |.mp k v,.map k' v'=>Nat.beq k k'&&Nat.beq v v'
 |.aac,d=>!d.isRow&&(match d with | .int _=>false | .string=>false | .slice _=>false|_=>true)
 |_,_=>false
theorem aaT{x:TD}{d:TypeDesc}(h:Xg x d=true):y8 x d:=by
 cases x<;>cases d<;>simp_all[Xg,y8]
 all_goals first|exact Q5 h|exact⟨Q5 h.1,Q5 h.2⟩|skip
def afA:Kd→Kd→Bool
 |.int k,.int k'=>decide (k=k')
 |.bool,.bool=>true
 |.str,.str=>true
 |_,_=>false
def Ww:List Kd→List Kd→Bool
 |[],[]=>true
 |a::r,b::s=>afA a b&&Ww r s
 |_,_=>false
theorem TF:∀{a b:List Kd},Ww a b=true→a=b
 |[],[],_=>rfl
 |x::r,y::s,h=>by simp only[Ww,Q4] at h;rw[TF h.2];have:=h.1;cases x<;>cases y<;>simp_all[afA]
 |[],_::_,h=>by cases h
 |_::_,[],h=>by cases h
def ad0(P:Program)(ti:TI):Bool:=
 match ti.iz with
 |.mp k v=>(match P.underlying k,P.underlying v,(P.info? v).bind (·.zero) with
  |some .string,some (.int .i64),some (.int .i64 n)=>decide (n=0)
  |_,_,_=>false)
 |_=>true
theorem abC{P:Program}{ti:TI}(h:ad0 P ti=true):∀ k v,ti.iz=.mp k v→P.underlying k=some .string∧P.underlying v=some (.int .i64)∧∃ j,P.info? v=some j∧j.zero=some (.int .i64 0):=fun k v hd=>by
 unfold ad0 at h;rw[hd] at h;simp only at h;split at h
 ·rename_i n h1 h2 h3
  obtain⟨j,h4,h5⟩:=awa.1 h3;have:n=0:=by simpa using h
  exact⟨h1,h2,j,h4,by rw[h5,this]⟩
 ·cases h
def abe(P:Program)(t:TypeId)(ti:TI):Bool:=
 ad0 P ti &&
 match ti.iz.agg,ti.ty.bind Ks with
 |true,some ks=>(match CY P 6 t with|some l=>Ww l ks|none=>false)
 |_,_=>true
theorem af6{P:Program}{t:TypeId}{i:TypeInfo}{d:TypeDesc}{ti:TI}(h1:P.info? t=some i)(h2:P.underlying t=some d)(h3:i.zero.isSome=true)(h4:(i.zero.getD undef).cells.toList=ti.zero)
  (h5:(Xg ti.iz d&&Nat.beq i.size ti.size&&Nat.beq i.bytes ti.bytes&&(ti.iz.agg||Nat.beq ti.size 1)&&Nat.beq ti.zero.length ti.size)=true) (h6:abe P t ti=true):zZ P t ti:=by
 simp only[Q4,a3a] at h5;obtain⟨⟨⟨⟨a,b⟩,c⟩,e⟩,f⟩:=h5;refine⟨i,d,i.zero.getD undef,h1,h2,Q5 b,Q5 c,?_,h4,aaT a,fun hn=>?_,Q5 f,fun ks h7 h8=>?_,abC (by unfold abe at h6;simp only[Q4] at h6;exact h6.1)⟩
 ·cases hz:i.zero with
  |none=>rw[hz] at h3;cases h3
  |some z=>rfl
 ·rcases e with e|e
  ·rw[hn] at e;cases e
  ·exact Q5 e
 ·unfold abe at h6
  simp only[Q4] at h6
  replace h6:=h6.2
  rw[h7,h8] at h6;simp only at h6;split at h6
  ·rename_i l hl;rw[hl,TF h6]
  ·cases h6
def aa3(P:Program):List (Nat×TI)→Prop
 |[]=>True
 |p::r=>zZ P p.1 p.2∧aa3 P r
theorem Xf{P:Program}:∀{l:List (Nat×TI)},aa3 P l→iq P (look l)
 |[],_,t,ti,h=>by cases h
 |p::r,hl,t,ti,h=>by
  obtain⟨k,v⟩:=p;rw[au] at h;by_cases e:k=t
  ·subst e;simp only[aua,OF] at h;subst h;exact hl.1
  ·simp only[e,aca] at h;exact Xf hl.2 t ti h
def TN{α:Type 1}:List (Nat×α)→Nat→Option α
 |[],_=>none
 |(k,v)::r,i=>bif Nat.beq k i then some v else TN r i
theorem Bs{α:Type 1}:∀{l:List (Nat×α)} {k:Nat} {v:α},TN l k=some v→(k,v)∈l
 |(k',v')::r,k,v,h=>by
  simp only[TN] at h;cases hb:Nat.beq k' k with
  |true=>simp only[hb,Q9,OF] at h;obtain rfl:=Q5 hb;subst h;exact aqa ..
  |false=>simp only[hb,ana] at h;exact Q8 _ (Bs h)
structure mb(P:Program)(gt:Nat→Option GA)(f:FuncId)(s:iX):Prop where
 ok:AR P gt f s
 det:oS s
 Rx:m6 s
def SH(P:Program)(gt:Nat→Option GA):List (Nat×iX)→Prop
 |[]=>True
 |p::r=>mb P gt p.1 p.2∧SH P gt r
theorem SH.mem{P:Program}{gt:Nat→Option GA}:∀{l:List (Nat×iX)},SH P gt l→∀ p∈l,mb P gt p.1 p.2
 |[],_,_,h=>by cases h
 |q::r,hl,p,h=>by
  rcases aka.1 h with rfl|h
  ·exact hl.1
  ·exact hl.2.mem p h
def SG:List (Nat×lm)→Prop
 |[]=>True
 |p::r=>AM p.2∧SG r
theorem SG.mem:∀{l:List (Nat×lm)},SG l→∀ p∈l,AM p.2
 |[],_,_,h=>by cases h
 |q::r,hl,p,h=>by
  rcases aka.1 h with rfl|h
  ·exact hl.1
  ·exact hl.2.mem p h
def acu(gt:Nat→Option GA)(ia:List (Nat×TI))(ab0:List (Nat×iX))(od:List (Nat×lm))(on:List (Nat×Nat)):sb:=
 ⟨gt,look ia,TN ab0,TN od,fun n=>match look on n with|some o=>o|none=>n+10000⟩
theorem adp{P:Program}{gt:Nat→Option GA}{ia:List (Nat×TI)}{ab0:List (Nat×iX)}{od:List (Nat×lm)}{on:List (Nat×Nat)}(Zq:P.follows .mixedOrders=true)(ht:aa3 P ia)(hs:SH P gt ab0)(hl:SG od):F1 P (acu gt ia ab0 od on):=
 ⟨Xf ht,Zq,fun f s h=>(hs.mem _ (Bs h)).ok,fun f s h=>(hs.mem _ (Bs h)).det,fun f s h=>(hs.mem _ (Bs h)).Rx,fun i L h=>hl.mem _ (Bs h)⟩
def UH:kT→List Ty
 |[]=>[]
 |(_,.d t)::r=>t::UH r
 |(_,.h _ t)::r=>.slice t::UH r
 |(_,.any)::r=>UH r
 |(_,.lit _)::r=>UH r
def N4:(ps:kT)→PV ps→DL (UH ps)
 |[],_=>()
 |(_,.d _)::r,v=>(v.1,N4 r v.2)
 |(_,.h _ _)::r,v=>(v.1,N4 r v.2)
 |(_,.any)::r,v=>N4 r v.2
 |(_,.lit _)::r,v=>N4 r v.2
def toPV:(ps:kT)→DL (UH ps)→PV ps
 |[],_=>()
 |(_,.d _)::r,v=>(v.1,toPV r v.2)
 |(_,.h _ _)::r,v=>(v.1,toPV r v.2)
 |(_,.any)::r,v=>((),toPV r v)
 |(_,.lit _)::r,v=>((),toPV r v)
theorem QY:∀{ps:kT} {v:PV ps},toPV ps (N4 ps v)=v
 |[],_=>rfl
 |(_,.d _)::r,v=>by show(v.1,toPV r (N4 r v.2))=v;rw[QY]
 |(_,.h _ _)::r,v=>by show(v.1,toPV r (N4 r v.2))=v;rw[QY]
 |(_,.any)::r,v=>by show((),toPV r (N4 r v.2))=v;rw[QY]
 |(_,.lit _)::r,v=>by show((),toPV r (N4 r v.2))=v;rw[QY]
def Qe:(ts:List Ty)→List ag→Option (DL ts)
 |[],[]=>some ()
 |t::ts,.eV u d::r=>(match vf u t d,Qe ts r with|some x,some y=>some (x,y)|_,_=>none)
 |_,_=>none
def YT:(ts:List Ty)→DL ts→List ag
 |[],_=>[]
 |t::r,d=>.eV t d.1::YT r d.2
theorem IP:∀{ts:List Ty} {ls:List ag} {d:DL ts},Qe ts ls=some d→vL ls=true∧YT ts d=ls
 |[],[],_,_=>⟨rfl,rfl⟩
 |t::ts,.eV u x::r,d,h=>by
  simp only[Qe] at h;split at h
  ·rename_i x' y h1 h2
   simp only[OF] at h;subst h;obtain⟨e1,e2⟩:=IP h2;obtain⟨rfl,rfl⟩:=lC h1;exact⟨e1,by simp[YT,e2]⟩
  ·cases h
 |[],_::_,_,h=>by cases h
 |_::_,[],_,h=>by cases h
 |_::_,.any::_,_,h=>by cases h
 |_::_,.uZ::_,_,h=>by cases h
 |_::_,.ur::_,_,h=>by cases h
 |_::_,.nil::_,_,h=>by cases h
 |_::_,.Kz::_,_,h=>by cases h
 |_::_,.mA _::_,_,h=>by cases h
 |_::_,.np _ _::_,_,h=>by cases h
 |_::_,.DT _ _ _ _::_,_,h=>by cases h
 |_::_,.PK _ _ _::_,_,h=>by cases h
 |_::_,.fn _::_,_,h=>by cases h
 |_::_,.ga _ _::_,_,h=>by cases h
inductive VO where
 |ret (told:kT) (news:List (Nat×Nat×Nat))|Az (T:TypeId) (ts:List Ty)
def VO.tys:VO→List Ty
 |.ret told _=>UH told
 |.Az _ ts=>ts
@[reducible] def WO:List VO→Type
 |[]=>Empty
 |[v]=>DL v.tys
 |v::u::r=>DL v.tys⊕WO (u::r)
def VO.out(L:pW)(al:AL)(s:St):(v:VO)→Option (DL v.tys)
 |.ret told news=>(PJ L al told news s).map (N4 told)
 |.Az _ _=>none
def VO.pout(L:pW)(al:AL)(av:ab)(s:St):(v:VO)→Option (DL v.tys)
 |.ret _ _=>none
 |.Az T ts=>(match av with
  |.Ak T' ls=>(bif Nat.beq T T' then(match PJ L al [] [] s with|some _=>Qe ts ls|none=>none) else none)
  |_=>none)
def VO.dk(res:List Nat){R:Type}:(v:VO)→DL v.tys→((told:kT)→PV told→List (Nat×Nat×Nat)→List Nat→Option R)→(TypeId→List ag→Option R)→Option R
 |.ret told news,d,f,_=>f told (toPV told d) news res
 |.Az T ts,d,_,g=>g T (YT ts d)
def abJ(L:pW)(al:AL)(s:St):(vs:List VO)→Option (WO vs)
 |[]=>none
 |[v]=>v.out L al s
 |v::u::r=>(match v.out L al s with|some o=>some (.inl o)|none=>(abJ L al s (u::r)).map .inr)
def WY(L:pW)(al:AL)(av:ab)(s:St):(vs:List VO)→Option (WO vs)
 |[]=>none
 |[v]=>v.pout L al av s
 |v::u::r=>(match v.pout L al av s with|some o=>some (.inl o)|none=>(WY L al av s (u::r)).map .inr)
def BH(res:List Nat):(vs:List VO)→DkO (WO vs)
 |[]=>fun _ x _ _=>x.elim
 |[v]=>fun _ x f g=>v.dk res x f g
 |v::u::r=>fun R x f g=>(match x with | .inl o=>v.dk res o f g | .inr y=>BH res (u::r) R y f g)
theorem aaX(res:List Nat)(v:VO)(d:DL v.tys):(∃ told o news ag6,∀(R:Type) (f:(told:kT)→PV told→List (Nat×Nat×Nat)→List Nat→Option R) g,v.dk res d f g=f told o news ag6)∨
  ∃ T ls,∀(R:Type) (f:(told:kT)→PV told→List (Nat×Nat×Nat)→List Nat→Option R) g,v.dk res d f g=g T ls:=by
 cases v with
 |ret told news=>exact .inl ⟨_,_,_,_,fun _ _ _=>rfl⟩
 |Az T ts=>exact .inr ⟨_,_,fun _ _ _=>rfl⟩
theorem Nd(res:List Nat):∀(vs:List VO),ac6 (BH res vs)
 |[],x=>x.elim
 |[v],x=>aaX res v x
 |v::u::r,.inl d=>aaX res v d
 |v::u::r,.inr y=>Nd res (u::r) y
theorem Xk{L:pW}{al:AL}{s:St}{res:List Nat}{v:VO}{x:DL v.tys}(h:v.out L al s=some x):
  ∃ told o news,PJ L al told news s=some o∧∀(R:Type) (f:(told:kT)→PV told→List (Nat×Nat×Nat)→List Nat→Option R) g,v.dk res x f g=f told o news res:=by
 cases v with
 |ret told news=>obtain⟨o,h1,rfl⟩:=aIa.1 h;exact⟨told,o,news,h1,fun R f g=>by simp only[VO.dk,QY]⟩
 |Az T ts=>cases h
theorem WQ{L:pW}{al:AL}{s:St}{res:List Nat}:∀{vs:List VO} {x:WO vs},abJ L al s vs=some x→
  ∃ told o news,PJ L al told news s=some o∧∀(R:Type) (f:(told:kT)→PV told→List (Nat×Nat×Nat)→List Nat→Option R) g,BH res vs R x f g=f told o news res
 |[],x,h=>by cases h
 |[v],x,h=>Xk h
 |v::u::r,x,h=>by
  simp only[abJ] at h;split at h
  ·rename_i o ho
   simp only[OF] at h;subst h;exact Xk ho
  ·obtain⟨y,h1,rfl⟩:=aIa.1 h
   exact WQ (vs:=u::r) h1
theorem UL{L:pW}{al:AL}{s:St}{av:ab}{res:List Nat}{v:VO}{x:DL v.tys}(h:v.pout L al av s=some x):
  ∃ T ls,av=.Ak T ls∧vL ls=true∧PJ L al [] [] s=some ()∧∀(R:Type) (f:(told:kT)→PV told→List (Nat×Nat×Nat)→List Nat→Option R) g,v.dk res x f g=g T ls:=by
 cases v with
 |ret told news=>cases h
 |Az T ts=>
  simp only[VO.pout] at h;split at h
  ·rename_i T' ls
   cases hb:Nat.beq T T' with
   |false=>simp[hb] at h
   |true=>
    simp only[hb,Q9] at h;obtain rfl:=Q5 hb;split at h
    ·rename_i u hu
     obtain⟨e1,e2⟩:=IP h;exact⟨T,ls,rfl,e1,hu,fun R f g=>by simp only[VO.dk,e2]⟩
    ·cases h
  ·cases h
theorem Ue{L:pW}{al:AL}{s:St}{av:ab}{res:List Nat}:∀{vs:List VO} {x:WO vs},WY L al av s vs=some x→
  ∃ T ls,av=.Ak T ls∧vL ls=true∧PJ L al [] [] s=some ()∧∀(R:Type) (f:(told:kT)→PV told→List (Nat×Nat×Nat)→List Nat→Option R) g,BH res vs R x f g=g T ls
 |[],x,h=>by cases h
 |[v],x,h=>UL h
 |v::u::r,x,h=>by
  simp only[WY] at h;split at h
  ·rename_i o ho
   simp only[OF] at h;subst h;exact UL ho
  ·obtain⟨y,h1,rfl⟩:=aIa.1 h
   exact Ue (vs:=u::r) h1
def qT(f:Func):Code:=f.body.getD .skip
def kO1(E:sb)(rv:List ResultVar)(L:pW)(vs:List VO)(c:PV L.cs)(s:St):Option (WO vs):=
 match L5 E s rv with
 |some avs=>abJ L (fP L.cs c) (Si L.pin avs s) vs
 |none=>none
def kO(E:sb)(rv:List ResultVar)(L:pW)(vs:List VO)(c:PV L.cs)(e:Exit)(s:St):Option (WO vs):=
 match e with
 |.normal=>kO1 E rv L vs c s
 |.ret=>kO1 E rv L vs c s
 |_=>none
def kP(L:pW)(vs:List VO)(c:PV L.cs)(av:ab)(s:St):Option (WO vs):=WY L (fP L.cs c) av s vs
theorem Zd{P:Program}{E:sb}(hE:F1 P E){f:FuncId}{fn:Func}{L:pW}{vs:List VO}{res:List Nat}{F:PV L.cs→PV L.vs→Option (WO vs)}
  (hf:P.funcs[f]? = some fn) (A8:∀ args w,(callFunc f args).run P w=.ok (.enter f args) w) (hb:fn.body.isSome=true) (hL:rV P E (qT fn)) (hn:Nat.beq fn.ntmps L.n=true) (Bb:Jp fn.results.toList.length=res)
  (h:∀ c v,F c v=sm E (qT fn) (L.st c v) (kO E fn.results.toList L vs c) (kP L vs c)):mb P E.gt f (mP L F (BH res vs)):=by
 have IQ:fn.body=some (qT fn):=by
  unfold qT;cases hh:fn.body with
  |none=>rw[hh] at hb;cases hb
  |some b=>rfl
 refine⟨adt hE hf IQ A8 hL (Q5 hn) (out:=fun c s=>kO1 E fn.results.toList L vs c s) (pout:=kP L vs) (fun c v x hx=>?_) (fun c s x hx=>?_) (fun c av s x hx=>Ue hx),Us _ _ _ (Nd res vs),QL _ _ _ (Nd res vs)⟩
 ·rw[←hx,h]
  rfl
 ·simp only[kO1] at hx
  split at hx
  ·rename_i avs hav
   obtain⟨told,o,news,g1,g2⟩:=WQ (res:=res) hx;exact⟨avs,told,o,news,hav,g1,by rw[Bb];exact g2⟩
  ·cases hx
theorem dj{P:Program}{gt:Nat→Option GA}{f:FuncId}{L:pW}{vs:List VO}{res:List Nat}{F:PV L.cs→PV L.vs→Option (WO vs)}(h:∀ c v,F c v=none):mb P gt f (mP L F (BH res vs)):=by
 refine⟨fun {R r X st G w dst args us K KP} hr _ _ _=>?_,Us _ _ _ (Nd res vs),QL _ _ _ (Nd res vs)⟩;simp only[mP] at hr;split at hr
 ·cases hr
 ·rw[h] at hr
  rename_i e _;cases hb:(V6 L e.st&&Ry L.pin e.b e.st)<;>simp[hb] at hr
def kD(E:sb)(rv:List ResultVar)(rs:List Ty)(e:Exit)(s:St):Option (DL rs):=
 match e with
 |.normal=>PI E rv rs s
 |.ret=>PI E rv rs s
 |_=>none
theorem XM{P:Program}{E:sb}(hE:F1 P E){f:FuncId}{fn:Func}{ts rs:List Ty}{F:DL ts→Option (DL rs)}
  (hf:P.funcs[f]? = some fn) (A8:∀ args w,(callFunc f args).run P w=.ok (.enter f args) w) (hb:fn.body.isSome=true) (hL:rV P E (qT fn)) (hn:Nat.ble ts.length fn.ntmps=true)
  (h:∀ d,F d=sm E (qT fn) (stD fn.ntmps ts d) (kD E fn.results.toList rs) (fun _ _=>none)):mb P E.gt f (BB ts rs F id):=by
 have IQ:fn.body=some (qT fn):=by
  unfold qT;cases hh:fn.body with
  |none=>rw[hh] at hb;cases hb
  |some b=>rfl
 refine⟨abj hE (pack:=id) (fun r=>rfl) hf IQ A8 hL (aUa hn) fun d=>?_,BC _ _ _ _,xu _ _ _ _⟩;rw[h]
 congr 1
 funext e s
 cases e<;>simp[kD]
theorem adu{P:Program}{gt:Nat→Option GA}{f:FuncId}{ts rs:List Ty}{F:DL ts→Option (DL rs)}(h:∀ d,F d=none):mb P gt f (BB ts rs F id):=by
 refine⟨fun {R r X st G w dst args us K KP} hr _ _ _=>?_,BC _ _ _ _,xu _ _ _ _⟩;simp only[BB] at hr;split at hr
 ·split at hr
  ·rw[h] at hr;cases hr
  ·cases hr
 ·cases hr
inductive VL where
 |ex (e:Exit) (told:kT)|Az (T:TypeId) (ts:List Ty)
def abf:Exit→Exit→Bool
 |.normal,.normal=>true
 |.ret,.ret=>true
 |.exit i,.exit j=>Nat.beq i j
 |_,_=>false
theorem abg{e e':Exit}(h:abf e e' = true):e=e':=by cases e<;>cases e'<;>simp_all[abf]
def VL.tys:VL→List Ty
 |.ex _ told=>UH told
 |.Az _ ts=>ts
@[reducible] def WL:List VL→Type
 |[]=>Empty
 |[v]=>DL v.tys
 |v::u::r=>DL v.tys⊕WL (u::r)
def VL.out(L:pW)(al:AL)(e:Exit)(s:St):(v:VL)→Option (DL v.tys)
 |.ex e' told=>bif abf e e' then(rnd (L.with told) al s).map (N4 told) else none
 |.Az _ _=>none
def VL.pout(L:pW)(al:AL)(av:ab)(s:St):(v:VL)→Option (DL v.tys)
 |.ex _ _=>none
 |.Az T ts=>(match av with
  |.Ak T' ls=>(bif Nat.beq T T' then(match rnd (L.with []) al s with|some _=>Qe ts ls|none=>none) else none)
  |_=>none)
def VL.dk{R:Type}:(v:VL)→DL v.tys→((e:Exit)→(vs:kT)→PV vs→Option R)→(TypeId→List ag→Option R)→Option R
 |.ex e told,d,f,_=>f e told (toPV told d)
 |.Az T ts,d,_,g=>g T (YT ts d)
def X9(L:pW)(al:AL)(e:Exit)(s:St):(vs:List VL)→Option (WL vs)
 |[]=>none
 |[v]=>v.out L al e s
 |v::u::r=>(match v.out L al e s with|some o=>some (.inl o)|none=>(X9 L al e s (u::r)).map .inr)
def WX(L:pW)(al:AL)(av:ab)(s:St):(vs:List VL)→Option (WL vs)
 |[]=>none
 |[v]=>v.pout L al av s
 |v::u::r=>(match v.pout L al av s with|some o=>some (.inl o)|none=>(WX L al av s (u::r)).map .inr)
def dkL:(vs:List VL)→Dk (WL vs)
 |[]=>fun x _ _=>x.elim
 |[v]=>fun x f g=>v.dk x f g
 |v::u::r=>fun x f g=>(match x with | .inl o=>v.dk o f g | .inr y=>dkL (u::r) y f g)
theorem UK{L:pW}{al:AL}{e:Exit}{s:St}{v:VL}{x:DL v.tys}(h:v.out L al e s=some x):
  ∃ told o,rnd (L.with told) al s=some o∧∀(R:Type) (f:(e:Exit)→(vs:kT)→PV vs→Option R) g,v.dk x f g=f e told o:=by
 cases v with
 |ex e' told=>
  simp only[VL.out] at h;cases hb:abf e e' with
  |false=>simp[hb] at h
  |true=>simp only[hb,Q9] at h;obtain rfl:=abg hb;obtain⟨o,h1,rfl⟩:=aIa.1 h;exact⟨told,o,h1,fun R f g=>by simp only[VL.dk,QY]⟩
 |Az T ts=>cases h
theorem Sd{L:pW}{al:AL}{e:Exit}{s:St}:∀{vs:List VL} {x:WL vs},X9 L al e s vs=some x→
  ∃ told o,rnd (L.with told) al s=some o∧∀(R:Type) (f:(e:Exit)→(vs:kT)→PV vs→Option R) g,dkL vs (R:=R) x f g=f e told o
 |[],x,h=>by cases h
 |[v],x,h=>UK h
 |v::u::r,x,h=>by
  simp only[X9] at h;split at h
  ·rename_i o ho
   simp only[OF] at h;subst h;exact UK ho
  ·obtain⟨y,h1,rfl⟩:=aIa.1 h
   exact Sd (vs:=u::r) h1
theorem Q0{L:pW}{al:AL}{s:St}{av:ab}{v:VL}{x:DL v.tys}(h:v.pout L al av s=some x):
  ∃ T ls,av=.Ak T ls∧vL ls=true∧rnd (L.with []) al s=some ()∧∀(R:Type) (f:(e:Exit)→(vs:kT)→PV vs→Option R) g,v.dk x f g=g T ls:=by
 cases v with
 |ex e' told=>cases h
 |Az T ts=>
  simp only[VL.pout] at h;split at h
  ·rename_i T' ls
   cases hb:Nat.beq T T' with
   |false=>simp[hb] at h
   |true=>
    simp only[hb,Q9] at h;obtain rfl:=Q5 hb;split at h
    ·rename_i u hu
     obtain⟨e1,e2⟩:=IP h;exact⟨T,ls,rfl,e1,hu,fun R f g=>by simp only[VL.dk,e2]⟩
    ·cases h
  ·cases h
theorem Ol{L:pW}{al:AL}{s:St}{av:ab}:∀{vs:List VL} {x:WL vs},WX L al av s vs=some x→
  ∃ T ls,av=.Ak T ls∧vL ls=true∧rnd (L.with []) al s=some ()∧∀(R:Type) (f:(e:Exit)→(vs:kT)→PV vs→Option R) g,dkL vs (R:=R) x f g=g T ls
 |[],x,h=>by cases h
 |[v],x,h=>Q0 h
 |v::u::r,x,h=>by
  simp only[WX] at h;split at h
  ·rename_i o ho
   simp only[OF] at h;subst h;exact Q0 ho
  ·obtain⟨y,h1,rfl⟩:=aIa.1 h
   exact Ol (vs:=u::r) h1
def kL(L:pW)(vs:List VL)(c:PV L.cs)(l:PV L.vs→Option (WL vs))(e:Exit)(s:St):Option (WL vs):=
 match e with
 |.normal=>(rnd L (fP L.cs c) s).bind l
 |e=>X9 L (fP L.cs c) e s vs
def kLP(L:pW)(vs:List VL)(c:PV L.cs)(av:ab)(s:St):Option (WL vs):=WX L (fP L.cs c) av s vs
def kR(L:pW)(vs:List VL)(c:PV L.cs)(s:St):Option (WL vs):=X9 L (fP L.cs c) .normal s vs
noncomputable def adW(id:Nat)(c:Code):Option Code:=
 Code.rec (motive:=fun _=>Option Code) none (fun _ _ _=>none)
  (fun _ _ x y=>match x with|some c=>some c|none=>y) (fun _ _ _ x y=>match x with|some c=>some c|none=>y)
  (fun i b x=>bif Nat.beq i id then(match b with | .loop c=>some c|_=>x) else x) (fun _ x=>x) (fun _ _ _ _ x y=>match x with|some c=>some c|none=>y)
  (fun _=>none) (fun _ x=>x) (fun _=>none) (fun _=>none) none (fun _=>none) c
noncomputable def Ek(f:Func)(id:Nat):Code:=(adW id (qT f)).getD .skip
noncomputable def afL(id:Nat)(c:Code):Option (Array Oper):=
 Code.rec (motive:=fun _=>Option (Array Oper)) none (fun i ops d=>bif Nat.beq i id then some ops else none)
  (fun _ _ x y=>match x with|some c=>some c|none=>y) (fun _ _ _ x y=>match x with|some c=>some c|none=>y)
  (fun i b x=>x) (fun _ x=>x) (fun _ _ _ _ x y=>match x with|some c=>some c|none=>y)
  (fun _=>none) (fun _ x=>x) (fun _=>none) (fun _=>none) none (fun _=>none) c
noncomputable def qi(f:Func)(id:Nat):Array Oper:=(afL id (qT f)).getD #[]
noncomputable def aeH(f:Func)(id:Nat):Code:=.block id (.loop (Ek f id))
noncomputable def afK(f:Func)(id:Nat):Code:=.region id (qi f id) true
def Yu(P:Program)(gt:Nat→Option GA):List (Code×lm)→Prop
 |[]=>True
 |p::r=>uo P gt p.1 p.2∧Yu P gt r
theorem vg{P:Program}{E:sb}{c:Code}{l:List (Code×lm)}(e:xR E c=l)(h:Yu P E.gt l):rV P E c:=by
 refine RV e ?_;clear e;induction l with
 |nil=>intro x hx;cases hx
 |cons p r ih=>
  intro x hx;rcases aka.1 hx with rfl|hx
  ·exact h.1
  ·exact ih h.2 x hx
theorem ZT{P:Program}{E:sb}(hE:F1 P E){id:Nat}{f:Func}{L:pW}{vs:List VL}{l:Nat→PV L.cs→PV L.vs→Option (WL vs)}(hb:rV P E (Ek f id))(h0:∀ c v,l 0 c v=none)
  (h1:∀ k c v,l (k+1) c v=sm E (Ek f id) (L.st c v) (kL L vs c (l k c)) (kLP L vs c)) (k:Nat):uo P E.gt (aeH f id) (wW id L (l k) (dkL vs)):=
 abA hE (out:=fun c e s=>X9 L (fP L.cs c) e s vs) (pout:=kLP L vs) hb h0 (fun k c v=>by
   rw[h1]
   congr 1)
  (fun c e s x h=>Sd h) (fun c av s x h=>Ol h) k
theorem abS{P:Program}{E:sb}(hE:F1 P E){id:Nat}{f:Func}{L:pW}{vs:List VL}{F:PV L.cs→PV L.vs→Option (WL vs)}{ls:List (List Nat)}
  (hd:DS (qi f id).toList (iK (qi f id).toList [])=true) (hc:iP (qi f id).toList (iK (qi f id).toList []) (qi f id).toList.length []=ls)
  (h1:∀ l∈ls,J6 (qi f id).toList l=true∧∀ c v,F c v=HJ E (qi f id).toList (iK (qi f id).toList []) l [] (L.st c v) (kR L vs c) (kLP L vs c)):
  uo P E.gt (afK f id) (wW (id+1000000) L F (dkL vs)):=
 aea hE hd hc h1 (fun c s x h=>Sd h) (fun c av s x h=>Ol h)
def Yw{α:Type}(p:α→Prop):List α→Prop
 |[]=>True
 |a::r=>p a∧Yw p r
theorem Tf{α:Type}{p:α→Prop}:∀{l:List α},Yw p l→∀ a∈l,p a
 |[],_,_,h=>by cases h
 |b::r,hl,a,h=>by
  rcases aka.1 h with rfl|h
  ·exact hl.1
  ·exact Tf hl.2 a h
def aa{α β:Type}(f:β→α)(body:(β→α)→α):α:=body f
abbrev I:Ty:=.int .i64
abbrev U:Ty:=.int .u8
end Go.Fx
namespace Go.Fx
def ag.low:ag→Bool
 |.mA a=>Nat.blt a 1000000000000000000
 |.DT a _ _ _=>Nat.blt a 1000000000000000000
 |.Fb a _ _ _ _=>Nat.blt a 1000000000000000000
 |.nse a _ _ _ _ _ _ _=>Nat.blt a 1000000000000000000
 |.L9 a _ _=>Nat.blt a 1000000000000000000
 |_=>true
def ab.low:ab→Bool
 |.one l=>l.low
 |.agg ls=>ls.all ag.low
 |.Lg vs=>vs.all fun p=>p.2.all ag.low
 |.Ak _ ls=>ls.all ag.low
theorem TO{a v q:Nat}{x:ab}(h:x.low=true):x.cZ true (LY a v q)=false:=by
 have ne:∀{b:Nat},Nat.blt b 1000000000000000000=true→Nat.beq b (LY a v q)=false:=fun {b} hb=>by rw[b1a] at hb;refine uE fun e=>?_;unfold LY at e;omega
 have one:∀{l:ag},l.low=true→l.cZ true (LY a v q)=false:=fun {l} h=>by cases l<;>simp only[ag.cZ,ag.low,Bool.true_and,cHa,cBa] at h ⊢<;>exact ne h
 have all:∀{ls:List ag},ls.all ag.low=true→ls.any (ag.cZ true (LY a v q))=false:=fun {ls} h=>by rw[aOa];intro l hl;rw[one (apa.1 h l hl)];simp
 cases x with
 |one l=>exact one h
 |agg ls=>exact all h
 |Lg vs=>simp only[ab.cZ,ab.low] at h ⊢;rw[aOa];intro p hp;rw[all (apa.1 h p hp)];simp
 |Ak t ls=>exact all h
def I9(o:Nat)(args:List ab):Bool:=args.all fun x=>x.low&&!x.cZ false o
def zM(j o:Nat)(s:iX):iX where
 run dst args st K KP:=match (args[j]?).map ab.bN with
  |some (.DT a sz i 0)=>(bif Sr st a sz&&I9 o args then
   FU st a i o fun s1=>s.run dst (args.set j (.one (.np o 0))) s1 (fun v s2=>A0 s2 a o (K v)) KP else none)
  |some (.Fb a v sz i off)=>(bif Sr st a sz&&I9 (obN a v) args&&Nat.beq v (st.dA a)&&Nat.blt off sz then
   FU st a i (obN a v) fun s1=>s.run dst (args.set j (.one (.mA (LY a v off)))) s1 (fun r s2=>A0 s2 a (obN a v) (K r)) KP else none)
  |_=>s.run dst args st K KP
 LH args st:=match (args[j]?).map ab.bN with
  |some (.DT _ _ _ 0)=>[.all]
  |some (.Fb _ _ _ _ _)=>[.all]
  |_=>s.LH args st
theorem ZP{j o:Nat}{s:iX}(h:oS s):oS (zM j o s):=by
 intro R dst args st K KP;simp only[zM];have key:∀(Ir:List ab) (a o:Nat) (s1:St),s.run dst Ir s1 (fun v s2=>A0 s2 a o (K v)) KP=(s.run dst Ir s1 (fun v s2=>A0 s2 a o (oc v)) PE).bind (sw K KP):=fun Ir a o s1=>by
  rw[h dst Ir s1 (fun v s2=>A0 s2 a o (K v)) KP,h dst Ir s1 (fun v s2=>A0 s2 a o (oc v)) PE,a5a]
  congr 1
  funext u
  obtain⟨v,q,b⟩:=u;cases b with
  |true=>simp only[sw,Q9];exact S7 fun s=>rfl
  |false=>rfl
 split
 ·exact db (Jj fun s1=>key _ _ _ s1) rfl
 ·exact db (Jj fun s1=>key _ _ _ s1) rfl
 ·exact h dst args st K KP
theorem XZ{j o:Nat}{s:iX}(h:m6 s):m6 (zM j o s):=by
 intro R dst args st K K' KP KP' hK hP;simp only[zM] at hK ⊢;have key:∀(Ir:List ab) (a o:Nat),(∀ v q,qA [.all] st q→K v q=K' v q)→∀ s1,ke st s1→s1.et=st.et→
   s.run dst Ir s1 (fun v s2=>A0 s2 a o (K v)) KP=s.run dst Ir s1 (fun v s2=>A0 s2 a o (K' v)) KP':=fun Ir a o hK s1 b1 r1=>
  h (fun v q hq=>J5 fun q' b2 r2=>hK v q' (qA.any (b1.trans (hq.iL.trans b2)) (r2.trans (hq.et.trans r1)))) (fun v q hq=>hP v q (b1.trans hq))
 split
 ·rename_i a sz i hl
  rw[hl] at hK;exact aS (KF fun s1 b1 r1=>key _ _ _ hK s1 b1 r1) rfl
 ·rename_i a v sz i off hl
  rw[hl] at hK;exact aS (KF fun s1 b1 r1=>key _ _ _ hK s1 b1 r1) rfl
 ·rename_i h1 h2
  refine h (fun v q hq=>hK v q (hq.mono fun p hp=>?_)) hP;split
  ·rename_i a sz i hl;exact absurd hl (h1 a sz i)
  ·rename_i a v sz i off hl;exact absurd hl (h2 a v sz i off)
  ·exact hp
theorem MG{G:Gh}:∀{args:List ab} {vs:List Value} {j:Nat} {x:ab} {u:Value},All2 (aP G) args vs→vs[j]? = some u→aP G x u→All2 (aP G) (args.set j x) vs
 |[],[],_,_,_,_,h,_=>by simp at h
 |a::r,v::vs,0,x,u,h,hj,hx=>by simp only[bba,OF] at hj;subst hj;exact⟨hx,h.2⟩
 |a::r,v::vs,j+1,x,u,h,hj,hx=>⟨h.1,MG h.2 (by simpa using hj) hx⟩
 |[],_::_,_,_,_,h,_,_=>h.elim
 |_::_,[],_,_,_,h,_,_=>h.elim
theorem abz{P:Program}{gt:Nat→Option GA}{f:FuncId}{j o:Nat}{s:iX}(h:AR P gt f s):AR P gt f (zM j o s):=by
 intro R r X st G w dst args vs K KP hr zd hm RI ha;have key:∀{a i ob:Nat} {x:ab} {u:Value},vs[j]? = some u→I9 ob args=true→
   FU st a i ob (fun s1=>s.run dst (args.set j x) s1 (fun v s2=>A0 s2 a ob (K v)) KP)=some r→(∀ s1 G1,YD X st G w a i ob s1 G1→aP G1 x u)→
   (callFunc f vs.toArray).run P w=.ok (.enter f vs.toArray) w∧Calls P f vs.toArray w fun e w'=>match e with
    |.returned v=>∃ av st' G',ay X st' G' w'∧(∀ act,bM G st act→bM G' st' act)∧aP G' av v∧K av st' = some r
    |.panicked IC=>∃ v,IC=[{v,recovered:=false}]∧∃ av st' G',ay X st' G' w'∧aP G' av v∧KP av st' = some r
    |.outgrown=>False:=fun {a i ob x u} hu Pi mm hx=>by
  obtain⟨s1,G1,O,it⟩:=Sc mm hm;have ha1:All2 (aP G1) args vs:=ha.uz fun y v hy hv=>by have:=apa.1 Pi y hy;simp only[Q4,aLa] at this;exact O.OI y v this.2 (fun q=>TO this.1) hv
  obtain⟨h1,h2⟩:=h it zd O.Gl (RI.imp fun act ra=>O.et act ra) (MG ha1 hu (hx s1 G1 O));refine⟨h1,h2.mono fun e w' he=>?_⟩;cases e with
  |returned v=>obtain⟨av,st',G',m',r',v',hk⟩:=he;obtain⟨hp1,HX⟩:=N0 hm O.none;obtain⟨s4,G4,m4,r4,l4,hK⟩:=Rw hk m' hp1 HX;exact⟨av,s4,G4,m4,fun act ra=>r4 act (r' act (O.et act ra)),l4 _ _ v',hK⟩
  |panicked IC=>obtain⟨v,e1,av,st',G',m',v',hk⟩:=he;exact⟨v,e1,av,st',G',m',v',hk⟩
  |outgrown=>exact he.elim
 have aeE:∀{l:ag},(args[j]?).map ab.bN=some l→l≠.any→∃ u,vs[j]? = some u∧aT G l u:=fun {l} hl gT=>by
  rw[aIa] at hl;obtain⟨y,hy,he⟩:=hl;obtain⟨u,hu,hr⟩:=ha.wh hy;refine⟨u,hu,?_⟩;cases y with
  |one l'=>simp only[ab.bN] at he;rw[he] at hr;exact hr
  |_=>exact absurd he.symm gT
 simp only[zM] at hr;split at hr
 ·rename_i a sz i hl
  cases hc:(Sr st a sz&&I9 o args) with
  |false=>rw[hc] at hr;cases hr
  |true=>
   rw[hc,Q9] at hr;simp only[Q4] at hc;obtain⟨u,hu,hru⟩:=aeE hl (by simp)
   have mF:=hc.1;unfold Sr at mF;split at mF
   ·rename_i A hA
    obtain rfl:=Q5 mF;exact key hu hc.2 hr fun s1 G1 O=>(O.np 0 u).2 ⟨A,hA,hru⟩
   ·cases mF
 ·rename_i a v sz i off hl
  cases hc:(Sr st a sz&&I9 (obN a v) args&&Nat.beq v (st.dA a)&&Nat.blt off sz) with
  |false=>rw[hc] at hr;cases hr
  |true=>
   rw[hc,Q9] at hr;simp only[Q4] at hc;obtain⟨⟨⟨mF,Pi⟩,hv⟩,XV⟩:=hc;obtain rfl:=Q5 hv;rw[b1a] at XV;obtain⟨u,hu,hru⟩:=aeE hl (by simp)
   unfold Sr at mF;split at mF
   ·rename_i A hA
    obtain rfl:=Q5 mF;refine key hu Pi hr fun s1 G1 O=>O.ab8 A off u hA XV ?_;have hw:∃ x∈args,x.bN=.Fb a (st.dA a) A.t.size i off∧aP G x u:=by rw[aIa] at hl;obtain⟨y,hy,he⟩:=hl;obtain⟨u',hu',hr'⟩:=ha.wh hy;rw[hu] at hu';cases hu';exact⟨y,aZa hy,he,hr'⟩
    obtain⟨x,hx,hxl,hxr⟩:=hw;have hlx:=apa.1 Pi x hx;simp only[Q4,aLa] at hlx;have:=O.OI x u hlx.2 (fun q=>TO hlx.1) hxr;cases x with
    |one l=>simp only[ab.bN] at hxl;rw[hxl] at this;exact this
    |_=>cases hxl
   ·cases mF
 ·exact h hr zd hm RI ha
theorem X0{P:Program}{gt:Nat→Option GA}{f:FuncId}{j o:Nat}{s:iX}(h:mb P gt f s):mb P gt f (zM j o s):=⟨abz h.ok,ZP h.det,XZ h.Rx⟩
end Go.Fx
namespace Go.Fx
theorem ay.WI{X:mz}{st:St}{G:Gh}{w:World}(hm:ay X st G w){p q:Nat}{ls:List ag}(hpq:p≠q)(hp:st.dL p=some ls)(hq:st.dL q=none)(hb:ls.any ag.py=false)
    (hX:∀ v,X.pin p≠some v) (hB:∀ j u,X.bv p j≠some u) {F:List (Bool×Nat)} (hF:∀ x∈F,st.cZ x.1 x.2=false)
    (hl:(∀ a A,st.arr a=some A→∀ i o,A.md=.Dp i o→o≠q)) (acz:F=[(false,q)]∨(F=[]∧G.φ q=G.φ p∧(G.pre q).length=(G.pre p).length)):
    ∃ G',ay X {st with cg:=(q,ls)::F7 st.cg p} G' w∧(∀ act,bM G st act→bM G' {st with cg:=(q,ls)::F7 st.cg p} act)∧
      (∀ x v,(∀ y∈F,x.cZ y.1 y.2=false)→aP G x v→aP G' x v)∧G'.φ q=G.φ p∧(G'.pre q).length=(G.pre p).length∧G'.φ p=G.φ p∧G'.pre p=G.pre p:=by
  let G':Gh:={G with φ:=fun o=>if o=q then G.φ p else G.φ o,pre:=fun o=>if o=q then G.pre p else G.pre o,post:=fun o=>if o=q then G.post p else G.post o}
  let s1:St:={st with cg:=(q,ls)::F7 st.cg p}
  have IV:∀ o,s1.dL o=if q=o then some ls else if p=o then none else st.dL o:=fun o=>by simp only[s1,St.dL,au,qe]
  have mm:eR G st (false,p) (G.φ p):=⟨⟨ls,hp⟩,rfl⟩;have OO:vK X st s1 G G' w w (fun y=>y=(false,p)) (fun y=>y=(false,q)) F:=by
    refine {
             n:=rfl,ib:=fun _=>rfl,bl:=rfl,pn:=rfl,S:=rfl,bN:=fun lf v hlf hr=>?_,fm:=hF,sl:=hm.sl,dL:=fun o l h=>?_,arr:=fun a A hA=>.inr ⟨by simp,hA,rfl,rfl,fun _=>by simp,rfl,fun i o e=>?_⟩,
             pd:=fun y b hy hyo=>?_,pX:=fun y z b hy hz _ _=>hy.trans hz.symm,hv:=hm.hv,old:=fun _ _ _=>rfl,sz:=ava _,os:=rfl,tp:=rfl,out:=rfl,Vy:=fun o l ho hpo=>?_,Vx:=fun a A _ hA=>⟨⟨A,hA⟩,rfl⟩}
    · rcases acz with rfl|⟨rfl,e1,e2⟩
      · refine aT.leF (G:=G) (G':=G') (F:=[(false,q)]) (fun _ _ h=>h) (fun o ho=>?_) (fun a _=>⟨rfl,ava _,fun _ _=>rfl⟩) hlf hr
        have:o≠q:=fun e=>ho (by rw[e];simp)
        simp[G',this]
      · cases lf with
        |np o off=>
          by_cases e:o=q
          · subst e
            simp only[aT,G',aua] at hr ⊢;rw[hr,e1,e2]
          · simp only[aT,G',e,aca] at hr ⊢;exact hr
        |eV t d=>exact hr
        |PK t d off=>exact hr
        |ga t l=>exact hr
        |Fb a v' sz i off=>exact hr
        |nse a v' sz i off s2 j o2=>exact hr
        |_=>exact hr
    · rw[IV] at h
      by_cases e:q=o
      · subst e
        simp only[aua,OF] at h;subst h;obtain⟨arr,elem,mid,g1,g2,g3⟩:=hm.ob p ls hp;refine .inl ⟨rfl,arr,elem,mid,by simp only[G',aua];exact g1,by simp only[G',aua];exact g2,?_⟩
        unfold hY at g3 ⊢;rw[uI _ _ _ _ hb] at g3 ⊢;refine g3.uz fun lf v hlm B5=>?_;rcases acz with rfl|⟨rfl,e1,e2⟩
        · refine aT.leF (G:=G) (G':=G') (F:=[(false,q)]) (fun _ _ h=>h) (fun o ho=>?_) (fun a _=>⟨rfl,ava _,fun _ _=>rfl⟩) (fun y hy=>?_) B5
          · have:o≠q:=fun e=>ho (by rw[e];simp)
            simp[G',this]
          · have hmo:=rC (hF y hy) hp 0
            rw[uI _ _ _ _ hb] at hmo;have:=aOa.1 hmo lf hlm;simpa using this
        · cases lf with
          |np o off=>
            by_cases e:o=q
            · subst e
              simp only[aT,G',aua] at B5 ⊢;rw[B5,e1,e2]
            · simp only[aT,G',e,aca] at B5 ⊢;exact B5
          |eV t d=>exact B5
          |PK t d off=>exact B5
          |ga t l=>exact B5
          |Fb a v' sz i off=>exact B5
          |nse a v' sz i off s2 j o2=>exact B5
          |_=>exact B5
      · simp only[e,aca] at h
        by_cases e2:p=o
        · simp[e2] at h
        · simp only[e2,aca] at h
          have h1:o≠q:=fun h=>e h.symm;have h2:o≠p:=fun h=>e2 h.symm;exact .inr ⟨by simp[h1],by simp[h2],h,by simp[G',h1],by simp[G',h1],by simp[G',h1]⟩
    · have:o≠q:=hl a A hA i o e
      simp[G',this]
    · subst hy
      obtain⟨_,rfl⟩:=hyo;exact .inl ⟨(false,p),rfl,by simpa[G'] using mm⟩
    · have h1:p≠o:=fun e=>by
        subst e;rcases hpo with ⟨v,hv⟩|⟨j,u,hu⟩
        · exact hX v hv
        · exact hB j u hu
      have h2:q≠o:=fun e=>by rw[←e,hq] at ho;cases ho
      exact⟨by rw[IV,aza h2,aza h1];exact ho,by simpa using fun e=>h2 e.symm⟩
  refine⟨G',OO.ok hm,fun act=>OO.et,fun x v hx hv=>OO.TJ hx hv,by simp[G'],by simp[G'],?_,?_⟩
  · simp[G',hpq]
  · simp[G',hpq]
def Hz(q:Nat)(l:List (Nat×jG)):Bool:=l.all fun p=>!p.2.Kv q
def EA(j o:Nat)(s:iX):iX where
 run dst args st K KP:=match (args[j]?).map ab.bN with
  |some (.np p 0)=>(bif Nat.beq p o then s.run dst args st K KP else(match st.dL p with
   |some ls=>(bif Nat.ble 10000 p&&(st.dL o).isNone&&!st.cZ false o&&!ls.any ag.py&&args.all (fun x=>!x.cZ false o)&&(look st.et st.n).isNone&&(look st.et (st.n+1)).isNone&&(look st.jh st.n).isNone&&(look st.jh (st.n+1)).isNone then
    s.run dst (args.set j (.one (.np o 0))) {st with n:=st.n+2,et:=(st.n,.one (.np o 0))::(st.n+1,.one (.np p 0))::st.et,cg:=(o,ls)::F7 st.cg p}
     (fun v s2=>match s2.dL o,s2.et with
      |some ls2,(a,.one (.np o1 0))::(b,.one (.np p1 0))::rest=>
       (bif Nat.beq a st.n&&Nat.beq b (st.n+1)&&Nat.beq o1 o&&Nat.beq p1 p&&(s2.dL p).isNone&&!ls2.any ag.py&&Hz p s2.cM&&Hz p s2.fK&&(look rest st.n).isNone&&(look rest (st.n+1)).isNone&&(look s2.jh st.n).isNone&&(look s2.jh (st.n+1)).isNone then
        K v {s2 with n:=st.n,et:=rest,cg:=(p,ls2)::F7 s2.cg o} else none)
      |_,_=>none)
     (fun v s2=>KP v {s2 with n:=st.n,et:=st.et}) else none)
   |none=>none))
  |_=>s.run dst args st K KP
 LH args st:=match (args[j]?).map ab.bN with
  |some (.np p 0)=>bif Nat.beq p o then s.LH args st else [.all]
  |_=>s.LH args st
theorem abT{j o:Nat}{s:iX}(h:oS s):oS (EA j o s):=by
 intro R dst args st K KP;simp only[EA];split
 ·rename_i p hl
  refine db (h dst args st K KP) ?_;split
  ·rename_i ls ho
   refine db ?_ rfl;rw[h dst _ _ _ _,h dst _ _ (fun v s2=>match s2.dL o,s2.et with
     |some ls2,(a,.one (.np o1 0))::(b,.one (.np p1 0))::rest=>
      (bif Nat.beq a st.n&&Nat.beq b (st.n+1)&&Nat.beq o1 o&&Nat.beq p1 p&&(s2.dL p).isNone&&!ls2.any ag.py&&Hz p s2.cM&&Hz p s2.fK&&(look rest st.n).isNone&&(look rest (st.n+1)).isNone&&(look s2.jh st.n).isNone&&(look s2.jh (st.n+1)).isNone then
       oc v {s2 with n:=st.n,et:=rest,cg:=(p,ls2)::F7 s2.cg o} else none)
     |_,_=>none) (fun v s2=>PE v {s2 with n:=st.n,et:=st.et}),a5a]
   congr 1
   funext u
   obtain⟨v,q,b⟩:=u;cases b with
   |true=>
    simp only[sw,Q9];split
    ·exact db rfl rfl
    ·rfl
   |false=>rfl
  ·rfl
 ·exact h dst args st K KP
theorem aaw{j o:Nat}{s:iX}(h:m6 s):m6 (EA j o s):=by
 intro R dst args st K K' KP KP' hK hP;simp only[EA] at hK ⊢;split
 ·rename_i p hl
  rw[hl] at hK;cases hpo:Nat.beq p o with
  |true=>simp only[hpo,Q9] at hK ⊢;exact h hK hP
  |false=>
   simp only[hpo,ana] at hK ⊢;split
   ·rename_i ls ho
    refine aS (h (fun v q hq=>?_) (fun v q hq=>hP v _ ?_)) rfl
    ·split
     ·rename_i ls2 a o1 b p1 rest h1 h2
      refine aS (hK v _ (qA.any ?_ ?_)) rfl
      ·exact⟨rfl,hq.iL.2.1,hq.iL.2.2.1,hq.iL.2.2.2⟩
      ·have:=hq.et
       rw[h2] at this;simp only[aHa] at this;exact this.2.2
     ·rfl
    ·exact⟨rfl,hq.2.1,hq.2.2.1,hq.2.2.2⟩
   ·rfl
 ·rename_i h1
  refine h (fun v q hq=>hK v q (hq.mono fun p hp=>?_)) hP;split
  ·rename_i p hl;exact absurd hl (h1 p)
  ·exact hp
theorem Qv{q:Nat}{l:List (Nat×jG)}(h:Hz q l=true){a:Nat}{A:jG}(ha:look l a=some A):∀ i o,A.md=.Dp i o→o≠q:=fun i o hm e=>by have:=apa.1 h _ (dY ha);subst e;simp[jG.Kv,hm] at this
theorem aau{st:St}{i:Nat}(h:(look st.et i).isNone=true)(h2:(look st.jh i).isNone=true):st.ib i=none:=by
 unfold St.ib;have h:look st.et i=none:=by simpa using h
 have h2:look st.jh i=none:=by simpa using h2
 rw[h];exact h2
theorem aed{P:Program}{gt:Nat→Option GA}{f:FuncId}{j o:Nat}{s:iX}(h:AR P gt f s):AR P gt f (EA j o s):=by
 intro R r X st G w dst args vs K KP hr zd hm RI ha;simp only[EA] at hr;split at hr
 ·rename_i p hl
  cases hpo:Nat.beq p o with
  |true=>rw[hpo,Q9] at hr;exact h hr zd hm RI ha
  |false=>
   rw[hpo,ana] at hr;split at hr
   ·rename_i ls Pk
    cases hc:(Nat.ble 10000 p&&(st.dL o).isNone&&!st.cZ false o&&!ls.any ag.py&&args.all (fun x=>!x.cZ false o)&&(look st.et st.n).isNone&&(look st.et (st.n+1)).isNone&&(look st.jh st.n).isNone&&(look st.jh (st.n+1)).isNone) with
    |false=>rw[hc] at hr;cases hr
    |true=>
     rw[hc,Q9] at hr;simp only[Q4,aLa] at hc;obtain⟨⟨⟨⟨⟨⟨⟨⟨c1,c2⟩,c3⟩,c4⟩,c5⟩,c6⟩,c7⟩,c8⟩,c9⟩:=hc;have abm:=aUa c1;have vP:st.dL o=none:=by simpa using c2
     have gT:p≠o:=fun e=>by rw[e] at hpo;simp at hpo
     obtain⟨agN,agO⟩:=N0 hm vP;obtain⟨G1,m1,r1,v1,e1,e2,e3,e4⟩:=hm.WI (F:=[(false,o)]) gT Pk vP c4 (fun v hv=>by have:=X.pl p v hv;omega) (fun j u hu=>by have:=X.bl p j u hu;omega) (fun x hx=>by rw[Q7.1 hx];exact c3)
      (fun a A hA i o' ux=>E8 c3 hA ux) (.inl rfl)
     obtain⟨u,hu,hru⟩:∃ u,vs[j]? = some u∧aT G (.np p 0) u:=by
      rw[aIa] at hl;obtain⟨y,hy,he⟩:=hl;obtain⟨u,hu,hr'⟩:=ha.wh hy;refine⟨u,hu,?_⟩;cases y with
      |one l'=>simp only[ab.bN] at he;rw[he] at hr';exact hr'
      |_=>cases he
     have hu0:u=.pointer (some ⟨G.φ p,(G.pre p).length+0,none⟩):=hru;have hro:aT G1 (.np o 0) u:=by simp only[aT,e1,e2];exact hu0
     have agQ:aT G1 (.np p 0) u:=by simp only[aT,e3,e4];exact hu0
     have ha1:All2 (aP G1) args vs:=ha.uz fun y v hy hv=>v1 y v (fun z hz=>by
      rw[Q7.1 hz];have:=apa.1 c5 y hy;simpa using this) hv
     generalize hs1:({st with n:=st.n+2,et:=(st.n,.one (.np o 0))::(st.n+1,.one (.np p 0))::st.et,cg:=(o,ls)::F7 st.cg p}:St)=s1 at hr
     have m1':ay X s1 G1 w:=by rw[←hs1];exact m1.X1 rfl rfl rfl rfl rfl rfl
     have Y8:∀ act,bM G st act→bM G1 s1 {tmps:=act.tmps.push u |>.push u,defers:=act.defers}:=fun act ra=>by
      have rb:=r1 act ra;have mF:act.tmps.size=st.n:=ra.2.1;refine⟨rb.1,by rw[←hs1];simp[mF],fun i x hx=>?_⟩
      rw[←hs1] at hx;simp only[St.ib,au] at hx;by_cases i1:st.n=i
      ·subst i1
       simp only[aua,OF] at hx;subst hx;have:((act.tmps.push u).push u).getD st.n undef=u:=by rw[aAa,bea,aza (by simp;omega),bea,a4a mF.symm];rfl
       rw[this];exact hro
      ·by_cases i2:st.n+1=i
       ·subst i2
        simp only[i1,aca,aua,OF] at hx;subst hx;have:((act.tmps.push u).push u).getD (st.n+1) undef=u:=by rw[aAa,bea,a4a (by simp;omega)];rfl
        rw[this];exact agQ
       ·simp only[i1,i2,aca] at hx
        have hg:((act.tmps.push u).push u).getD i undef=act.tmps.getD i undef:=by rw[aAa,bea,aza (by simp;omega),bea,aza (by omega),←aAa]
        rw[hg];exact rb.2.2 i x hx
     obtain⟨h1,h2⟩:=h hr zd m1' (RI.imp' _ fun act ra=>Y8 act ra) (MG ha1 hu (show aP G1 (.one (.np o 0)) u from hro))
     refine⟨h1,h2.mono fun e w' he=>?_⟩;cases e with
     |outgrown=>exact he.elim
     |panicked IC=>obtain⟨v,q1,av,st',G',m',v',hk⟩:=he;exact⟨v,q1,av,{st' with n:=st.n,et:=st.et},G',m'.X1 rfl rfl rfl rfl rfl rfl,v',hk⟩
     |returned v=>
      obtain⟨av,s2,G',m',r',v',hk⟩:=he;split at hk
      ·rename_i ls2 a o1 b p1 rest q1 q2
       cases hd:(Nat.beq a st.n&&Nat.beq b (st.n+1)&&Nat.beq o1 o&&Nat.beq p1 p&&(s2.dL p).isNone&&!ls2.any ag.py&&Hz p s2.cM&&Hz p s2.fK&&(look rest st.n).isNone&&(look rest (st.n+1)).isNone&&(look s2.jh st.n).isNone&&(look s2.jh (st.n+1)).isNone) with
       |false=>rw[hd] at hk;cases hk
       |true=>
        rw[hd,Q9] at hk;simp only[Q4,aLa] at hd;obtain⟨⟨⟨⟨⟨⟨⟨⟨⟨⟨⟨d1,d2⟩,d3⟩,d4⟩,d5⟩,d6⟩,d7⟩,d8⟩,d9⟩,d10⟩,d11⟩,d12⟩:=hd;obtain rfl:=Q5 d1;obtain rfl:=Q5 d2;obtain rfl:=Q5 d3;obtain rfl:=Q5 d4;have hnp:s2.dL p1=none:=by simpa using d5
        have frame:∀ act,bM G st act→bM G' s2 {tmps:=act.tmps.push u |>.push u,defers:=act.defers}:=fun act ra=>r' _ (Y8 act ra);have lj:G'.φ p1=G'.φ o1∧(G'.pre p1).length=(G'.pre o1).length:=by
         obtain⟨act,ra⟩:=RI;have rf:=frame act ra;have k1:=rf.2.2 st.n (.one (.np o1 0)) (by simp only[St.ib,q2,au,aua])
         have k2:=rf.2.2 (st.n+1) (.one (.np p1 0)) (by simp only[St.ib,q2,au];rw[aza (by omega)];simp)
         have mF:act.tmps.size=st.n:=ra.2.1;have g1:((act.tmps.push u).push u).getD st.n undef=u:=by rw[aAa,bea,aza (by simp;omega),bea,a4a mF.symm];rfl
         have g2:((act.tmps.push u).push u).getD (st.n+1) undef=u:=by rw[aAa,bea,a4a (by simp;omega)];rfl
         rw[g1] at k1;rw[g2] at k2;have k1:u=.pointer (some ⟨G'.φ o1,(G'.pre o1).length+0,none⟩):=k1;have k2:u=.pointer (some ⟨G'.φ p1,(G'.pre p1).length+0,none⟩):=k2;rw[k1] at k2;simp only[Value.pointer.injEq,OF,Addr.mk.injEq,a7a] at k2;exact⟨k2.1.symm,by omega⟩
        have Vb:o1≠p1:=fun e=>gT e.symm;obtain⟨G2,m2,r2,v2,_⟩:=m'.WI (F:=[]) (p:=o1) (q:=p1) Vb q1 hnp d6 agN agO (fun x hx=>by cases hx)
         (fun a A hA i o' ux=>by
          unfold St.arr at hA;cases hl:look s2.cM a with
          |some B=>rw[hl] at hA;cases hA;exact Qv d7 hl i o' ux
          |none=>rw[hl] at hA;exact Qv d8 hA i o' ux) (.inr ⟨rfl,lj⟩)
        refine⟨av,{s2 with n:=st.n,et:=rest,cg:=(p1,ls2)::F7 s2.cg o1},G2,m2.X1 rfl rfl rfl rfl rfl rfl,fun act ra=>?_,v2 av v (fun y hy=>by cases hy) v',hk⟩
        have rf:=frame act ra;have mF:act.tmps.size=st.n:=ra.2.1;refine⟨ra.1.trans (hm.ds.trans m2.ds.symm),mF,fun i x hx=>?_⟩;have hx:({s2 with n:=st.n,et:=rest,cg:=(p1,ls2)::F7 s2.cg o1}:St).ib i=some x:=hx
        have i1:i≠st.n:=fun e=>by rw[e] at hx;rw[aau (st:={s2 with n:=st.n,et:=rest,cg:=(p1,ls2)::F7 s2.cg o1}) d9 d11] at hx;cases hx
        have i2:i≠st.n+1:=fun e=>by rw[e] at hx;rw[aau (st:={s2 with n:=st.n,et:=rest,cg:=(p1,ls2)::F7 s2.cg o1}) d10 d12] at hx;cases hx
        have hx2:s2.ib i=some x:=by simp only[St.ib,q2,au];rw[aza (bxa i1),aza (bxa i2)];exact hx
        have k:=rf.2.2 i x hx2;have hg:((act.tmps.push u).push u).getD i undef=act.tmps.getD i undef:=by rw[aAa,bea,aza (by simp;omega),bea,aza (by omega),←aAa]
        rw[hg] at k;exact v2 x _ (fun y hy=>by cases hy) k
      ·cases hk
   ·cases hr
 ·exact h hr zd hm RI ha
theorem aax{P:Program}{gt:Nat→Option GA}{f:FuncId}{j o:Nat}{s:iX}(h:mb P gt f s):mb P gt f (EA j o s):=⟨aed h.ok,abT h.det,aaw h.Rx⟩
end Go.Fx
namespace Go.Fx
structure Tb(P:Program) where
 n:Nat
 i:TI
 ok:zZ P n i
def tbs{P:Program}:List (Tb P)→List (Nat×TI)
 |[]=>[]
 |t::r=>(t.n,t.i)::tbs r
theorem aaS{P:Program}:∀ l:List (Tb P),aa3 P (tbs l)
 |[]=>trivial
 |t::r=>⟨t.ok,aaS r⟩
structure Prg where
 P:Program
 gt:Nat→Option GA
 ia:List (Tb P)
 mix:P.follows .mixedOrders=true
structure Cl(A:Prg) where
 f:Nat
 s:iX
 ok:mb A.P A.gt f s
def Cl.afC{A:Prg}(c:Cl A)(j o:Nat):Cl A:=⟨c.f,zM j o c.s,X0 c.ok⟩
def Cl.t8{A:Prg}(c:Cl A)(j o:Nat):Cl A:=⟨c.f,EA j o c.s,aax c.ok⟩
def cls{A:Prg}:List (Cl A)→List (Nat×iX)
 |[]=>[]
 |c::r=>(c.f,c.s)::cls r
theorem YQ{A:Prg}:∀ l:List (Cl A),SH A.P A.gt (cls l)
 |[]=>trivial
 |c::r=>⟨c.ok,YQ r⟩
def Gd(A:Prg)(f:Nat){T:Type}(S:T→iX):Type:={r:T // mb A.P A.gt f (S r)}
def Gd.cl{A:Prg}{f:Nat}{T:Type}{S:T→iX}(r:Gd A f S):Cl A:=⟨f,S r.1,r.2⟩
structure lq where
 L:pW
 V:List VL
 F:Nat→PV L.cs→PV L.vs→Option (WL V)
def lq.BA(d:lq)(id q:Nat):lm:=wW id d.L (d.F q) (dkL d.V)
structure LpB where
 id:Nat
 s:lm
 c:AM s
def lp(id:Nat)(d:lq)(q:Nat):LpB:=⟨id,d.BA id q,Qs _ _ _ _⟩
def rg(id:Nat)(d:lq):LpB:=⟨id+1000000,d.BA (id+1000000) 0,Qs _ _ _ _⟩
def lps:List LpB→List (Nat×lm)
 |[]=>[]
 |c::r=>(c.id,c.s)::lps r
theorem ZX:∀ l:List LpB,SG (lps l)
 |[]=>trivial
 |c::r=>⟨c.c,ZX r⟩
structure Ev(A:Prg) where
 cs:List (Cl A)
 ls:List LpB
 on:List (Nat×Nat)
def Ev.e{A:Prg}(E:Ev A):sb:=acu A.gt (tbs A.ia) (cls E.cs) (lps E.ls) E.on
theorem Ev.ok{A:Prg}(E:Ev A):F1 A.P E.e:=adp A.mix (aaS _) (YQ _) (ZX _)
structure Cd(A:Prg) where
 c:Code
 s:lm
 ok:uo A.P A.gt c s
def cds{A:Prg}:List (Cd A)→List (Code×lm)
 |[]=>[]
 |c::r=>(c.c,c.s)::cds r
theorem Rv{A:Prg}:∀ l:List (Cd A),Yu A.P A.gt (cds l)
 |[]=>trivial
 |c::r=>⟨c.ok,Rv r⟩
noncomputable def nq{A:Prg}(E:Ev A)(f:Func)(id:Nat)(d:lq)(q:Nat)(l:List (Cd A))(hb:xR E.e (Ek f id)=cds l:=by kernel_rfl)(h0:∀ c v,d.F 0 c v=none:=by intros;rfl)
  (h1:∀ q c v,d.F (q+1) c v=sm E.e (Ek f id) (d.L.st c v) (kL d.L d.V c (d.F q c)) (kLP d.L d.V c):=by intros;kernel_rfl):Cd A:=
 ⟨aeH f id,d.BA id q,ZT E.ok (vg hb (Rv l)) h0 h1 q⟩
noncomputable def rgC{A:Prg}(E:Ev A)(f:Func)(id:Nat)(d:lq)(ls:List (List Nat))(hd:DS (qi f id).toList (iK (qi f id).toList [])=true:=by kernel_rfl)(hc:iP (qi f id).toList (iK (qi f id).toList []) (qi f id).toList.length []=ls:=by kernel_rfl)
  (h1:Yw (fun l=>J6 (qi f id).toList l=true∧∀ c v,d.F 0 c v=HJ E.e (qi f id).toList (iK (qi f id).toList []) l [] (d.L.st c v) (kR d.L d.V c) (kLP d.L d.V c)) ls:=by(repeat' first|exact trivial|refine⟨?_,?_⟩);all_goals intros;all_goals kernel_rfl):Cd A:=
 ⟨afK f id,d.BA (id+1000000) 0,abS E.ok hd hc (Tf h1)⟩
def om{A:Prg}(E:Ev A)(k:FuncId)(f:Func)(hf:A.P.funcs[k]? = some f)(A8:∀ args w,(callFunc k args).run A.P w=.ok (.enter k args) w)(ts rs:List Ty)(F:DL ts→Option (DL rs))(l:List (Cd A))
  (hb:f.body.isSome=true:=by kernel_rfl) (hl:xR E.e (qT f)=cds l:=by kernel_rfl) (hn:Nat.ble ts.length f.ntmps=true:=by kernel_rfl)
  (h:∀ d,F d=sm E.e (qT f) (stD f.ntmps ts d) (kD E.e f.results.toList rs) (fun _ _=>none):=by intros;kernel_rfl):Cl A:=
 ⟨k,BB ts rs F id,XM E.ok hf A8 hb (vg hl (Rv l)) hn h⟩
structure EU where
 L:pW
 V:List VO
 F:PV L.cs→PV L.vs→Option (WO V)
def ml{A:Prg}(E:Ev A)(k:FuncId)(f:Func)(hf:A.P.funcs[k]? = some f)(A8:∀ args w,(callFunc k args).run A.P w=.ok (.enter k args) w)(res:List Nat)(d:EU)(l:List (Cd A))
  (hb:f.body.isSome=true:=by kernel_rfl) (hl:xR E.e (qT f)=cds l:=by kernel_rfl) (hn:Nat.beq f.ntmps d.L.n=true:=by kernel_rfl) (Bb:Jp f.results.toList.length=res:=by kernel_rfl)
  (h:∀ c v,d.F c v=sm E.e (qT f) (d.L.st c v) (kO E.e f.results.toList d.L d.V c) (kP d.L d.V c):=by intros;kernel_rfl):Cl A:=
 ⟨k,mP d.L d.F (BH res d.V),Zd E.ok hf A8 hb (vg hl (Rv l)) hn Bb h⟩
end Go.Fx
namespace Go.Fx
def tb{P:Program}(n:TypeId)(i:TypeInfo){d:TypeDesc}(hu:P.underlying n=some d)(ti:TI)(h1:P.info? n=some i:=by kernel_rfl)(h3:i.zero.isSome=true:=by kernel_rfl)(h4:(i.zero.getD undef).cells.toList=ti.zero:=by kernel_rfl)
 (h5:(Xg ti.iz d&&Nat.beq i.size ti.size&&Nat.beq i.bytes ti.bytes&&(ti.iz.agg||Nat.beq ti.size 1)&&Nat.beq ti.zero.length ti.size)=true:=by kernel_rfl) (h6:abe P n ti=true:=by kernel_rfl):Tb P:=⟨n,ti,af6 h1 hu h3 h4 h5 h6⟩
abbrev rI(i:Nat):Pl×mu:=(.r i,.d I)
abbrev rD(i:Nat)(t:Ty):Pl×mu:=(.r i,.d t)
abbrev rP(i o:Nat):Pl×mu:=(.r i,.lit (.np o 0))
abbrev lI(o j:Nat):Pl×mu:=(.l o j,.d I)
abbrev lD(o j:Nat)(t:Ty):Pl×mu:=(.l o j,.d t)
abbrev lN(o j:Nat):Pl×mu:=(.l o j,.lit .nil)
abbrev lF(o j:Nat)(t:Ty):Pl×mu:=(.l o j,.h .dB t)
abbrev lU(o j:Nat)(t:Ty):Pl×mu:=(.l o j,.h .bK t)
abbrev lH(m:Md)(o j:Nat)(t:Ty):Pl×mu:=(.l o j,.h m t)
end Go.Fx
