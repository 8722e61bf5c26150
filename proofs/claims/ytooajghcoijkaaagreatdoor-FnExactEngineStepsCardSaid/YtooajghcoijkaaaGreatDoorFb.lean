/- Proved here: laws.FnExactEngineSteps returns true at every input (the tied card), no condition beyond the card. -/
import Derived.Test.YtooajghcoijkaaaGreatDoorFa
import Derived.MapKept
import Derived.Laws.BytesString
import Derived.Deep.MidRow
set_option linter.unusedVariables false
set_option linter.unusedSimpArgs false
set_option linter.unusedSectionVars false
set_option maxRecDepth 100000
namespace Go.Fx
section ops
variable {P:Program} {E:rQ} (hE:iy P E.ir) {X:mo} {w:World} {R:Type} {r:R}
theorem Oh{st:St}{G:Gh}{T:TypeId}{ti:TI}(P9:yT P T ti)(hm:aB X st G w){o off:Nat}{vs ls c:List af}{vx vv:Value}(jD:vs.length=ti.size)(sd:vs.all af.cell=true)(El:All2 (aX G) vs vv.cells.toList)
  (ho:st.dJ o=some ls) (hs:qe ls off ti.size=some c) (hb:c.any af.po=false) (hx:aX G (.mT o off) vx):
  ∃ w',(Instr.storeAt T vx vv).run P w = .ok () w'∧aB X (st.qb o (mg ls off vs)) G w':=by
 have QX:=Dg hm sd El;have Fm:vv.cells.size=ti.size:=by rw [←jD,El.length];simp
 have AI:off + ti.size≤ls.length:=by
  unfold qe at hs;cases hq:Nat.ble (off + ti.size) ls.length with
  |false=>simp [hq] at hs
  |true=>exact Nat.le_of_ble_eq_true hq
 obtain⟨arr,elem,mid,g1,g2,g3⟩:=hm.ob o ls ho;have hml:mid.length=ls.length:=by have:=All2.length g3;rw [iF] at this;exact this.symm
 have SE:arr.size=(G.pre o).length + (mid.length + (G.post o).length):=by rw [←Array.length_toList,g2];simp
 have Dl:vx = .pointer (some ⟨G.φ o,(G.pre o).length + off,none⟩):=hx;have vY:(G.pre o).length + off + vv.cells.size≤arr.size:=by omega
 obtain⟨arr',k1,k2,k3,k4,k5,k6,k7⟩:=nM (G.φ o) vv.cells.toList ((G.pre o).length + off) w g1 (by simpa using vY)
 refine⟨_,by rw [Dl];exact yL P9 Fm (An g1 vY) QX,?_⟩
 refine hm.R7 ho (KK sd) (by omega) (by rw [jD];unfold qe at hs;cases hq:Nat.ble (off + ti.size) ls.length<;>simp [hq] at hs;rw [hs];exact hb) El g1 g2 g3 k1 ?_ k3 k4 k5 k6 k7
 have AJ:vv.cells.toList.length=ti.size:=by simpa using Fm
 rw [k2,g2,AJ];exact FL _ _ _ _ _ _ (by omega)
theorem VE{a v sz:Nat}{ls:List af}(h:ls.all af.cell=true):(ls.map (qg a v sz)).all af.cell=true:=by
 rw [List.all_map,List.all_eq_true];intro l hl;have:=List.all_eq_true.1 h l hl;simp only [Function.comp_apply];cases l with
 |Dt a' v' sz' i' off=>simp only [qg];cases (Nat.beq a' a && Nat.beq v' v && Nat.beq sz' sz && Nat.blt off sz)<;>rfl
 |_=>exact this
theorem Sc{G:Gh}{a v sz i:Nat}(ht:∀ off u,off < sz→uE G a v sz i off u→u=G.ψ (JM a v off)):∀{ls:List af} {us:List Value},vS a v sz i ls=true→All2 (aX G) ls us→All2 (aX G) (ls.map (qg a v sz)) us
 |[],[],_,_=>trivial
 |l :: ls,u :: us,h,hr=>by
  refine⟨Sd ht (IE h l (List.mem_cons_self ..)) hr.1,Sc ht ?_ hr.2⟩;cases l with
  |Dt a' v' sz' i' off=>
   simp only [vS] at h;cases hb:(Nat.beq a' a && Nat.beq v' v && Nat.beq sz' sz && Nat.blt off sz) with
   |false=>simp only [hb,cond_false] at h;exact h
   |true=>simp only [hb,cond_true,Bool.and_eq_true] at h;exact h.2
  |_=>exact h
 |[],_ :: _,_,h=>h.elim
 |_ :: _,[],_,h=>h.elim
theorem LA{X:mo}{st:St}{G:Gh}{w:World}(hm:aB X st G w){o:Nat}(h:st.dJ o=none):(∀ p,X.pin o≠some p)∧∀ j u,X.bv o j≠some u:=
 ⟨fun p hp=>(by obtain⟨⟨ls,h1⟩,_⟩:=hm.pin o p hp;rw [h] at h1;cases h1),fun j u hu=>(by obtain⟨_,⟨ls,h1,_⟩,_⟩:=hm.bv o j u hu;rw [h] at h1;cases h1)⟩
include hE
theorem RB{st:St}{G:Gh}{T:TypeId}{a sz i off:Nat}{v:ae}{vx vv:Value}{K:St→Option R}(h:tg E T a sz i off v st K=some r)(hm:aB X st G w)(hx:aX G (.Cs a sz i off) vx)(hv:aT G v vv)(hw:EX st v):
  ∃ st' G' w',(Instr.storeAt T vx vv).run P w = .ok () w'∧aB X st' G' w'∧(∀ act,bI G st act→bI G' st' act)∧K st' = some r:=by
 unfold tg at h;split at h
 ·rename_i ti vs A hT hl hA
  cases hc:(Nat.beq vs.length ti.size && vs.all af.cell && Nat.beq sz A.t.size) with
  |false=>simp [hc] at h
  |true=>
   simp only [hc,cond_true] at h;simp only [Bool.and_eq_true] at hc;obtain⟨⟨jD,sd⟩,mw⟩:=hc;have jD:=Nat.eq_of_beq_eq_true jD;have mw:=Nat.eq_of_beq_eq_true mw;subst mw;have P9:=hE T ti hT;split at h
   ·rename_i uc
    obtain⟨s1,G1,O,h⟩:=Pz h hm;obtain⟨b1,b2,b3,b4,b5,b6,b7⟩:=O.iH;have aba:s1.dy a=st.dy a:=by simp only [St.dy,b7]
    have ht:∀ off u,off < A.t.size→uE G1 a (st.dy a) A.t.size i off u→u=G1.ψ (JM a (st.dy a) off):=fun off u ho hu=>O.Zz A off u hA ho hu;obtain⟨m2,h⟩:=Sa h O.Ew (by rw [aba];exact ht)
    generalize hs2:({s1 with b9:=(pu s1.b9 []).map fun p=>(p.1,p.2.map (qg a (s1.dy a) A.t.size))}:St)=s2 at m2 h
    cases hth:vS a (st.dy a) A.t.size i vs with
    |false=>simp [hth] at h
    |true=>
     simp only [hth,cond_true] at h;split at h
     ·rename_i ls ho
      split at h
      ·rename_i c hs
       cases hb:c.any af.po with
       |true=>simp [hb] at h
       |false=>
        simp only [hb,cond_false] at h;have El:=Sc ht hth (mm O.Ew hl (O.val v vv hw hv));have hxp:aX G1 (.mT (obN a (st.dy a)) off) vx:=(O.mT off vx).2 ⟨A,hA,hx⟩;obtain⟨w',it,m3⟩:=Oh (w:=w) P9 m2 (by rw [List.length_map];exact jD) (VE sd) El ho hs hb hxp
        obtain⟨hp1,FQ⟩:=LA hm O.none;obtain⟨s4,G4,m4,r4,_,hK⟩:=OI h m3 hp1 FQ;refine⟨s4,G4,w',it,m4,fun act ra=>r4 act ?_,hK⟩;have r1:=O.et act ra;rw [←hs2];exact⟨r1.1,r1.2.1,r1.2.2⟩
      ·cases h
     ·cases h
   ·rename_i j o uc
    cases wr:(Nat.beq j i && Nat.ble 10000 o) with
    |false=>simp [wr] at h
    |true=>
     simp only [wr,cond_true] at h;simp only [Bool.and_eq_true] at wr;obtain rfl:=Nat.eq_of_beq_eq_true wr.1;have YO:=Nat.le_of_ble_eq_true wr.2;split at h
     ·rename_i ls ho
      split at h
      ·rename_i c hs
       cases hb:c.any af.po with
       |true=>simp [hb] at h
       |false=>
        simp only [hb,cond_false] at h;have jC:=ri hA;cases dm:A.sh with
        |true=>
         have sb:=hm.ar a A jC;exfalso;unfold zF at h;rw [show look (st.qb o (mg ls off vs)).cI a=some A from hA,ky,if_pos rfl] at h
         simp only [uc,dm] at h;simp at h
        |false=>
         have sb:=hm.ar a A jC;unfold oE at sb;simp only [dm,Bool.false_eq_true,if_false,uc] at sb;obtain⟨cap,Hp,Hq,rest,G9,k1,k2,k3,k4,k5,k6,k7,k8,k9⟩:=sb;have hxp:aX G (.mT o off) vx:=by obtain⟨b,len,cap',g1,g2,rfl⟩:=hx;rw [k1] at g1;cases g1;simp only [aX,k7]
         obtain⟨w',it,m3⟩:=Oh (w:=w) P9 hm jD sd (mm hm hl hv) ho hs hb hxp;obtain⟨s4,G4,m4,r4,_,hK⟩:=OI h m3 (fun p hp=>by have:=X.pl o p hp;omega) (fun j u hu=>by have:=X.bl o j u hu;omega)
         exact⟨s4,G4,w',it,m4,fun act ra=>r4 act ⟨ra.1,ra.2.1,ra.2.2⟩,hK⟩
      ·cases h
     ·cases h
   ·cases h
 ·cases h
omit hE in
theorem aB.aer{X:mo}{st:St}{G:Gh}{w w':World}(hm:aB X st G w){a b:Nat}{A A':jB}{o o':Obj}(hA:st.arr a=some A)(hs:A.sh=false)(AK:A'.sh=false)(hn:A'.nest=false)(hH:G.HA a = [(b,o)])
  (Li:∀ G':Gh,G'.S=G.S→G'.ψ a=G.ψ a→G'.HA a = [(b,o')]→oE G' a A') (hw:w'.heap[b]? = some o') (hwo:∀ k,k≠b→w'.heap[k]? = w.heap[k]?) (mw:w'.heap.size=w.heap.size) (hos:w'.os=w.os) (htp:w'.tape=w.tape) (xa:w'.output=w.output):
  ∃ G',aB X (st.gF a A') G' w'∧(∀ act,bI G st act→bI G' (st.gF a A') act):=by
 let G1:Gh:={G with HA:=fun q=>if q=a then [(b,o')] else G.HA q}
 have MF:eU G st (true,a) b:=⟨⟨A,hA,hs⟩,(b,o),by rw [hH];simp,rfl⟩
 have Ml:vb X st (st.gF a A') G G1 w w' (fun y=>y=(true,a)) (fun y=>y=(true,a)) []:=by
  refine {
     n:=rfl,ib:=fun _=>rfl,bl:=rfl,pn:=rfl,S:=rfl,bJ:=fun lf v _ hr=>aX.leF (G:=G) (G':=G1) (F:=[]) (fun _ _ h=>h) (fun _ _=>⟨rfl,rfl⟩) (fun q _=>⟨rfl,Nat.le_refl _,fun _ _=>rfl⟩) (by simp) hr,fm:=fun y hy=>(by cases hy),sl:=hm.sl,dJ:=fun q ls hq=>.inr ⟨by simp,by simp,hq,rfl,rfl,rfl⟩,arr:=fun q B hq=>?_,
     oW:=fun y c hy hyo=>?_,pO:=fun y z c hy hz _ _=>hy.trans hz.symm,hv:=hm.hv,old:=fun c hc hn=>hwo c fun e=>hn (true,a) rfl (by rw [e];exact MF),sz:=by rw [mw];exact Nat.le_refl _,os:=hos,tp:=htp,out:=xa,S7:=fun q ls hq _=>⟨hq,by simp⟩,S6:=fun q B hp hq=>⟨?_,rfl⟩}
  ·rw [dD] at hq
   by_cases e:a=q
   ·subst e
    simp only [if_true,Option.some.injEq] at hq;subst hq;refine .inl ⟨rfl,Li G1 rfl rfl (by simp [G1]),fun _=>⟨fun p hp=>?_,by simp [G1],fun gU=>by rw [hn] at gU;cases gU⟩⟩
    simp only [G1,if_true,List.mem_singleton] at hp;rw [hp];exact hw
   ·simp only [e,if_false] at hq
    have gU:q≠a:=fun h=>e h.symm;exact .inr ⟨by simp [gU],hq,rfl,by simp [G1,gU],fun _=>by simp [gU],rfl,fun _ _ _=>⟨rfl,rfl,rfl⟩⟩
  ·subst hy
   obtain⟨_,p,hp,rfl⟩:=hyo;simp only [G1,if_true,List.mem_singleton] at hp;exact .inl ⟨(true,a),rfl,by rw [hp];exact MF⟩
  ·rw [dD]
   by_cases e:a=q
   ·exact⟨_,by rw [if_pos e]⟩
   ·exact⟨B,by rw [if_neg e];exact hq⟩
 exact⟨G1,Ml.ok hm,fun act=>Ml.et⟩
theorem RC{st:St}{G:Gh}{T:TypeId}{a k n:Nat}{v:ae}{vx vv:Value}{K:St→Option R}(h:th E T a k v st K=some r)(hm:aB X st G w)(hx:aX G (.JY a k n) vx)(hv:aT G v vv):
  ∃ st' G' w',(Instr.storeAt T vx vv).run P w = .ok () w'∧aB X st' G' w'∧(∀ act,bI G st act→bI G' st' act)∧K st' = some r:=by
 unfold th at h;split at h
 ·rename_i ti l A hT hl hA
  cases hc:(Nat.beq ti.size 1 && l.cell && !A.sh && Md.kX A.md .arr && Nat.beq A.t.size 1 && !A.t.agg && A.t.xE) with
  |false=>rw [hc] at h;cases h
  |true=>
   rw [hc,cond_true] at h;simp only [Bool.and_eq_true,Bool.not_eq_true'] at hc;obtain⟨⟨⟨⟨⟨⟨hts,sd⟩,dm⟩,uc⟩,mw⟩,hag⟩,hns⟩:=hc;have hts:=Nat.eq_of_beq_eq_true hts;have mw:=Nat.eq_of_beq_eq_true mw;have uc:=Md.vV uc;split at h
   ·rename_i d hd
    obtain⟨x0,hx0,h⟩:=Option.bind_eq_some_iff.1 h;have hi:A.l[k]? = some x0:=by simpa [bK] using hx0
    have jC:=ri hA;have El:=mm hm hl hv;obtain⟨b,g1,hvx⟩:=hx;obtain⟨b',arr,elem,e1,e2,e3⟩:=EY dm uc (hm.ar a A jC);rw [g1] at e1;cases e1;have ss:=hm.ah a A jC dm (b,Obj.cells arr elem (0,0)) (by rw [e2];simp)
    obtain⟨pre,cc,post,Hp,Hc,Hq,k1,k2,k3,k4,k5⟩:=RepL.at (fun c x H hr=>fY.size hr) e3 hi;obtain⟨u,hu⟩:∃ u,vv.cells.toList = [u]:=by
     have:=El.length
     match hvv:vv.cells.toList,this with
     |[u],_=>exact⟨u,rfl⟩
    rw [hu] at El;have zN:fY G.S false A.t [u] d []:=K4 hm hag hd El.1;have Fm:vv.cells.size=ti.size:=by rw [hts,←Array.length_toList,hu];rfl
    have aeI:k < arr.size:=by
     have l7:=fY.size k4;have:arr.size=pre.length + (cc.length + post.length):=by rw [←Array.length_toList,k1];simp
     have P8:pre.length=k:=by rw [k2,mw,Nat.mul_one]
     omega
    have QX:∀ v∈vv.cells.toList,v.oneCell' = true:=by rw [hu];exact Dg hm (ls:=[l]) (by simpa using sd) El
    have vY:k + vv.cells.size≤arr.size:=by omega
    obtain⟨arr',g2,g3,g4,g5,g6,g7,g8⟩:=nM b vv.cells.toList k w ss (by simpa using vY)
    have hrl:=k5 [u] d [] zN;have hH0:Hp = []∧Hc = []∧Hq = []:=by have e:=List.append_eq_nil_iff.1 k3.symm;have e':=List.append_eq_nil_iff.1 e.2;exact⟨e.1,e'.1,e'.2⟩
    have qN:arr'.toList=pre ++ ([u] ++ post):=by
     have l7:cc.length=1:=by rw [fY.size k4,mw]
     rw [g3,hu,k1];have P8:pre.length=k:=by rw [k2,mw,Nat.mul_one]
     match cc,l7 with
     |[c0],_=>rw [←P8];simp
    obtain⟨G2,m2,r2⟩:=hm.aer (A':=⟨A.t,.arr,false,A.l.set k d⟩) (o':=Obj.cells arr' elem (0,0)) jC dm rfl rfl e2 (fun G' h1 h2 h3=>⟨b,arr',elem,h2.trans g1,h3,by
     rw [qN,h1];have:=hrl;rw [hH0.1,hH0.2.2] at this;exact this⟩) g2 g4 g5 g6 g7 g8
    exact⟨_,G2,_,by rw [hvx];exact yL (hE T ti hT) Fm (An ss vY) QX,m2,r2,h⟩
   ·cases h
 ·cases h
theorem RD{st:St}{G:Gh}{T:TypeId}{x v:ae}{vx vv:Value}{K:St→Option R}(h:tj E T x v st K=some r)(hm:aB X st G w)(hx:aT G x vx)(hv:aT G v vv)(hw:EX st v):
  ∃ st' G' w',(Instr.storeAt T vx vv).run P w = .ok () w'∧aB X st' G' w'∧(∀ act,bI G st act→bI G' st' act)∧K st' = some r:=by
 unfold tj at h;split at h
 ·rename_i a sz i off hn
  unfold Ue at hn;split at hn
  ·rename_i a' sz' i' abt hl
   have NC:x = .one (.Cs a' sz' i' abt):=by cases x<;>simp [ae.bJ] at hl;rw [hl]
   split at hn
   ·rename_i A hA
    cases hs:A.sh with
    |true=>simp [hs] at hn
    |false=>
     simp only [hs,cond_false] at hn;have e:(a',sz',i',abt)=(a,sz,i,off):=by
      split at hn
      ·exact Option.some.inj hn
      ·exact Option.some.inj hn
      ·cases hn
     simp only [Prod.mk.injEq] at e;obtain⟨rfl,rfl,rfl,rfl⟩:=e;rw [NC] at hx;exact RB hE h hm hx hv hw
   ·cases hn
  ·cases hn
 ·split at h
  ·rename_i a k ha
   unfold aax at ha;split at ha
   ·rename_i a' k' n' hl
    cases ha;rw [show x = .one (.JY a k n') by cases x<;>simp [ae.bJ] at hl;rw [hl]] at hx
    exact RC hE (n:=n') h hm hx hv
   ·cases ha
  ·exact S4 hE h hm hx hv
omit hE in
theorem wQ{st:St}{dst:Nat}{C:List Nat}{N:jB}(hb:∀ c∈C,look st.fL c=none)(q:Nat):({st with cI:=(dst,N) :: kM C st.cI}:St).arr q=if q=dst then some N else if q∈C then none else st.arr q:=by
 simp only [St.arr,aw,yr];by_cases e:dst=q
 ·simp [e]
 ·have hq:q≠dst:=fun h=>e h.symm
  simp only [e,hq,if_false];by_cases e2:q∈C
  ·simp [e2,hb q e2]
  ·simp [e2]
omit hE in
theorem I0{st:St}{G:Gh}(hm:aB X st G w){t:Ty}:∀{ps:List (Nat×ae)} {vs:List (Nat×Value)} {k:Nat} {l:List t.mZ} {c:List Nat},tm t k ps st=some (l,c)→All2 (fun(p:Nat×ae) (q:Nat×Value)=>p.1=q.1∧aT G p.2 q.2) ps vs→
  RepL (fY G.S true t) (vs.map fun p=>p.2.cells.toList).flatten l (c.flatMap G.HA)∧l.length=vs.length∧(∀(i:Nat) q,vs[i]? = some q→q.1=k + i∧q.2.cells.size=t.size)∧∀ q∈c,F7 st q
 |[],[],k,l,c,h,_=>by simp only [tm,Option.some.injEq,Prod.mk.injEq] at h;obtain⟨rfl,rfl⟩:=h;exact⟨⟨rfl,rfl⟩,rfl,fun i q hq=>by simp at hq,fun q hq=>by cases hq⟩
 |(j,v) :: ps,(j',u) :: vs,k,l,c,h,hp=>by
  simp only [tm] at h;cases hb:Nat.beq k j with
  |false=>simp [hb] at h
  |true=>
   simp only [hb,cond_true] at h;have hkj:=Nat.eq_of_beq_eq_true hb;split at h
   ·rename_i ls hl
    split at h
    ·rename_i d c0 hT
     split at h
     ·rename_i l' c' acL
      simp only [Option.some.injEq,Prod.mk.injEq] at h;obtain⟨rfl,rfl⟩:=h;obtain⟨c1,c2,e0,g1,g2,g3⟩:=Uk hm hT (mm hm hl hp.1.2)
      match c2,g2 with
      |[],_=>
      rw [List.append_nil] at e0;obtain⟨r1,r2,r3,r4⟩:=I0 hm acL hp.2;refine⟨⟨c1,_,c0.flatMap G.HA,c'.flatMap G.HA,by simp [e0],by rw [List.flatMap_append],g1,r1⟩,by simp [r2],fun i q hq=>?_,fun q hq=>?_⟩
      ·cases i with
       |zero=>
        simp only [List.getElem?_cons_zero,Option.some.injEq] at hq;subst hq;refine⟨by have h1:=hp.1.1;simp only at h1 ⊢;omega,?_⟩
        have:=fY.size g1;rw [←e0] at this;simpa using this
       |succ i=>
        obtain⟨z1,z2⟩:=r3 i q (by simpa using hq)
        exact⟨by omega,z2⟩
      ·rcases List.mem_append.1 hq with hq | hq
       ·exact g3 q hq
       ·exact r4 q hq
     ·cases h
    ·cases h
   ·cases h
 |[],_ :: _,_,_,_,_,hp=>hp.elim
 |_ :: _,[],_,_,_,_,hp=>hp.elim
omit hE in
theorem Zc{st:St}{c:List Nat}(h:∀ q∈c,F7 st q):(∀ q∈c,(∃ A,st.arr q=some A∧A.sh=false)∧eT q st.pin=false)∧∀ q∈c,look st.fL q=none:=
 ⟨fun q hq=>by obtain⟨A,h1,h2,h3,_⟩:=h q hq;exact⟨⟨A,ri h1,h2⟩,h3⟩,fun q hq=>by obtain⟨_,_,_,_,h4⟩:=h q hq;exact h4⟩
theorem It{st:St}{G:Gh}{T:TypeId}{dst len:Nat}{ia:List (Nat×ae)}{vs:List (Nat×Value)}{K:ae→St→Option R}(h:kF E T dst len ia st K=some r)(hm:aB X st G w)
  (hp:All2 (fun(p:Nat×ae) (q:Nat×Value)=>p.1=q.1∧aT G p.2 q.2) ia vs):
  ∃ av v st' G' w',(Instr.buildSlice T len vs.toArray).run P w = .ok v w'∧aB X st' G' w'∧(∀ act,bI G st act→bI G' st' act)∧aT G' av v∧K av st' = some r:=by
 unfold kF at h;split at h
 ·rename_i s b y e z hT
  cases yZ:E.ir e with
  |none=>simp [yZ] at h
  |some ei=>
   simp only [yZ] at h;cases hy:ei.ty with
   |none=>simp [hy] at h
   |some t=>
    simp only [hy] at h;cases hc:(Nat.beq len ia.length && Nat.beq ei.size t.size && Nat.ble (len * ei.size) 16777216) with
    |false=>simp [hc] at h
    |true=>
     simp only [hc,cond_true] at h;simp only [Bool.and_eq_true] at hc;obtain⟨⟨J4,wr⟩,K8⟩:=hc;have J4:=Nat.eq_of_beq_eq_true J4;have wr:=Nat.eq_of_beq_eq_true wr;have K8:=Nat.le_of_ble_eq_true K8;split at h
     ·rename_i l c hsp ha
      cases y4:(st.cY true dst || !nN c) with
      |true=>simp [y4] at h
      |false=>
       simp only [y4,cond_false] at h;simp only [Bool.or_eq_false_iff,Bool.not_eq_false'] at y4;obtain⟨y4,GC⟩:=y4;have GC:=Ds GC;obtain⟨r1,l1,z1,o1⟩:=I0 hm hsp hp;obtain⟨oc1,oc2⟩:=Zc o1;have AJ:vs.length=len:=by rw [J4,hp.length]
       have hu:=(hE T _ hT).slice;obtain⟨i,d,zz,i1,i2,i3,i4,i5,i6,i7,i8,i9,_⟩:=hE e ei yZ;have l7:(vs.map fun p=>p.2.cells.toList).flatten.length=len * t.size:=by rw [RepL.size (fun c x H hr=>fY.size hr) r1,l1,AJ]
       let zc:Array Value:=if len * ei.size=0 then #[] else zz.cells
       let Pb:List Value:=((Array.range (len * ei.size)).map (zc[· % zc.size]!)).toList
       have D0:Pb.length=len * ei.size:=by simp [Pb]
       have Lc:=KW ei.size vs 0 Pb (fun j p hp=>by
        obtain⟨g1,g2⟩:=z1 j p hp;exact⟨g1,by rw [g2,wr]⟩) (by rw [Nat.zero_add,AJ,D0];exact Nat.le_refl _)
       rw [Nat.zero_add,AJ,Nat.zero_mul,List.take_zero,List.nil_append,List.drop_of_length_le (by rw [D0];exact Nat.le_refl _),List.append_nil] at Lc
       let blk:Obj:=.cells (vs.map fun p=>p.2.cells.toList).flatten.toArray e (0,0);have ME:∀ p∈c.flatMap G.HA,p.1 < w.heap.size∧w.heap[p.1]? = some p.2:=fun p hp=>by obtain⟨q,hq,hp⟩:=List.mem_flatMap.1 hp;obtain⟨⟨A,hA,hs⟩,_⟩:=oc1 q hq;have:=hm.ah q A hA hs p hp;exact⟨fT this,this⟩
       have Gz:j9 (RepL (fY G.S true t)) t.size [.slice (some ⟨w.heap.size,0,none⟩) l.length len] l ((w.heap.size,blk) :: c.flatMap G.HA):=
        .inr ⟨w.heap.size,len,(vs.map fun p=>p.2.cells.toList).flatten.toArray,e,(vs.map fun p=>p.2.cells.toList).flatten,[],c.flatMap G.HA,rfl,rfl,by simp,by rw [List.size_toArray,l7];exact Nat.le_refl _,by rw [l1,AJ];exact Nat.le_refl _,r1⟩
       obtain⟨G2,m2,r2,hv2,_⟩:=hm.sX (w':=w.alloc blk) (dst:=dst) (C:=c) (A':=⟨t,.bP,false,l⟩) (hd:=.slice (some ⟨w.heap.size,0,none⟩) l.length len) (HH:=(w.heap.size,blk) :: c.flatMap G.HA)
        (st':={st with cI:=(dst,⟨t,.bP,false,l⟩) :: kM c st.cI}) oc1 rfl rfl
        Gz
        (by
         rw [List.map_cons,List.nodup_cons];refine⟨fun gT=>?_,Fa hm GC fun q hq=>(oc1 q hq).1⟩;obtain⟨p,hp,e⟩:=List.mem_map.1 gT;have:=(ME p hp).1;simp only at e;omega)
        (fun p hp=>by
         rcases List.mem_cons.1 hp with rfl | hp
         ·exact .inr (Nat.le_refl _)
         ·obtain⟨q,hq,hp⟩:=List.mem_flatMap.1 hp
          exact .inl ⟨q,hq,p,hp,rfl⟩)
        (fun p hp=>by
         rcases List.mem_cons.1 hp with rfl | hp
         ·exact tZ w _
         ·rw [iI w _ (ME p hp).1];exact(ME p hp).2)
        (fun b hb _=>iI w _ hb) (by rw [rS];omega) rfl rfl rfl (qI.cI _ _) (wQ oc2) ha y4
       refine⟨_,_,_,G2,_,?_,m2,r2,hv2,h⟩;have h24:¬ (2 ^ 24 < len * i.size):=by rw [i3];omega
       have mw:=(hE e ei yZ).size w;have CC:(Array.range (len * ei.size)).map (zc[· % zc.size]!)=Pb.toArray:=(Array.toArray_toList (xs:=(Array.range (len * ei.size)).map (zc[· % zc.size]!))).symm
       by_cases h0:len * ei.size=0
       ·have hzc:zc = #[]:=by simp [zc,h0]
        rw [hzc] at CC;simp only [Instr.buildSlice,Sem.run_bind,run_underlying hu,Result.andThen_ok,mw,Sem.run_ite,if_neg (show ¬ (len * ei.size > 2 ^ 24) by omega),h0,if_true,Sem.run_pure]
        rw [h0] at CC;rw [CC];simp only [Lc];simp [newRow,l1,AJ,blk]
       ·have hzc:zc=zz.cells:=by simp [zc,h0]
        rw [hzc] at CC;simp only [Instr.buildSlice,Sem.run_bind,run_underlying hu,Result.andThen_ok,mw,Sem.run_ite,if_neg (show ¬ (len * ei.size > 2 ^ 24) by omega),h0,if_false,Sem.run_pure,zeroValue,typeInfo,run_program,i1,i5]
        rw [CC];simp only [Lc];simp [newRow,l1,AJ,blk]
     ·cases h
 ·cases h
end ops
end Go.Fx
namespace Go.Fx
theorem OM{A:jB}(h:A.md.kX .bP=true):A.md = .bP:=Md.vV h
section ops
variable {P:Program} {E:rQ} (hE:iy P E.ir) {X:mo} {w:World} {R:Type} {r:R}
include hE
set_option maxHeartbeats 2000000 in
theorem Pp{st:St}{G:Gh}{T ty:TypeId}{dst b:Nat}{x:ae}{vx vy:Value}{K:ae→St→Option R}(h:qv E T dst x b st K=some r)(hm:aB X st G w)(hx:aT G x vx)(hy:aX G (.mq b) vy):
  ∃ av v st' G' w',(Builtin.append_ #[T,T] ty #[vx,vy]).run P w = .ok v w'∧aB X st' G' w'∧(∀ act,bI G st act→bI G' st' act)∧aT G' av v∧K av st' = some r:=by
 unfold qv at h;split at h
 ·rename_i s bb0 y' e z hT
  cases yZ:E.ir e with
  |none=>simp [yZ] at h
  |some ei=>
   simp only [yZ] at h;split at h
   ·rename_i t B hty hB J5
    cases hc:(Nat.beq ei.size t.size && Nat.ble ei.bytes 16384 && !(B.sh || !Md.kX B.md .bP ||(look st.fL b).isSome || eT b st.pin || st.cY true dst)) with
    |false=>rw [hc] at h;cases h
    |true=>
     simp only [hc,cond_true] at h;simp only [Bool.and_eq_true,Bool.not_eq_true',Bool.or_eq_false_iff,Bool.not_eq_false'] at hc;obtain⟨⟨q1,q2⟩,⟨⟨⟨H9,hBm⟩,hBb⟩,hBp⟩,y4⟩:=hc;have q1:=Nat.eq_of_beq_eq_true q1;have q2:=Nat.le_of_ble_eq_true q2;have hBb:look st.fL b=none:=by simpa using hBb
     split at h
     ·rename_i m Em
      obtain⟨ety,hm0⟩:=lk Em;have acg:=OM hBm;obtain⟨Bt,Bmd,Bsh,Bl⟩:=B;simp only [Ty.slice.injEq] at ety;subst ety;simp only at hm0 H9 acg;subst hm0 H9 acg;have hu:=(hE T _ hT).slice;obtain⟨i,d,zz,i1,i2,i3,i4,i5,i6,i7,i8,i9,_⟩:=hE e ei yZ;have hzs:zz.cells.size=i.size:=by rw [i3,←i9,←i6];simp
      have Nw:st.arr b=some ⟨Bt,.bP,false,m⟩:=ri hB;have adH:=(gS rfl rfl).1 (hm.ar b _ Nw);have hvy:vy=G.ψ b:=hy;have Xy:(∃ A,st.arr b=some A∧A.sh=false)∧eT b st.pin=false:=⟨⟨_,Nw,rfl⟩,hBp⟩;have qN:(m = []∧G.HA b = []∧vy = .slice none 0 0)∨∃(bb cap:Nat) (arr:Array Value) (elem:TypeId) (cells:List Value) (rest:List Value) (H':fZ),vy = .slice (some ⟨bb,0,none⟩) m.length cap∧G.HA b=(bb,Obj.cells arr elem (0,0)) :: H'∧
        RepL (fY G.S true Bt) cells m H'∧(∀ j u,cells[j]? = some u→w.cell? ((⟨bb,0,none⟩:Addr).add j)=some u):=by
       rcases adH with ⟨e1,e2,e3⟩ |⟨bb,cap,arr,elem,cells,rest,H',e1,e2,e3,e4,e5,e6⟩
       ·simp only [List.cons.injEq,and_true] at e3
        exact .inl ⟨e1,e2,hvy.trans e3⟩
       ·simp only [List.cons.injEq,and_true] at e1
        have ss:=hm.ah b _ Nw rfl (bb,Obj.cells arr elem (0,0)) (by rw [e2];simp)
        refine .inr ⟨bb,cap,arr,elem,cells,rest,H',hvy.trans e1,e2,e6,fun j u hj=>?_⟩;rw [Addr.add_mid];exact nO (pre:=[]) ss (by simpa using e3) rfl j u hj
      have O5:∀{news:List Value} {H:fZ},RepL (fY G.S true Bt) news m H→news.length=m.length * i.size:=fun hr=>by rw [RepL.size (fun c x H hr=>fY.size hr) hr,i3,q1]
      have low:∀{q:Nat},((∃ A,st.arr q=some A∧A.sh=false)∧eT q st.pin=false)→∀ p∈G.HA q,p.1 < w.heap.size∧w.heap[p.1]? = some p.2:=fun {q} hq p hp=>by obtain⟨⟨A,hA,hs⟩,_⟩:=hq;have:=hm.ah q A hA hs p hp;exact⟨fT this,this⟩
      have Ej:∀(C:List Nat) (rr:List Bt.mZ),b∈C→C.Nodup→(∀ c∈C,((∃ A,st.arr c=some A∧A.sh=false)∧eT c st.pin=false))→(∀ c∈C,look st.fL c=none)→(∀ c∈C,c≠b→G.HA c = [])→lM ([]:List Bt.mZ) m=some rr→
        ∃ v G' w',(Builtin.append_ #[T,T] ty #[.slice none 0 0,vy]).run P w = .ok v w'∧aB X {st with cI:=(dst,⟨Bt,.bP,false,rr⟩) :: kM C st.cI} G' w'∧(∀ act,bI G st act→bI G' {st with cI:=(dst,⟨Bt,.bP,false,rr⟩) :: kM C st.cI} act)∧aT G' (.one (.mq dst)) v:=by
       intro C rr hbC hnC hC hCb hCe JD;obtain⟨jD,aa7⟩:=Cg JD;have aa8:m=rr:=aa7.symm;subst aa8;rcases qN with ⟨rfl,hH,rfl⟩ |⟨bb,cap,arr,elem,cells,rest,H',rfl,hH,zN,sd⟩
       ·obtain⟨G',m',r',hv,_⟩:=hm.sX (w':=w) (dst:=dst) (C:=C) (A':=⟨Bt,.bP,false,[]⟩) (hd:=.slice none 0 0) (HH:=[]) (st':={st with cI:=(dst,⟨Bt,.bP,false,[]⟩) :: kM C st.cI}) hC rfl rfl
         (.inl ⟨rfl,rfl,rfl⟩) List.nodup_nil (fun p hp=>by cases hp) (fun p hp=>by cases hp) (fun _ _ _=>rfl) (Nat.le_refl _) rfl rfl rfl (qI.cI _ _) (wQ hCb) J5 y4
        exact⟨_,G',w,ot hu i1 none none 0 0 0 (Nat.le_refl _),m',r',hv⟩
       ·by_cases vj:0 < m.length
        ·simp only [List.length_nil,Nat.zero_add] at jD
         have h48:m.length * i.bytes≤281474976710656:=by
          have:m.length * i.bytes≤4294967296 * 16384:=Nat.mul_le_mul jD (by rw [i4];exact q2)
          omega
         have it:=run_append_nil (P:=P) w T ty e i zz hu i1 i5 ⟨bb,0,none⟩ m.length cap cells (O5 zN) sd vj (by omega) h48
         have JF:=grownCap_ge w m.length 0 e;let blk:Obj:=.cells (cells.toArray ++ Builtin.zeroCells zz.cells (grownCap w m.length 0 e - m.length)) e (0,0);have Gz:j9 (RepL (fY G.S true Bt)) Bt.size [.slice (some ⟨w.heap.size,0,none⟩) m.length (grownCap w m.length 0 e)] m ((w.heap.size,blk) :: H'):=
          .inr ⟨w.heap.size,grownCap w m.length 0 e,_,e,cells,(Builtin.zeroCells zz.cells (grownCap w m.length 0 e - m.length)).toList,H',rfl,rfl,by simp,by
           rw [Array.size_append,size_zeroCells,hzs,List.size_toArray,O5 zN,←Nat.add_mul,i3,q1];exact Nat.mul_le_mul_right _ (by omega),JF,zN⟩
         have WK:=hm.nd b _ Nw rfl;rw [hH,List.map_cons,List.nodup_cons] at WK;obtain⟨G',m',r',hv,_⟩:=hm.drew.sX (w':=w.drew.alloc blk) (dst:=dst) (C:=C) (A':=⟨Bt,.bP,false,m⟩) (hd:=.slice (some ⟨w.heap.size,0,none⟩) m.length (grownCap w m.length 0 e)) (HH:=(w.heap.size,blk) :: H')
          (st':={st with cI:=(dst,⟨Bt,.bP,false,m⟩) :: kM C st.cI}) hC rfl rfl Gz
          (by
           rw [List.map_cons,List.nodup_cons];refine⟨fun gT=>?_,WK.2⟩;obtain⟨p,hp,e⟩:=List.mem_map.1 gT;have:=(low Xy p (by rw [hH];exact List.mem_cons_of_mem _ hp)).1
           simp only at e;omega)
          (fun p hp=>by
           rcases List.mem_cons.1 hp with rfl | hp
           ·exact .inr (Nat.le_refl _)
           ·exact .inl ⟨b,hbC,p,by rw [hH];exact List.mem_cons_of_mem _ hp,rfl⟩)
          (fun p hp=>by
           rcases List.mem_cons.1 hp with rfl | hp
           ·exact tZ w.drew _
           ·have:=low Xy p (by rw [hH];exact List.mem_cons_of_mem _ hp)
            rw [iI w.drew _ this.1];exact this.2)
          (fun b hb _=>iI w.drew _ hb) (by rw [rS];exact Nat.le_succ _) rfl rfl rfl (qI.cI _ _) (wQ hCb) J5 y4
         exact⟨_,G',_,it,m',r',hv⟩
        ·have hm0:m = []:=by cases m<;>simp at vj ⊢
         subst hm0;obtain⟨G',m',r',hv,_⟩:=hm.sX (w':=w) (dst:=dst) (C:=C) (A':=⟨Bt,.bP,false,[]⟩) (hd:=.slice none 0 0) (HH:=[]) (st':={st with cI:=(dst,⟨Bt,.bP,false,[]⟩) :: kM C st.cI}) hC rfl rfl
          (.inl ⟨rfl,rfl,rfl⟩) List.nodup_nil (fun p hp=>by cases hp) (fun p hp=>by cases hp) (fun _ _ _=>rfl) (Nat.le_refl _) rfl rfl rfl (qI.cI _ _) (wQ hCb) J5 y4
         exact⟨_,G',w,ot hu i1 none _ 0 0 _ (Nat.le_refl _),m',r',hv⟩
      cases x with
      |agg ls=>simp [ae.bJ] at h
      |I8 ls=>simp [ae.bJ] at h
      |y5 t ls=>simp [ae.bJ] at h
      |one l=>
       simp only [ae.bJ] at h;cases l with
       |nil=>
        simp only at h;obtain⟨rr,NA,h⟩:=Option.bind_eq_some_iff.1 h;have hvx:vx = .slice none 0 0:=hx;subst hvx;obtain⟨v,G',w',f1,f2,f3,f4⟩:=Ej [b] rr (List.mem_singleton.2 rfl) (by simp) (fun c hc=>by rw [List.mem_singleton.1 hc];exact Xy) (fun c hc=>by rw [List.mem_singleton.1 hc];exact hBb) (fun c hc gU=>absurd (List.mem_singleton.1 hc) gU) NA
        exact⟨_,v,_,G',w',f1,f2,f3,f4,h⟩
       |mq a=>
        simp only at h;cases hA:look st.cI a with
        |none=>simp [hA] at h
        |some A=>
         simp only [hA] at h;cases K8:(A.sh || !Md.kX A.md .bP ||(look st.fL a).isSome || eT a st.pin || Nat.beq a b) with
         |true=>simp [K8] at h
         |false=>
          simp only [K8,cond_false] at h;simp only [Bool.or_eq_false_iff,Bool.not_eq_false'] at K8;obtain⟨⟨⟨⟨Nv,hAm⟩,hAb⟩,Mk⟩,hab⟩:=K8;have hAb:look st.fL a=none:=by simpa using hAb
          have hab:a≠b:=fun e=>by rw [e] at hab;simp at hab
          cases K9:uJ (.slice A.t) (.slice Bt) A.l with
          |none=>simp [K9] at h
          |some l=>
           simp only [K9] at h;obtain⟨ety,hl⟩:=lk K9;have Ww:=OM hAm;obtain⟨At,Amd,Ash,Al⟩:=A;simp only [Ty.slice.injEq] at ety;subst ety;simp only at hl Nv Ww;subst hl Nv Ww;obtain⟨rr,NA,hK⟩:=Option.bind_eq_some_iff.1 h;have jC:st.arr a=some ⟨At,.bP,false,l⟩:=ri hA;have sb:=(gS rfl rfl).1 (hm.ar a _ jC);have hvx:vx=G.ψ a:=hx;have abu:(∃ A,st.arr a=some A∧A.sh=false)∧eT a st.pin=false:=⟨⟨_,jC,rfl⟩,Mk⟩;have hC:∀ c∈[a,b],(∃ A,st.arr c=some A∧A.sh=false)∧eT c st.pin=false:=fun c hc=>by
            simp only [List.mem_cons,List.not_mem_nil,or_false] at hc;rcases hc with rfl | rfl
            ·exact abu
            ·exact Xy
           have hCb:∀ c∈[a,b],look st.fL c=none:=fun c hc=>by
            simp only [List.mem_cons,List.not_mem_nil,or_false] at hc;rcases hc with rfl | rfl
            ·exact hAb
            ·exact hBb
           have hnC:[a,b].Nodup:=by simp [hab]
           have ZQ:∀ p∈G.HA a,∀ p'∈G.HA b,p.1≠p'.1:=fun p hp p' zf e=>by have:=hm.pO (true,a) (true,b) p.1 ⟨⟨_,jC,rfl⟩,p,hp,rfl⟩ ⟨⟨_,Nw,rfl⟩,p',zf,e.symm⟩;simp only [Prod.mk.injEq,true_and] at this;exact hab this
           rcases sb with ⟨e1,e2,e3⟩ |⟨ba,cap,arr,elem,cells,rest,Ha,e1,e2,e3,e4,e5,e6⟩
           ·simp only at e1
            subst e1;simp only [List.cons.injEq,and_true] at e3;rw [hvx,e3];obtain⟨v,G',w',f1,f2,f3,f4⟩:=Ej [a,b] rr (by simp) hnC hC hCb (fun c hc gU=>by
             simp only [List.mem_cons,List.not_mem_nil,or_false] at hc;rcases hc with rfl | rfl
             ·exact e2
             ·exact absurd rfl gU) NA
            exact⟨_,v,_,G',w',f1,f2,f3,f4,hK⟩
           ·simp only [List.cons.injEq,and_true] at e1
            rw [hvx,e1];obtain⟨jD,rfl⟩:=Cg NA;have e6:RepL (fY G.S true At) cells l Ha:=e6;have e4:cap * At.size≤arr.size:=e4;have e5:l.length≤cap:=e5;have ss:=hm.ah a _ jC rfl (ba,Obj.cells arr elem (0,0)) (by rw [e2];simp)
            have l7:cells.length=l.length * At.size:=RepL.size (fun c x H hr=>fY.size hr) e6;have acA:=hm.nd a _ jC rfl;have WJ:=acA;rw [e2,List.map_cons,List.nodup_cons] at WJ;rcases Nat.eq_zero_or_pos m.length with hm0 | vj
            ·have hm0:m = []:=List.eq_nil_of_length_eq_zero hm0
             subst hm0;rw [List.append_nil] at hK;obtain⟨xb,xc,aeb⟩:∃ xb xc,vy = .slice xb 0 xc:=by
              rcases qN with ⟨_,_,e⟩ |⟨bb,cap,_,_,_,_,_,e,_⟩
              ·exact⟨_,_,e⟩
              ·exact⟨_,_,e⟩
             obtain⟨G',m',r',hv,_⟩:=hm.sX (w':=w) (dst:=dst) (C:=[a,b]) (A':=⟨At,.bP,false,l⟩) (hd:=.slice (some ⟨ba,0,none⟩) l.length cap) (HH:=G.HA a) (st':={st with cI:=(dst,⟨At,.bP,false,l⟩) :: kM [a,b] st.cI}) hC rfl rfl
              (.inr ⟨ba,cap,arr,elem,cells,rest,Ha,rfl,e2,e3,e4,e5,e6⟩) acA (fun p hp=>.inl ⟨a,by simp,p,hp,rfl⟩) (fun p hp=>(low abu p hp).2) (fun _ _ _=>rfl) (Nat.le_refl _) rfl rfl rfl (qI.cI _ _) (wQ hCb) J5 y4
             exact⟨_,_,_,G',w,by rw [aeb];exact ot hu i1 _ _ _ _ _ e5,m',r',hv,hK⟩
            ·rcases qN with ⟨hm0,_,_⟩ |⟨bb,abT,aeO,aeE,news,aeF,Hb,rfl,hHb,zN,sd⟩
             ·rw [hm0] at vj;simp at vj
             have WK:=hm.nd b _ Nw rfl;rw [hHb,List.map_cons,List.nodup_cons] at WK;have inB:∀ p∈Hb,p∈G.HA b:=fun p hp=>by rw [hHb];exact List.mem_cons_of_mem _ hp
             have inA:∀ p∈Ha,p∈G.HA a:=fun p hp=>by rw [e2];exact List.mem_cons_of_mem _ hp
             have Z2:((Ha ++ Hb).map (·.1)).Nodup:=by rw [List.map_append,List.nodup_append];refine⟨WJ.2,WK.2,fun x1 h1 x2 h2 e=>?_⟩;obtain⟨p,hp,rfl⟩:=List.mem_map.1 h1;obtain⟨p',zf,rfl⟩:=List.mem_map.1 h2;exact ZQ p (inA p hp) p' (inB p' zf) e
             have Xd:∀ p∈Ha ++ Hb,p.1 < w.heap.size∧w.heap[p.1]? = some p.2:=fun p hp=>by
              rcases List.mem_append.1 hp with hp | hp
              ·exact low abu p (inA p hp)
              ·exact low Xy p (inB p hp)
             have Ws:∀ p∈Ha ++ Hb,∃ c∈[a,b],∃ q∈G.HA c,q.1=p.1:=fun p hp=>by
              rcases List.mem_append.1 hp with hp | hp
              ·exact⟨a,by simp,p,inA p hp,rfl⟩
              ·exact⟨b,by simp,p,inB p hp,rfl⟩
             by_cases Lj:l.length + m.length≤cap
             ·have vY:0 + l.length * i.size + news.length≤arr.size:=by
               rw [O5 zN,Nat.zero_add,←Nat.add_mul,i3,q1];exact Nat.le_trans (Nat.mul_le_mul_right _ Lj) e4
              have hth:=An ss vY;have it:=run_append_room_cells (P:=P) w T ty e i hu i1 ba 0 l.length cap ⟨bb,0,none⟩ m.length abT news (O5 zN) sd (RepL.one (fun c x H hr=>fY.one hr) zN) Lj
               (fun j hj=>(hth j hj).1) (fun j hj=>(hth j hj).2)
              obtain⟨arr',g1,g2,g3,g4,g5,g6,g7⟩:=nM ba news (0 + l.length * i.size) w ss vY;have OZ:arr'.toList=(cells ++ news) ++ arr.toList.drop (0 + l.length * i.size + news.length):=by
               rw [g2];have:arr.toList.take (0 + l.length * i.size)=cells:=by rw [e3,Nat.zero_add,i3,q1,←l7];simp
               rw [this];simp
              have WS:arr'.size=arr.size:=by rw [←Array.length_toList,g2];simp;omega
              have gU:∀ p∈Ha ++ Hb,p.1≠ba:=fun p hp e=>by
               rcases List.mem_append.1 hp with hp | hp
               ·exact WJ.1 (by show ba∈_;rw [←e];exact List.mem_map_of_mem (f:=(·.1)) hp)
               ·exact ZQ (ba,Obj.cells arr elem (0,0)) (by rw [e2];simp) p (inB p hp) e.symm
              obtain⟨G',m',r',hv,_⟩:=hm.sX (w':=w.setCells ba (0 + l.length * i.size) news) (dst:=dst) (C:=[a,b]) (A':=⟨At,.bP,false,l ++ m⟩) (hd:=.slice (some ⟨ba,0,none⟩) (l ++ m).length cap) (HH:=(ba,Obj.cells arr' elem (0,0)) :: (Ha ++ Hb)) (st':={st with cI:=(dst,⟨At,.bP,false,l ++ m⟩) :: kM [a,b] st.cI}) hC rfl rfl
               (.inr ⟨ba,cap,arr',elem,cells ++ news,_,Ha ++ Hb,rfl,rfl,OZ,by rw [WS];exact e4,by simpa using Lj,e6.append zN⟩)
               (by
                rw [List.map_cons,List.nodup_cons];refine⟨fun gT=>?_,Z2⟩;obtain⟨p,hp,e⟩:=List.mem_map.1 gT;exact gU p hp e)
               (fun p hp=>by
                rcases List.mem_cons.1 hp with rfl | hp
                ·exact .inl ⟨a,by simp,(ba,Obj.cells arr elem (0,0)),by rw [e2];simp,rfl⟩
                ·exact .inl (Ws p hp))
               (fun p hp=>by
                rcases List.mem_cons.1 hp with rfl | hp
                ·exact g1
                ·rw [g3 _ (gU p hp)];exact(Xd p hp).2)
               (fun k hk hn=>g3 k fun e=>hn a (by simp) (ba,Obj.cells arr elem (0,0)) (by rw [e2];simp) e.symm) (by rw [g4];exact Nat.le_refl _) g5 g6 g7 (qI.cI _ _) (wQ hCb) J5 y4
              simp only [List.length_append] at hv;exact⟨_,_,_,G',_,it,m',r',hv,hK⟩
             ·have holds:∀ j u,cells[j]? = some u→w.cell? ((⟨ba,0,none⟩:Addr).add j)=some u:=fun j u hj=>by
               rw [Addr.add_mid];exact nO (pre:=[]) ss (by simpa using e3) rfl j u hj
              have hby:(l.length + m.length) * i.bytes≤140737488355328:=by
               have:(l.length + m.length) * i.bytes≤4294967296 * 16384:=Nat.mul_le_mul jD (by rw [i4];exact q2)
               omega
              have vY:=growslice_fits (need:=l.length + m.length) (old:=cap) (bytes:=i.bytes) (by omega) hby
              have it:=run_append_grow (P:=P) w T ty e i zz hu i1 i5 ⟨ba,0,none⟩ l.length cap cells (by rw [l7,i3,q1]) holds ⟨bb,0,none⟩ m.length abT news (O5 zN) sd (by omega) (by omega) vY
              have JF:=grownCap_ge w (l.length + m.length) cap e;let blk:Obj:=.cells (cells.toArray ++ news.toArray ++ Builtin.zeroCells zz.cells (grownCap w (l.length + m.length) cap e - (l.length + m.length))) e (0,0);have Gz:j9 (RepL (fY G.S true At)) At.size [.slice (some ⟨w.heap.size,0,none⟩) (l ++ m).length (grownCap w (l.length + m.length) cap e)] (l ++ m) ((w.heap.size,blk) :: (Ha ++ Hb)):=
               .inr ⟨w.heap.size,grownCap w (l.length + m.length) cap e,_,e,cells ++ news,(Builtin.zeroCells zz.cells (grownCap w (l.length + m.length) cap e - (l.length + m.length))).toList,Ha ++ Hb,rfl,rfl,by simp,by
                rw [Array.size_append,Array.size_append,size_zeroCells,hzs,List.size_toArray,List.size_toArray,O5 zN,l7,i3,q1,←Nat.add_mul,←Nat.add_mul];exact Nat.mul_le_mul_right _ (by omega),by simpa using JF,e6.append zN⟩
              obtain⟨G',m',r',hv,_⟩:=hm.drew.sX (w':=w.drew.alloc blk) (dst:=dst) (C:=[a,b]) (A':=⟨At,.bP,false,l ++ m⟩) (hd:=.slice (some ⟨w.heap.size,0,none⟩) (l ++ m).length (grownCap w (l.length + m.length) cap e)) (HH:=(w.heap.size,blk) :: (Ha ++ Hb))
               (st':={st with cI:=(dst,⟨At,.bP,false,l ++ m⟩) :: kM [a,b] st.cI}) hC rfl rfl Gz
               (by
                rw [List.map_cons,List.nodup_cons];refine⟨fun gT=>?_,Z2⟩;obtain⟨p,hp,e⟩:=List.mem_map.1 gT;have:=(Xd p hp).1;simp only at e;omega)
               (fun p hp=>by
                rcases List.mem_cons.1 hp with rfl | hp
                ·exact .inr (Nat.le_refl _)
                ·exact .inl (Ws p hp))
               (fun p hp=>by
                rcases List.mem_cons.1 hp with rfl | hp
                ·exact tZ w.drew _
                ·have:=Xd p hp
                 rw [iI w.drew _ this.1];exact this.2)
               (fun b hb _=>iI w.drew _ hb) (by rw [rS];exact Nat.le_succ _) rfl rfl rfl (qI.cI _ _) (wQ hCb) J5 y4
              simp only [List.length_append] at hv;exact⟨_,_,_,G',_,it,m',r',hv,hK⟩
       |_=>simp at h
     ·cases h
   ·cases h
 ·cases h
theorem Pq{st:St}{G:Gh}{T ty:TypeId}{dst:Nat}{x y:ae}{vx vy:Value}{K:ae→St→Option R}(h:qw E T dst x y st K=some r)(hm:aB X st G w)(hx:aT G x vx)(hy:aT G y vy)(hwx:EX st x)(hwy:EX st y):
  ∃ av v st' G' w',(Builtin.append_ #[T,T] ty #[vx,vy]).run P w = .ok v w'∧aB X st' G' w'∧(∀ act,bI G st act→bI G' st' act)∧aT G' av v∧K av st' = some r:=by
 unfold qw at h;split at h
 ·rename_i b hb
  unfold Wf at hb;split at hb
  ·rename_i b' hl
   have hye:y = .one (.mq b'):=by cases y<;>simp [ae.bJ] at hl;rw [hl]
   split at hb
   ·rename_i B hB
    cases hc:(!B.sh && Md.kX B.md .bP) with
    |false=>simp [hc] at hb
    |true=>simp only [hc,cond_true,Option.some.injEq] at hb;subst hb;rw [hye] at hy;exact Pp hE h hm hx hy
   ·cases hb
  ·cases hb
 ·split at h
  ·rename_i a v sz i off hl
   have NC:x = .one (.Dt a v sz i off):=by cases x<;>simp [ae.bJ] at hl;rw [hl]
   cases hc:(Nat.beq v (st.dy a) && Nat.blt off sz && PQ st a sz) with
   |false=>rw [hc] at h;cases h
   |true=>
    rw [hc,cond_true] at h;simp only [Bool.and_eq_true] at hc;obtain⟨⟨hv,Vc⟩,mw⟩:=hc;obtain rfl:=Nat.eq_of_beq_eq_true hv;rw [Nat.blt_eq] at Vc;unfold PQ at mw;split at mw
    ·rename_i A hA
     obtain rfl:=Nat.eq_of_beq_eq_true mw;obtain⟨s1,G1,O,h⟩:=Pz h hm;obtain⟨b1,b2,b3,b4,b5,b6,b7⟩:=O.iH;have aba:s1.dy a=st.dy a:=by simp only [St.dy,b7]
     have ht:∀ off u,off < A.t.size→uE G1 a (st.dy a) A.t.size i off u→u=G1.ψ (JM a (st.dy a) off):=fun off u ho hu=>O.Zz A off u hA ho hu;obtain⟨m2,h⟩:=Sa h O.Ew (by rw [aba];exact ht)
     generalize hs2:({s1 with b9:=(pu s1.b9 []).map fun p=>(p.1,p.2.map (qg a (s1.dy a) A.t.size))}:St)=s2 at m2 h
     have hx1:aT G1 (.one (.mq (JM a (st.dy a) off))) vx:=by have:=O.val x vx hwx hx;rw [NC] at this;exact ht off vx Vc this
     obtain⟨av,v,st',G',w',k1,k2,k3,k4,k5⟩:=IX hE (ty:=ty) h m2 hx1 (O.val y vy hwy hy);refine⟨av,v,st',G',w',k1,k2,fun act ra=>k3 act ?_,k4,k5⟩;have r1:=O.et act ra;rw [←hs2];exact⟨r1.1,r1.2.1,r1.2.2⟩
    ·cases mw
  ·exact IX hE h hm hx hy
theorem Hl{S:Ce}:∀{t:Ty} {d:t.mZ} {cs:List Value} {H:fZ} {off:Nat} {n:Int},t.rm=true→fY S true t cs d H→BF t d off=some n→∃ b k c,cs[off]? = some (.slice b k c)∧n=(k:Int)
 |.slice u,d,cs,H,off,n,_,h,hn=>by
  cases off with
  |succ k=>simp [BF] at hn
  |zero=>
   simp only [BF,Option.some.injEq] at hn;rcases h with ⟨e1,_,e⟩ |⟨b,cap,arr,elem,cells,rest,H',e,_⟩
   ·subst e;exact⟨none,0,0,rfl,by rw [←hn,e1];rfl⟩
   ·subst e;exact⟨_,_,_,rfl,hn.symm⟩
 |.cX a b,d,cs,H,off,n,hna,h,hn=>by
  simp only [Ty.rm,Bool.and_eq_true] at hna;obtain⟨c1,c2,H1,H2,rfl,rfl,h1,h2⟩:=h;have hl:=fY.size h1;simp only [BF] at hn;cases hb:Nat.blt off a.size with
  |true=>simp only [hb,cond_true] at hn;rw [Nat.blt_eq] at hb;obtain⟨bb,k,c,g1,g2⟩:=Hl hna.1 h1 hn;exact⟨bb,k,c,by rw [List.getElem?_append_left (by omega)];exact g1,g2⟩
  |false=>
   simp only [hb,cond_false] at hn;have hb:¬ off < a.size:=fun h=>by
    have:Nat.blt off a.size=true:=by rw [Nat.blt_eq];exact h
    rw [this] at hb;cases hb
   obtain⟨bb,k,c,g1,g2⟩:=Hl hna.2 h2 hn;exact⟨bb,k,c,by rw [List.getElem?_append_right (by omega),hl];exact g1,g2⟩
 |.one a,d,cs,H,off,n,hna,h,hn=>by exact Hl (t:=a) hna h hn
 |.int _,_,_,_,off,_,_,_,hn=>by cases off<;>simp [BF] at hn
 |.bool,_,_,_,off,_,_,_,hn=>by cases off<;>simp [BF] at hn
 |.str,_,_,_,off,_,_,_,hn=>by cases off<;>simp [BF] at hn
 |.arr _ _,_,_,_,_,_,hna,_,_=>by cases hna
end ops
end Go.Fx
namespace Go.Fx
def IG(e:MapEntry)(p:ao×Int):Prop:=e.key=ke p.1∧e.val = .int .i64 p.2
theorem KT{S:Ce}:∀{es:List MapEntry} {l:List (ao×Int)} {H:fZ},RepL (fY S false mpT) (es.flatMap fun e=>[e.key,e.val]) l H→All2 IG es l
 |[],[],_,_=>trivial
 |[],p :: l,H,⟨c1,c2,H1,H2,e1,_,r,_⟩=>by have:=fY.size r;have e:c1 = []:=(List.append_eq_nil_iff.1 e1.symm).1;rw [e] at this;cases this
 |e :: es,[],H,h=>by cases h.1
 |e :: es,p :: l,H,⟨c1,c2,H1,H2,e1,_,r,rl⟩=>by obtain⟨d1,d2,K1,K2,rfl,_,r1,r2⟩:=r;have h1:d1 = [ke p.1]:=r1.1;have h2:d2 = [.int .i64 p.2]:=r2.1;subst h1 h2;simp only [List.flatMap_cons,List.cons_append,List.nil_append,List.cons.injEq] at e1;obtain⟨g1,g2,rfl⟩:=e1;exact⟨⟨g1,g2⟩,KT rl⟩
theorem L0{S:Ce}:∀{es:List MapEntry} {l:List (ao×Int)},All2 IG es l→RepL (fY S false mpT) (es.flatMap fun e=>[e.key,e.val]) l []
 |[],[],_=>⟨rfl,rfl⟩
 |e :: es,p :: l,h=>by refine⟨[e.key,e.val],_,[],[],rfl,rfl,⟨[ke p.1],[.int .i64 p.2],[],[],?_,rfl,⟨rfl,rfl⟩,⟨rfl,rfl⟩⟩,L0 h.2⟩;rw [h.1.1,h.1.2];rfl
 |[],_ :: _,h=>h.elim
 |_ :: _,[],h=>h.elim
theorem Yf{a b:ao}(h:ke a=ke b):a=b:=by simp only [ke,Value.string.injEq,ByteArray.mk.injEq] at h;exact List.toArray_inj h
theorem X7(a b:ao):Instr.sameNow .string (ke a) (ke b)=some (decide (b=a)):=by
 obtain⟨r,h1,h2⟩:=MapKept.sameNow_of_keys (d:=.string) (a:=ke a) (b:=ke b) trivial trivial;rw [h1];congr 1
 by_cases e:b=a
 ·subst e;simp [h2.2 rfl]
 ·have:r≠true:=fun hr=>e (Yf (h2.1 hr)).symm
  simp [e,this]
theorem H0{s:ao}:∀{es:List MapEntry} {l:List (ao×Int)} {i:Nat},All2 IG es l→
  (Instr.findNow .string (ke s) es i=some none∧p7 l s=0∧∀ v,qu l s v=l ++ [(s,v)])∨
  ∃ j v e,Instr.findNow .string (ke s) es i=some (some (i + j,.int .i64 v))∧p7 l s=v∧es[j]? = some e∧e.key=ke s∧∀ u,qu l s u=l.set j (s,u)
 |[],[],i,_=>.inl ⟨rfl,rfl,fun _=>rfl⟩
 |e :: es,p :: l,i,h=>by
  obtain⟨⟨hk,hv⟩,ht⟩:=h;have hs:=X7 s p.1;rw [←hk] at hs;by_cases hp:p.1=s
  ·simp only [hp,decide_true] at hs
   exact .inr ⟨0,p.2,e,by simp [Instr.findNow,hs,hv],by simp [p7,hp],rfl,by rw [hk,hp],fun u=>by simp [qu,hp]⟩
  ·simp only [hp,decide_false] at hs
   rcases H0 (s:=s) (i:=i + 1) ht with ⟨h1,h2,h3⟩ |⟨j,v,e',h1,h2,h3,h4,h5⟩
   ·exact .inl ⟨by simp [Instr.findNow,hs,h1],by simp [p7,hp,h2],fun v=>by simp [qu,hp,h3]⟩
   ·exact .inr ⟨j + 1,v,e',by simp [Instr.findNow,hs,h1];omega,by simp [p7,hp,h2],by simpa using h3,h4,fun u=>by simp [qu,hp,h5]⟩
 |[],_ :: _,_,h=>h.elim
 |_ :: _,[],_,h=>h.elim
theorem YD{es:List MapEntry}{l:List (ao×Int)}(h:All2 IG es l){j:Nat}{e:MapEntry}{p:ao×Int}(he:IG e p):All2 IG (es.set j e) (l.set j p):=by
 induction es generalizing l j with
 |nil=>cases l with
  |nil=>simp [All2]
  |cons=>exact h.elim
 |cons x es ih=>cases l with
  |nil=>exact h.elim
  |cons y l=>
   cases j with
   |zero=>exact⟨he,h.2⟩
   |succ j=>exact⟨h.1,ih h.2⟩
section ops
variable {P:Program} {E:rQ} (hE:iy P E.ir) {X:mo} {st:St} {G:Gh} {w:World} {R:Type} {r:R}
include hE
theorem T1{T:TypeId}(h:IW E T=true):∃ k v j,P.underlying T=some (.map k v)∧P.underlying k=some .string∧P.underlying v=some (.int .i64)∧P.info? v=some j∧j.zero=some (.int .i64 0):=by
 unfold IW at h;split at h
 ·rename_i s b y k v z hT
  obtain⟨i,d,zz,i1,i2,i3,i4,i5,i6,i7,i8,i9,i10,i11⟩:=hE T _ hT;obtain⟨j1,j2,j,j3,j4⟩:=i11 k v rfl;cases d with
  |map k' v'=>obtain⟨rfl,rfl⟩:=i7;exact⟨k,v,j,i2,j1,j2,j3,j4⟩
  |_=>exact i7.elim
 ·cases h
theorem Pt{T:TypeId}{dst:Nat}{K:ae→St→Option R}(h:qx E T dst st K=some r)(hm:aB X st G w):
  ∃ av v st' G' w',(Instr.makeMap T none).run P w = .ok v w'∧aB X st' G' w'∧(∀ act,bI G st act→bI G' st' act)∧aT G' av v∧K av st' = some r:=by
 unfold qx at h;split at h
 ·rename_i ha
  cases hc:(IW E T && !st.cY true dst) with
  |false=>rw [hc] at h;cases h
  |true=>
   rw [hc,cond_true] at h;simp only [Bool.and_eq_true,Bool.not_eq_true'] at hc;obtain⟨G2,m2,r2,hv2,_⟩:=hm.Lq (w':=w.alloc (.map #[] 0)) (dst:=dst) (C:=[]) (A':=⟨mpT,.mp,false,[]⟩) (hd:=.map (some w.heap.size)) (HH:=[(w.heap.size,.map #[] 0)])
    (st':=st.gF dst ⟨mpT,.mp,false,[]⟩) (fun c hc=>by cases hc) rfl (.inr (.inl ⟨_,rfl⟩)) (fun G' e1 e2 e3=>⟨w.heap.size,#[],0,e2,e3,rfl,rfl⟩) (by simp)
    (fun p hp=>by rw [List.mem_singleton.1 hp];exact .inr (Nat.le_refl _)) (fun p hp=>by rw [List.mem_singleton.1 hp];exact tZ w _)
    (fun b hb _=>iI w _ hb) (by rw [rS];omega) rfl rfl rfl ⟨rfl,fun _=>rfl,fun _=>rfl,fun o j l=>by simp,rfl,rfl,rfl⟩
    (fun q=>by rw [dD];by_cases e:dst=q<;>simp [e,eq_comm (a:=q)]) ha hc.2
   exact⟨_,_,_,G2,_,rfl,m2,r2,hv2,h⟩
 ·cases h
theorem Xl{a:Nat}{A:jB}(hm:aB X st G w)(hA:st.arr a=some A)(hs:A.sh=false)(uc:A.md = .mp){l:List (ao×Int)}(hc:uJ (.slice A.t) (.slice mpT) A.l=some l):
  ∃ b es wU,G.ψ a = .map (some b)∧G.HA a = [(b,Obj.map es wU)]∧w.heap[b]? = some (.map es wU)∧All2 IG es.toList l:=by
 obtain⟨ety,hl⟩:=lk hc;obtain⟨At,Amd,Ash,Al⟩:=A;simp only [Ty.slice.injEq] at ety;subst ety;simp only at hl hs uc;subst hl hs uc;obtain⟨b,es,wU,e1,e2,e3⟩:=hm.ar a _ hA;have ss:=hm.ah a _ hA rfl (b,Obj.map es wU) (by rw [e2];simp)
 exact⟨b,es,wU,e1,e2,ss,KT e3⟩
theorem Ry{T:TypeId}{x k:ae}{vx vk:Value}{K:ae→St→Option R}(h:te E T x k st K=some r)(hm:aB X st G w)(hx:aT G x vx)(hk:aT G k vk):
  ∃ av v,(Instr.lookup T vx vk false).run P w = .ok v w∧aT G av v∧K av st=some r:=by
 unfold te at h;split at h
 ·rename_i a s hl hs
  have NC:x = .one (.mq a):=by cases x<;>simp [ae.bJ] at hl;rw [hl]
  rw [NC] at hx;have hx:vx=G.ψ a:=hx;cases BG hs hk;split at h
  ·rename_i A hA
   cases hc:(IW E T && !A.sh && Md.kX A.md .mp) with
   |false=>rw [hc] at h;cases h
   |true=>
    rw [hc,cond_true] at h;simp only [Bool.and_eq_true,Bool.not_eq_true'] at hc;obtain⟨⟨hT,dm⟩,uc⟩:=hc;split at h
    ·rename_i l l7
     obtain⟨kt,vt,j,u1,u2,u3,u4,u5⟩:=T1 hE hT;obtain⟨b,es,wU,e1,e2,e3,e4⟩:=Xl hE hm hA dm (Md.vV uc) l7;have Fl:∀ em,(Instr.checkKey em 10000 kt (ke s)).run P w = .ok () w:=fun em=>MapKept.run_checkKey u2 (k:=ke s) trivial em 9999;rcases H0 (s:=s) (i:=0) e4 with ⟨h1,h2,_⟩ |⟨j',v,e,h1,h2,_⟩
     ·refine⟨_,.int .i64 (p7 l s),?_,kz _ _,h⟩
      rw [hx,e1,h2];simp [Instr.lookup,run_underlying u1,MapKept.run_getObj_map e3,Fl,MapKept.run_findKey u2 h1,zeroValue,typeInfo,u4,u5,Result.andThen]
     ·refine⟨_,.int .i64 (p7 l s),?_,kz _ _,h⟩
      rw [hx,e1,h2];simp [Instr.lookup,run_underlying u1,MapKept.run_getObj_map e3,Fl,MapKept.run_findKey u2 h1,Result.andThen]
    ·cases h
  ·cases h
 ·cases h
theorem LP{T:TypeId}{x k v:ae}{vx vk vv:Value}{K:ae→St→Option R}(h:nD E T x k v st K=some r)(hm:aB X st G w)(hx:aT G x vx)(hk:aT G k vk)(hv:aT G v vv):
  ∃ st' G' w',(Instr.mapUpdate T vx vk vv).run P w = .ok () w'∧aB X st' G' w'∧(∀ act,bI G st act→bI G' st' act)∧K (.one .uB) st' = some r:=by
 unfold nD at h;split at h
 ·rename_i a s n hl hs hn
  have NC:x = .one (.mq a):=by cases x<;>simp [ae.bJ] at hl;rw [hl]
  rw [NC] at hx;have hx:vx=G.ψ a:=hx;cases BG hs hk;cases pW hn hv;split at h
  ·rename_i A hA
   cases hc:(IW E T && !A.sh && Md.kX A.md .mp) with
   |false=>rw [hc] at h;cases h
   |true=>
    rw [hc,cond_true] at h;simp only [Bool.and_eq_true,Bool.not_eq_true'] at hc;obtain⟨⟨hT,dm⟩,uc⟩:=hc;split at h
    ·rename_i l l7
     obtain⟨kt,vt,j,u1,u2,u3,u4,u5⟩:=T1 hE hT;have jC:=ri hA;obtain⟨b,es,wU,e1,e2,e3,e4⟩:=Xl hE hm jC dm (Md.vV uc) l7;have Fl:∀ em,(Instr.checkKey em 10000 kt (ke s)).run P w = .ok () w:=fun em=>MapKept.run_checkKey u2 (k:=ke s) trivial em 9999;have aee:∃ es' HU,(Instr.mapUpdate T (.map (some b)) (ke s) (.int .i64 n)).run P w = .ok () {w with heap:=w.heap.setIfInBounds b (.map es' HU)}∧All2 IG es'.toList (qu l s n):=by
      rcases H0 (s:=s) (i:=0) e4 with ⟨h1,_,h3⟩ |⟨j',u,e,h1,_,h3,h4,h5⟩
      ·refine⟨es.push {key:=ke s,val:=.int .i64 n,born:=wU},wU + 1,?_,?_⟩
       ·simp [Instr.mapUpdate,run_underlying u1,MapKept.run_getObj_map e3,Fl,MapKept.run_findKey u2 h1,MapKept.run_setObj_map _ e3,Result.andThen]
       ·rw [h3,Array.toList_push]
        exact e4.append ⟨⟨rfl,rfl⟩,trivial⟩
      ·refine⟨es.modify j' fun e=>{e with key:=ke s,val:=.int .i64 n},wU,?_,?_⟩
       ·rw [Nat.zero_add] at h1
        have adX:((es[j']?).map (·.key)).getD (ke s)=ke s:=by rw [←Array.getElem?_toList,h3];exact h4
        have wa:(Instr.keyThatStays (ke s) (ke s)).run P w = .ok (ke s) w:=MapKept.run_keyThatStays (d:=.string) (k:=ke s) trivial;simp only [Instr.mapUpdate,Sem.run_bind,run_underlying u1,Result.andThen_ok,MapKept.run_getObj_map e3,Fl,MapKept.run_findKey u2 h1,adX,wa,MapKept.run_setObj_map _ e3]
       ·rw [h5]
        have:(es.modify j' fun e=>{e with key:=ke s,val:=.int .i64 n}).toList=es.toList.set j' {e with key:=ke s,val:=.int .i64 n}:=by
         apply List.ext_getElem?;intro i;rw [Array.getElem?_toList,Array.getElem?_modify,List.getElem?_set];by_cases hi:j' = i
         ·subst hi
          have bq:=(List.getElem?_eq_some_iff.1 h3).1;rw [Array.getElem?_toList] at h3;simp only [if_true,h3,Option.map_some,bq]
         ·simp only [hi,if_false,Array.getElem?_toList]
        rw [this];exact YD e4 ⟨rfl,rfl⟩
     obtain⟨es',HU,it,adP⟩:=aee;obtain⟨hs1,hs2⟩:=MapKept.heap_set (o':=.map es' HU) e3;let G1:Gh:={G with HA:=fun q=>if q=a then [(b,Obj.map es' HU)] else G.HA q}
     have MF:eU G st (true,a) b:=⟨⟨A,jC,dm⟩,(b,Obj.map es wU),by rw [e2];simp,rfl⟩
     have Ml:vb X st (st.gF a ⟨mpT,.mp,false,qu l s n⟩) G G1 w {w with heap:=w.heap.setIfInBounds b (.map es' HU)} (fun y=>y=(true,a)) (fun y=>y=(true,a)) []:=by
      refine {
           n:=rfl,ib:=fun _=>rfl,bl:=rfl,pn:=rfl,S:=rfl,bJ:=fun lf v _ hr=>aX.leF (G:=G) (G':=G1) (F:=[]) (fun _ _ h=>h) (fun _ _=>⟨rfl,rfl⟩) (fun q _=>⟨rfl,Nat.le_refl _,fun _ _=>rfl⟩) (by simp) hr,fm:=fun y hy=>(by cases hy),sl:=hm.sl,dJ:=fun q ls hq=>.inr ⟨by simp,by simp,hq,rfl,rfl,rfl⟩,arr:=fun q B hq=>?_,
           oW:=fun y c hy hyo=>?_,pO:=fun y z c hy hz _ _=>hy.trans hz.symm,hv:=hm.hv,old:=fun c hc hn=>hs2 c fun e=>hn (true,a) rfl (by rw [e];exact MF),sz:=by simp,os:=rfl,tp:=rfl,out:=rfl,S7:=fun q ls hq _=>⟨hq,by simp⟩,S6:=fun q B hp hq=>⟨?_,rfl⟩}
      ·rw [dD] at hq
       by_cases e:a=q
       ·subst e
        simp only [if_true,Option.some.injEq] at hq;subst hq;refine .inl ⟨rfl,⟨b,es',HU,e1,by simp [G1],L0 adP⟩,fun _=>⟨fun p hp=>?_,by simp [G1],fun gU=>by simp [jB.nest] at gU⟩⟩
        simp only [G1,if_true,List.mem_singleton] at hp;rw [hp];exact hs1
       ·simp only [e,if_false] at hq
        have gU:q≠a:=fun h=>e h.symm;exact .inr ⟨by simp [gU],hq,rfl,by simp [G1,gU],fun _=>by simp [gU],rfl,fun _ _ _=>⟨rfl,rfl,rfl⟩⟩
      ·subst hy
       obtain⟨_,p,hp,rfl⟩:=hyo;simp only [G1,if_true,List.mem_singleton] at hp;exact .inl ⟨(true,a),rfl,by rw [hp];exact MF⟩
      ·rw [dD]
       by_cases e:a=q
       ·exact⟨_,by rw [if_pos e]⟩
       ·exact⟨B,by rw [if_neg e];exact hq⟩
     exact⟨_,G1,_,by rw [hx,e1];exact it,Ml.ok hm,fun act=>Ml.et,h⟩
    ·cases h
  ·cases h
 ·cases h
theorem Qz{S:Ce}{m:Bool}{t:Ty}:∀(n:Nat) {l r:List Value},KM (sC t) n l=some r→∃ c,l=c ++ r∧RepL (fY S m t) c (List.replicate n (py t)) []
 |0,l,r,h=>by simp only [KM,Option.some.injEq] at h;subst h;exact⟨[],rfl,rfl,rfl⟩
 |n + 1,l,r,h=>by
  simp only [KM] at h;cases h1:sC t l with
  |none=>simp [h1] at h
  |some q=>simp only [h1] at h;obtain⟨c1,e1,g1⟩:=DF (S:=S) (m:=m) h1;obtain⟨c2,e2,g2⟩:=Qz n h;exact⟨c1 ++ c2,by rw [e1,e2];simp,c1,c2,[],[],rfl,rfl,g1,g2⟩
theorem Rr{T:TypeId}{dst:Nat}{K:ae→St→Option R}(h:ro E T dst st K=some r)(hm:aB X st G w){cs:Array Value}(hz:∀ ti,E.ir T=some ti→cs.toList=ti.zero):
  ∃ av st' G',aB X st' G' (w.alloc (.cells cs T))∧(∀ act,bI G st act→bI G' st' act)∧aT G' av (.pointer (some ⟨w.heap.size,0,none⟩))∧K av st' = some r:=by
 unfold ro at h;split at h
 ·rename_i ti hT ha
  split at h
  ·rename_i m e hd
   split at h
   ·rename_i t ht
    cases hc:(Nat.beq t.size 1 && !t.agg && !st.cY true dst && W0 (KM (sC t) ti.size ti.zero)) with
    |false=>rw [hc] at h;cases h
    |true=>
     rw [hc,cond_true] at h;have La:=hc;simp only [Bool.and_eq_true,Bool.not_eq_true'] at La;obtain⟨⟨⟨h1,h2⟩,h3⟩,h4⟩:=La;have WU:RepL (fY G.S false t) cs.toList (List.replicate ti.size (py t)) []:=by
      cases hcz:KM (sC t) ti.size ti.zero with
      |none=>rw [hcz] at h4;cases h4
      |some q=>
       cases q with
       |cons=>rw [hcz] at h4;cases h4
       |nil=>obtain⟨c,e1,g1⟩:=Qz hE (S:=G.S) (m:=false) ti.size hcz;rw [List.append_nil] at e1;rw [hz ti hT,e1];exact g1
     obtain⟨G2,m2,r2,hv2,_⟩:=hm.Lq (w':=w.alloc (.cells cs T)) (dst:=dst) (C:=[]) (A':=⟨t,.arr,false,List.replicate ti.size (py t)⟩) (hd:=.pointer (some ⟨w.heap.size,0,none⟩)) (HH:=[(w.heap.size,.cells cs T)])
      (st':=st.gF dst ⟨t,.arr,false,List.replicate ti.size (py t)⟩) (fun c hc=>by cases hc) rfl (.inr (.inr ⟨_,rfl⟩)) (fun G' e1 e2 e3=>⟨w.heap.size,cs,T,e2,e3,by rw [e1];exact WU⟩) (by simp)
      (fun p hp=>by rw [List.mem_singleton.1 hp];exact .inr (Nat.le_refl _)) (fun p hp=>by rw [List.mem_singleton.1 hp];exact tZ w _)
      (fun b hb _=>iI w _ hb) (by rw [rS];omega) rfl rfl rfl ⟨rfl,fun _=>rfl,fun _=>rfl,fun o j l=>by simp,rfl,rfl,rfl⟩
      (fun q=>by rw [dD];by_cases e:dst=q<;>simp [e,eq_comm (a:=q)]) ha h3
     exact⟨_,_,G2,m2,r2,hv2,h⟩
   ·cases h
  ·cases h
 ·cases h
end ops
end Go.Fx
namespace Go.Fx
theorem IL{S:Ce}{m:Bool}:∀{cs:List Value} {l:List Int} {H:fZ},RepL (fY S m (.int .u8)) cs l H→cs=l.map (Value.int .u8)
 |cs,[],H,h=>h.1
 |cs,x :: l,H,⟨c1,c2,H1,H2,e1,e2,r,rl⟩=>by rw [e1,IL rl,show c1 = [.int .u8 x] from r.1];rfl
theorem U7(l:List Int):l.foldl (fun r n=>r.push (UInt8.ofNat n.toNat)) ByteArray.empty=⟨(l.map fun n=>UInt8.ofNat n.toNat).toArray⟩:=by
 have key:∀(l:List Int) (s:ByteArray),(l.foldl (fun r n=>r.push (UInt8.ofNat n.toNat)) s)=⟨(s.data.toList ++ l.map fun n=>UInt8.ofNat n.toNat).toArray⟩:=fun l=>by
  induction l with
  |nil=>intro s;simp
  |cons n l ih=>intro s;rw [List.foldl_cons,ih];simp [ByteArray.push]
 rw [key];simp
theorem N8{P:Program}{w:World}{S:Ce}{b:Nat}{arr:Array Value}{elem:TypeId}{fz:Nat×Nat}{pre cells rest:List Value}{l:List Int}{m:Bool}{H:fZ}(cap:Nat)
  (hb:w.heap[b]? = some (.cells arr elem fz)) (he:arr.toList=pre ++ (cells ++ rest)) (hr:RepL (fY S m (.int .u8)) cells l H):
  (Conv.bytesToString (.slice (some ⟨b,pre.length,none⟩) l.length cap)).run P w = .ok (ke (l.map fun n=>UInt8.ofNat n.toNat)) w:=by
 have hc:=IL hr;subst hc;have hl:=run_loadCells_list (P:=P) w ⟨b,pre.length,none⟩ (l.map (Value.int .u8)) (fun j v hv=>by
  rw [Addr.add_mid];simp only [World.cell?,hb];have hj:j < l.length:=by have:=(List.getElem?_eq_some_iff.1 hv).1;simpa using this
  have:arr[pre.length + j]? = some v:=by
   rw [←Array.getElem?_toList,he,List.getElem?_append_right (by omega),Nat.add_sub_cancel_left,List.getElem?_append_left (by simpa using hj)]
   exact hv
  simp [this])
 rw [List.length_map] at hl;rw [run_bytesToString w _ _ cap l (by simpa using hl),U7];rfl
theorem Qq{P:Program}{w:World}{S:Ce}(dm:∀ b o,S b=some o→w.heap[b]? = some o){v:Value}{l:List Int}(h:Ay S (RepL (fY S false (.int .u8))) [v] l []):
  ∃ a n c,v = .slice a n c∧(Conv.bytesToString v).run P w = .ok (ke (l.map fun n=>UInt8.ofNat n.toNat)) w:=by
 rcases h with ⟨_,⟨rfl,iH,cap,hb⟩ |⟨b,cap,arr,elem,fz,pre,cells,rest,e1,e2,e3,e4,e5⟩⟩
 ·simp only [List.cons.injEq,and_true] at hb
  subst hb;refine⟨_,_,_,rfl,?_⟩;cases iH with
  |none=>simp [Conv.bytesToString,ke];rfl
  |some a=>
   have hl:=run_loadCells_list (P:=P) w a [] (by simp)
   rw [run_bytesToString w a 0 cap [] (by simpa using hl)]
   rfl
 ·simp only [List.cons.injEq,and_true] at e1
  subst e1;exact⟨_,_,_,rfl,N8 cap (dm _ _ e2) e3 e4⟩
theorem UU{P:Program}{w:World}{S:Ce}{m:Bool}{v:Value}{l:List Int}{H:fZ}(hH:∀ p∈H,w.heap[p.1]? = some p.2)(h:j9 (RepL (fY S m (.int .u8))) 1 [v] l H):
  ∃ a n c,v = .slice a n c∧(Conv.bytesToString v).run P w = .ok (ke (l.map fun n=>UInt8.ofNat n.toNat)) w:=by
 rcases h with ⟨rfl,rfl,hb⟩ |⟨b,cap,arr,elem,cells,rest,H',e1,e2,e3,e4,e5,e6⟩
 ·simp only [List.cons.injEq,and_true] at hb
  subst hb;exact⟨_,_,_,rfl,by simp [Conv.bytesToString,ke];rfl⟩
 ·simp only [List.cons.injEq,and_true] at e1
  subst e1;subst e2;exact⟨_,_,_,rfl,N8 (pre:=[]) cap (hH _ (List.mem_cons_self ..)) (by simpa using e3) e6⟩
section ops
variable {P:Program} {E:rQ} (hE:iy P E.ir) {X:mo} {st:St} {G:Gh} {w:World} {R:Type} {r:R}
include hE
theorem GX{S D:TypeId}{x:ae}{vx:Value}{K:ae→St→Option R}(h:pt E S D x st K=some r)(hm:aB X st G w)(hx:aT G x vx):
  ∃ av v,(convert S D vx).run P w = .ok v w∧aT G av v∧K av st=some r:=by
 unfold pt at h;cases hS:E.ir S with
 |none=>simp [hS] at h
 |some si=>
  cases hD:E.ir D with
  |none=>simp [hS,hD] at h
  |some di=>
   simp only [hS,hD] at h;obtain⟨d1,u1,t1⟩:=(hE S _ hS).uB;obtain⟨d2,u2,t2⟩:=(hE D _ hD).uB;split at h
   ·rename_i k k' n hd
    rw [hd] at t2;cases d2<;>simp [xW] at t2;subst t2;cases pW (v:=.one (.eX (.int k') n)) rfl hx;refine⟨_,_,?_,kz k _,h⟩;cases d1<;>simp [convert,run_underlying u1,run_underlying u2,Conv.intToInt]
   ·rename_i s hs hd
    rw [hd] at t2;rw [hs] at t1;cases d2<;>simp [xW] at t2;cases d1<;>simp [xW] at t1;cases BG (v:=.one (.eX .str s)) rfl hx;exact⟨_,_,by simp [convert,run_underlying u1,run_underlying u2,ke],IA _,h⟩
   ·rename_i _ e lf hs hd
    rw [hd] at t2;rw [hs] at t1;cases d2<;>simp [xW] at t2;cases d1<;>simp [xW] at t1;subst t1;have r0:∀{l':List Int} {s b:Nat} {y:Option Ty} {z:List Value},E.ir e=some ⟨s,b,y,.int .u8,z⟩→(∃ a n c,vx = .slice a n c∧(Conv.bytesToString vx).run P w = .ok (ke (l'.map fun n=>UInt8.ofNat n.toNat)) w)→
      K (.one (.eX .str (l'.map fun n=>UInt8.ofNat n.toNat))) st=some r→∃ av v,(convert S D vx).run P w = .ok v w∧aT G av v∧K av st=some r:=fun {l' _ _ _ _} hT hb hK=>by
     obtain⟨d3,u3,t3⟩:=(hE _ _ hT).uB;cases d3<;>simp [xW] at t3;subst t3;obtain⟨a,n,c,rfl,it⟩:=hb;exact⟨_,_,by rw [run_convert_bytes_string w S D e a n c u1 u3 u2];exact it,IA _,hK⟩
    split at h
    ·rename_i l' hT
     obtain⟨cs,e1,e2⟩:=hx;simp only [Ty.agg,Bool.false_eq_true,if_false] at e1;subst e1;simp only [fY,Bool.false_eq_true,if_false] at e2;exact r0 hT (Qq hm.sh e2) h
    ·rename_i a hT
     cases hA:st.arr a with
     |none=>simp [hA] at h
     |some A=>
      simp only [hA] at h;cases hsw:(A.sh || A.oW) with
      |false=>simp [hsw] at h
      |true=>
      simp only [hsw,cond_true] at h;split at h
      ·rename_i l' hc
       obtain⟨ec,el⟩:=lk hc;have sb:=hm.ar a _ hA;have hv:vx=G.ψ a:=hx;rw [hv] at r0 ⊢;have hah:=hm.ah a _ hA;cases dm:A.sh with
       |true=>
        replace sb:=(wo dm).1 sb
        obtain⟨t,dp,sh,ll⟩:=A;simp only [Ty.slice.injEq] at ec;subst ec;simp only at el;subst el;exact r0 hT (Qq hm.sh sb) h
       |false=>
        replace sb:=(gS dm (by simpa [dm] using hsw)).1 sb
        replace hah:=hah dm
        generalize A.bP=dp at sb;obtain⟨t,_,sh,ll⟩:=A;simp only [Ty.slice.injEq] at ec;subst ec;simp only at el;subst el;exact r0 hT (UU hah sb) h
      ·cases h
    ·cases h
   ·cases h
theorem Kk{t:TypeId}{ts:List TypeId}{ty:TypeId}{v:Value}{vs:List Value}{s b:Nat}{y:Option Ty}{z:List Value}{e:TypeId}(hT:E.ir t=some ⟨s,b,y,.slice e,z⟩){a:Option Addr}{n c:Nat}(hv:v = .slice a n c):
  (Builtin.len_ (t :: ts).toArray ty (v :: vs).toArray).run P w = .ok (.int .i64 (n:Int)) w:=by
 have:=(hE _ _ hT).slice;subst hv;simp [Builtin.len_,run_underlying this];rfl
theorem Rx{x:ae}{n:Int}{v:Value}(h:lenOf st x.bJ=some n)(hs:x.L6 = none)(hm:aB X st G w)(hx:aT G x v):∃ a m c,v = .slice a m c∧n=(m:Int):=by
 cases x with
 |one l=>
  cases l with
  |eX t d=>
   cases t<;>simp [ae.bJ,lenOf,ae.L6] at h hs;subst h;obtain⟨cs,e1,e2⟩:=hx;simp only [Ty.agg,Bool.false_eq_true,if_false] at e1;subst e1;simp only [fY,Bool.false_eq_true,if_false] at e2;rcases e2 with ⟨_,⟨rfl,iH,cap,hb⟩ |⟨b,cap,arr,elem,fz,pre,cells,rest,e1,_⟩⟩
   ·simp only [List.cons.injEq,and_true] at hb;exact⟨_,_,_,hb,by simp⟩
   ·simp only [List.cons.injEq,and_true] at e1;exact⟨_,_,_,e1,rfl⟩
  |nil=>simp [ae.bJ,lenOf] at h;subst h;exact⟨_,_,_,hx,rfl⟩
  |mq a=>
   simp only [ae.bJ,lenOf] at h;cases hA:st.arr a with
   |none=>simp [hA] at h
   |some A=>
    cases hmp:A.SK with
    |true=>simp [hA,hmp] at h
    |false=>
    simp only [hA,hmp,cond_false,Option.some.injEq] at h;subst h;have sb:=hm.ar a A hA;have hv:v=G.ψ a:=hx;cases hs:A.sh with
    |true=>
     rcases(wo hs).1 sb with ⟨_,⟨e0,iH,cap,hb⟩ |⟨b,cap,arr,elem,fz,pre,cells,rest,e1,_⟩⟩
     ·simp only [List.cons.injEq,and_true] at hb;exact⟨_,_,_,hv.trans hb,by rw [e0];simp⟩
     ·simp only [List.cons.injEq,and_true] at e1;exact⟨_,_,_,hv.trans e1,rfl⟩
    |false=>
     rcases Gf hs hmp sb with ⟨e0,hb⟩ |⟨b,cap,e1⟩
     ·exact⟨_,_,_,hv.trans hb,by rw [e0];simp⟩
     ·exact⟨_,_,_,hv.trans e1,rfl⟩
  |_=>simp [ae.bJ,lenOf] at h
 |_=>simp [ae.bJ,lenOf] at h
omit hE in
theorem KZ{k:IntKind}:∀{vs:List ae} {us:List Value} {a n:Int},vW k (fun x y=>bif decide (y < x) then y else x) a vs=some n→All2 (aT G) vs us→
  (us.foldlM Builtin.min2 (.int k a)).run P w = .ok (.int k n) w
 |[],[],a,n,h,_=>by simp [vW] at h;subst h;simp
 |v :: vs,u :: us,a,n,h,hr=>by
  simp only [vW] at h;cases hv:v.D3 with
  |none=>simp [hv] at h
  |some p=>obtain⟨k',b⟩:=p;simp only [hv] at h;cases pW hv hr.1;have:=KZ h hr.2;rw [List.foldlM_cons,Sem.run_bind];simp only [Builtin.min2,Sem.run_pure,Result.andThen_ok];rw [←this];by_cases hb:b < a<;>simp [hb]
omit hE in
theorem KY{k:IntKind}:∀{vs:List ae} {us:List Value} {a n:Int},vW k (fun x y=>bif decide (y > x) then y else x) a vs=some n→All2 (aT G) vs us→
  (us.foldlM Builtin.max2 (.int k a)).run P w = .ok (.int k n) w
 |[],[],a,n,h,_=>by simp [vW] at h;subst h;simp
 |v :: vs,u :: us,a,n,h,hr=>by
  simp only [vW] at h;cases hv:v.D3 with
  |none=>simp [hv] at h
  |some p=>obtain⟨k',b⟩:=p;simp only [hv] at h;cases pW hv hr.1;have:=KY h hr.2;rw [List.foldlM_cons,Sem.run_bind];simp only [Builtin.max2,Sem.run_pure,Result.andThen_ok];rw [←this];by_cases hb:b > a<;>simp [hb]
theorem NR{a vr sz i off:Nat}{A:jB}{u:Value}{x:A.t.mZ}{n:Int}(hm:aB X st G w)(hr:aX G (.Dt a vr sz i off) u)(hA:st.arr a=some A)(hc:(A.sh || !Md.kX A.md .bP || !Nat.beq vr (st.dy a) || !Nat.beq sz A.t.size || !A.t.rm)=false)
  (hx:bK A.l (i:Int)=some x) (hn:BF A.t x off=some n):∃ b m c,u = .slice b m c∧n=(m:Int):=by
 obtain⟨r1,⟨xb,xn,xc,hus⟩,⟨b0,aeM,aaF,r3,r4⟩,r5⟩:=hr;simp only [Bool.or_eq_false_iff,Bool.not_eq_false'] at hc;obtain⟨⟨⟨⟨dm,uc⟩,hvr⟩,mw⟩,hna⟩:=hc;have uc:=OM uc;obtain rfl:=Nat.eq_of_beq_eq_true hvr;obtain rfl:=Nat.eq_of_beq_eq_true mw;have hi:A.l[i]? = some x:=by simpa [bK] using hx
 have sb:=(gS dm (show A.oW=true by simp [jB.oW,uc])).1 (hm.ar a A hA)
 rw [show A.bP=true by simp [jB.bP,uc]] at sb
 rcases sb with ⟨e1,_⟩ |⟨b',cap',arr,elem,cells,rest,H',e1,e2,e3,e4,e5,e6⟩
 ·rw [e1] at hi;simp at hi
 ·have hhd:=hm.hh a A hA dm (by simp [jB.nest,uc])
  rw [e2] at hhd;obtain⟨pre,cc,post,Hp,Hc,Hq,k1,k2,k3,k4,k5⟩:=RepL.at (fun c x H hr=>fY.size hr) e6 hi;obtain⟨bb,kk,cc0,g1,g2⟩:=Hl hE hna k4 hn;have bq:=(List.getElem?_eq_some_iff.1 g1).1;rw [←hm.hv,hhd] at r5;simp only [kh] at r5;rw [e3,k1,←k2,List.append_assoc,List.getElem?_append_right (by omega),Nat.add_sub_cancel_left,List.append_assoc,List.getElem?_append_left bq,g1] at r5
  simp only [Option.some.injEq] at r5;exact⟨_,_,_,r5.symm,g2⟩
theorem Pr{b:Builtin}{dst:Nat}{ts:List TypeId}{ty:TypeId}{vs:List ae}{us:List Value}{cs:Array Bool}{K:ae→St→Option R}(h:ni E b dst ts vs st K=some r)(hm:aB X st G w)(hv:All2 (aT G) vs us)(hw:∀ x∈vs,EX st x):
  ∃ av v st' G' w',(builtin b ts.toArray ty cs us.toArray).run P w = .ok (.value v) w'∧aB X st' G' w'∧(∀ act,bI G st act→bI G' st' act)∧aT G' av v∧K av st' = some r:=by
 unfold ni at h;split at h
 ·rename_i v
  obtain⟨u,rfl⟩:∃ u,us = [u]:=by
   cases us with
   |nil=>exact hv.elim
   |cons u us=>cases us with
    |nil=>exact⟨u,rfl⟩
    |cons _ _=>exact hv.2.elim
  cases ts with
  |nil=>simp at h
  |cons t ts=>
   simp only [List.getElem?_cons_zero,Option.bind_some] at h;split at h
   ·rename_i hT
    split at h
    ·rename_i s hs
     cases BG hs hv.1;have hu:=(hE _ _ hT).str;exact⟨_,_,st,G,w,by simp [builtin,Builtin.len_,run_underlying hu,ke,goInt];rfl,hm,fun _ h=>h,kz .i64 _,h⟩
    ·cases h
   ·rename_i hT
    split at h
    ·rename_i a vr sz i off hl
     have hr:=hv.1;rw [show v = .one (.Dt a vr sz i off) by cases v<;>simp [ae.bJ] at hl;rw [hl]] at hr
     split at h
     ·rename_i A hA
      cases hc:(A.sh || !Md.kX A.md .bP || !Nat.beq vr (st.dy a) || !Nat.beq sz A.t.size || !A.t.rm) with
      |true=>rw [hc] at h;cases h
      |false=>
       rw [hc,cond_false] at h;obtain⟨x,hx,h⟩:=Option.bind_eq_some_iff.1 h;split at h
       ·rename_i n hn
        obtain⟨b,m,c,hv',rfl⟩:=NR hE hm hr hA hc hx hn;exact⟨_,_,st,G,w,by simp only [builtin,Sem.run_bind,Kk hE hT hv',Result.andThen_ok,Sem.run_pure],hm,fun _ h=>h,kz .i64 _,h⟩
       ·cases h
     ·cases h
    ·split at h
     ·rename_i n hn hs
      obtain⟨a,m,c,hv',rfl⟩:=Rx hE hn hs hm hv.1;exact⟨_,_,st,G,w,by simp only [builtin,Sem.run_bind,Kk hE hT hv',Result.andThen_ok,Sem.run_pure],hm,fun _ h=>h,kz .i64 _,h⟩
     ·cases h
   ·cases h
 ·rename_i s x
  split at h
  ·rename_i t u
   cases htu:Nat.beq t u with
   |false=>simp [htu] at h
   |true=>
    simp only [htu,cond_true] at h;obtain rfl:=Nat.eq_of_beq_eq_true htu;cases us with
    |nil=>exact hv.elim
    |cons u1 us=>
     cases us with
     |nil=>exact hv.2.elim
     |cons u2 us=>
      cases us with
      |cons _ _=>exact hv.2.2.elim
      |nil=>
       obtain⟨av,v,st',G',w',h1,h2,h3,h4,h5⟩:=Pq hE (ty:=ty) h hm hv.1 hv.2.1 (hw _ (by simp)) (hw _ (by simp))
       exact⟨av,v,st',G',w',by simp only [builtin,Sem.run_bind,h1,Result.andThen_ok,Sem.run_pure],h2,h3,h4,h5⟩
  ·cases h
 ·rename_i v vs
  cases us with
  |nil=>exact hv.elim
  |cons u us=>
   split at h
   ·rename_i k a hi
    split at h
    ·rename_i n hn
     cases pW hi hv.1;exact⟨_,_,st,G,w,by simp only [builtin,Builtin.min_,Sem.run_bind,KZ hn hv.2,Result.andThen_ok,Sem.run_pure],hm,fun _ h=>h,kz _ _,h⟩
    ·cases h
   ·cases h
 ·rename_i v vs
  cases us with
  |nil=>exact hv.elim
  |cons u us=>
   split at h
   ·rename_i k a hi
    split at h
    ·rename_i n hn
     cases pW hi hv.1;exact⟨_,_,st,G,w,by simp only [builtin,Builtin.max_,Sem.run_bind,KY hn hv.2,Result.andThen_ok,Sem.run_pure],hm,fun _ h=>h,kz _ _,h⟩
    ·cases h
   ·cases h
 ·cases h
end ops
end Go.Fx
namespace Go.Fx
theorem SZ{G:Gh}(v:Value):aT G (Kf v) v:=by
 unfold Kf;split
 ·exact kz _ _
 ·exact oa _
 ·rename_i s
  have:ke s.data.toList = .string s:=by simp [ke]
  rw [←this];exact IA _
 ·rfl
 ·rfl
 ·trivial
def mX(gt:Nat→Option GA)(S:Ce):Prop:=∀ g D,gt g=some D→∃ arr elem fz,S g=some (.cells arr elem fz)∧RepL (fY S false D.t) arr.toList D.l []
theorem mX.mono{gt:Nat→Option GA}{S S':Ce}(h:mX gt S)(hS:∀ b o,S b=some o→S' b=some o):mX gt S':=fun g D hg=>by obtain⟨arr,elem,fz,h1,h3⟩:=h g D hg;exact⟨arr,elem,fz,hS _ _ h1,h3.CO hS⟩
theorem fy{E:rQ}{G:Gh}{st:St}{act:Act}(hg:mX E.gt G.S)(hr:bI G st act)(o:Operand):aT G (ev E st o) (act.eval o):=by
 cases o with
 |tmp t=>
  simp only [ev,Act.eval];cases h:st.ib t with
  |none=>trivial
  |some v=>exact hr.2.2 t v h
 |const v=>exact SZ v
 |global g=>
  simp only [ev,Act.eval];cases h:E.gt g with
  |none=>trivial
  |some D=>obtain⟨arr,elem,fz,h1,h3⟩:=hg g D h;exact⟨g,arr,elem,fz,arr.toList,[],h1,by simp,h3,rfl⟩
 |func f=>rfl
theorem Nm{E:rQ}{st:St}(o:Operand):EX st (ev E st o):=fun k y h=>by
 cases o with
 |tmp t=>
  simp only [ev];cases hr:st.ib t with
  |none=>rfl
  |some v=>exact Aa h hr
 |const v=>simp only [ev,Kf];split<;>rfl
 |global g=>simp only [ev];cases E.gt g<;>rfl
 |func f=>rfl
def zy(P:Program)(gt:Nat→Option GA)(f:FuncId)(s:iT):Prop:=
 ∀{R:Type} {r:R} {X:mo} {st:St} {G:Gh} {w:World} {dst:Nat} {args:List ae} {vs:List Value} {K KP:ae→St→Option R},
  s.run dst args st K KP=some r→mX gt X.S0→aB X st G w→(∃ act,bI G st act)→All2 (aT G) args vs→
  (callFunc f vs.toArray).run P w = .ok (.enter f vs.toArray) w∧Calls P f vs.toArray w fun e w'=>match e with
   |.returned v=>∃ av st' G',aB X st' G' w'∧(∀ act,bI G st act→bI G' st' act)∧aT G' av v∧K av st' = some r
   |.panicked Gm=>∃ v,Gm = [{v,recovered:=false}]∧∃ av st' G',aB X st' G' w'∧aT G' av v∧KP av st' = some r
   |.outgrown=>False
theorem Pi{E:rQ}{G:Gh}{st:St}{act:Act}(hg:mX E.gt G.S)(hr:bI G st act):∀ l:List Operand,All2 (aT G) (l.map (ev E st)) (l.map act.eval)
 |[]=>trivial
 |x :: l=>⟨fy hg hr x,Pi hg hr l⟩
theorem GR{E:rQ}{G:Gh}{st:St}{act:Act}(hg:mX E.gt G.S)(hr:bI G st act):∀ l:List (Nat×Operand),All2 (fun(p:Nat×ae) (q:Nat×Value)=>p.1=q.1∧aT G p.2 q.2) (l.map fun p=>(p.1,ev E st p.2)) (l.map fun p=>(p.1,act.eval p.2))
 |[]=>trivial
 |x :: l=>⟨⟨rfl,fy hg hr x.2⟩,GR hg hr l⟩
section ops
variable {P:Program} {E:rQ} (hE:iy P E.ir) (hS:∀ f s,E.Ag f=some s→zy P E.gt f s) {X:mo} {st:St} {G:Gh} {w:World} {R:Type} {r:R}
include hE hS
set_option maxHeartbeats 2000000 in
theorem Gs{o:Oper}{act:Act}{K KP:ae→St→Option R}(h:lP E o st K KP=some r)(ye:mX E.gt X.S0)(hm:aB X st G w)(hr:bI G st act){next:Act→World→Prop}{Q:Exit→Act→World→Prop}
  (hK:∀ av v st' G' w',aB X st' G' w'→bI G' st' act→aT G' av v→K av st' = some r→next (act.put o.dst v) w')
  (hP:∀ av v st' G' w',aB X st' G' w'→aT G' av v→KP av st' = some r→Q (.panic [{v,recovered:=false}]) act w'):o.wp P act w next Q:=by
 have hg:mX E.gt G.S:=ye.mono hm.s0;have kU:∀{s:Sem Value},(∃ av v,s.run P w = .ok v w∧aT G av v∧K av st=some r)→(execOp act.eval o=do pure (.value (←s)))→o.wp P act w next Q:=fun {s} ⟨av,v,h1,h2,h3⟩ he=>by unfold Oper.wp;rw [he,Sem.run_bind,h1];exact hK av v st G w hm hr h2 h3
 have full:∀{s:Sem Value},(∃ av v st' G' w',s.run P w = .ok v w'∧aB X st' G' w'∧(∀ act,bI G st act→bI G' st' act)∧aT G' av v∧K av st' = some r)→(execOp act.eval o=do pure (.value (←s)))→o.wp P act w next Q:=
  fun {s} ⟨av,v,st',G',w',h1,h2,h3,h4,h5⟩ he=>by
  unfold Oper.wp;rw [he,Sem.run_bind,h1];exact hK av v st' G' w' h2 (h3 _ hr) h4 h5
 unfold lP at h;split at h
 ·rename_i x ho
  exact kU (s:=pure (act.eval x)) ⟨_,_,rfl,fy hg hr x,h⟩ (by simp [execOp,ho])
 ·rename_i x ho
  exact kU (s:=pure (act.eval x)) ⟨_,_,rfl,fy hg hr x,h⟩ (by simp [execOp,ho])
 ·rename_i c a b ho
  cases hc:(ev E st c).Eg with
  |none=>simp [hc] at h
  |some b'=>
   simp only [hc] at h;have hb:=ve hc (fy hg hr c);unfold Oper.wp;simp only [execOp,ho,hb];cases b' with
   |true=>simp only [cond_true] at h;exact hK _ _ st G w hm hr (fy hg hr a) h
   |false=>simp only [cond_false] at h;exact hK _ _ st G w hm hr (fy hg hr b) h
 ·rename_i x ho
  have hx:=fy hg hr x;have key:(∃ a,act.eval x = .pointer (some a))→K (ev E st x) st=some r→o.wp P act w next Q:=fun⟨a,ha⟩ hk=>by unfold Oper.wp;simp only [execOp,ho,ha];exact hK _ _ st G w hm hr (by rw [←ha];exact hx) hk
  cases hv:ev E st x with
  |one l=>
   rw [hv] at h hx key;cases l with
   |mT ob off=>exact key ⟨_,hx⟩ (by simpa [ae.bJ] using h)
   |Cs a sz i off=>obtain⟨b,len,cap,h1,h2,h3⟩:=hx;exact key ⟨_,h3⟩ (by simpa [ae.bJ] using h)
   |M5 t d off=>obtain⟨b,arr,elem,fz,pre,cs,post,h1,h2,h3,h4⟩:=hx;exact key ⟨_,h4⟩ (by simpa [ae.bJ] using h)
   |_=>simp [ae.bJ] at h
  |_=>rw [hv] at h;simp [ae.bJ] at h
 ·rename_i T ho
  cases hdp:E.IM (Gq o.dst) with
  |true=>
   rw [hdp,cond_true] at h;have hT:∃ ti,E.ir T=some ti:=by
    cases hT:E.ir T with
    |none=>simp [ro,hT] at h
    |some ti=>exact⟨ti,rfl⟩
   obtain⟨ti,hT⟩:=hT;obtain⟨i,d,z,h1,h2,h3,h4,h5,h6,h7,h8,h9⟩:=hE T ti hT;obtain⟨av,st',G',m,rr,rv,hk⟩:=Rr hE (w:=w) (cs:=z.cells) h hm (fun ti' hT'=>by rw [hT] at hT';cases hT';exact h6)
   refine full (s:=Instr.alloc T true (.tuple #[])) ⟨av,_,st',G',_,?_,m,rr,rv,hk⟩ (by simp only [execOp,ho])
   simp [Instr.alloc,zeroValue,typeInfo,h1,h5,newVar,newRow]
  |false=>
  rw [hdp,cond_false] at h;cases hT:E.ir T with
  |none=>simp [hT] at h
  |some ti=>
   simp only [hT] at h;obtain⟨i,d,z,h1,h2,h3,h4,h5,h6,h7,h8,h9⟩:=hE T ti hT;obtain⟨av,st',G',m,rr,rv,hk⟩:=Rz (w:=w) (cs:=z.cells) h hm (by rw [h6];exact PZ ti.zero)
   refine full (s:=Instr.alloc T true (.tuple #[])) ⟨av,_,st',G',_,?_,m,rr,rv,hk⟩ (by simp only [execOp,ho])
   simp [Instr.alloc,zeroValue,typeInfo,h1,h5,newVar,newRow]
 ·rename_i T x ho
  cases hl:(ev E st x).pw with
  |none=>simp [hl] at h
  |some ls=>
   simp only [hl] at h;obtain⟨av,st',G',m,rr,rv,hk⟩:=Rz (w:=w) (cs:=(act.eval x).cells) h hm (mm hm hl (fy hg hr x));refine full (s:=Instr.box T (act.eval x)) ⟨av,_,st',G',_,?_,m,rr,rv,hk⟩ (by simp only [execOp,ho])
   simp [Instr.box,newVar,newRow]
 ·rename_i T ia ho
  refine kU (LH hE h hm (GR hg hr _)) ?_;have:(List.map (fun p=>(p.1,act.eval p.2)) ia.toList).toArray=ia.map fun(i,x)=>(i,act.eval x):=by rw [←Array.toList_map]
  rw [this];simp only [execOp,ho]
 ·rename_i T len ia ho
  have h':∃ av v st' G' w',(Instr.buildSlice T len ((ia.toList.map fun p=>(p.1,act.eval p.2)).toArray)).run P w = .ok v w'∧aB X st' G' w'∧(∀ act,bI G st act→bI G' st' act)∧aT G' av v∧K av st' = some r:=by
   cases hd:E.IM (Gq o.dst) with
   |true=>rw [hd,cond_true] at h;exact It hE h hm (GR hg hr _)
   |false=>rw [hd,cond_false] at h;exact JN hE h hm (GR hg hr _)
  refine full h' ?_;have:(List.map (fun p=>(p.1,act.eval p.2)) ia.toList).toArray=ia.map fun(i,x)=>(i,act.eval x):=by rw [←Array.toList_map]
  rw [this];simp only [execOp,ho]
 ·rename_i T x ho
  exact kU (Iv hE h hm (fy hg hr x)) (by simp only [execOp,ho])
 ·rename_i T x v ho
  obtain⟨st',G',w',h1,h2,h3,h4⟩:=RD hE h hm (fy hg hr x) (fy hg hr v) (Nm v);unfold Oper.wp;simp only [execOp,ho,Sem.run_bind,h1,Result.andThen_ok];exact hK _ _ st' G' w' h2 (h3 _ hr) (show aT G' (.one .uB) undef from rfl) h4
 ·rename_i op T x y u ho
  exact kU (Rt hE h hm (fy hg hr x) (fy hg hr y)) (by simp only [execOp,ho];rfl)
 ·rename_i op T x ho
  exact kU (Uh h (fy hg hr x)) (by simp only [execOp,ho])
 ·rename_i S D x ho
  exact kU (GX hE h hm (fy hg hr x)) (by simp only [execOp,ho])
 ·rename_i T l c ho
  exact full (LN hE h hm (fy hg hr l) (fy hg hr c)) (by simp only [execOp,ho])
 ·rename_i T x lo hi mx ho
  have opt:∀(q:Option Operand),(∀ a,q.map (ev E st)=some a→∃ v,q.map act.eval=some v∧aT G a v)∧(q.map (ev E st)=none→q.map act.eval=none):=fun q=>by
   cases q with
   |none=>simp
   |some x=>simp;exact fy hg hr x
  obtain⟨av,v,st',G',h1,h2,h3,h4,h5⟩:=LR hE h hm (fy hg hr x) (opt lo).1 (opt lo).2 (opt hi).1 (opt hi).2 (opt mx).2;exact full ⟨av,v,st',G',w,h1,h2,h3,h4,h5⟩ (by simp only [execOp,ho])
 ·rename_i T x f ho
  exact kU (CV hE h (fy hg hr x)) (by simp only [execOp,ho])
 ·rename_i T x f ho
  cases ha:(ev E st x).isAgg with
  |false=>simp [ha] at h
  |true=>simp only [ha,cond_true] at h;exact kU (LK hE h hm (fy hg hr x) (CF ha (fy hg hr x))) (by simp only [execOp,ho])
 ·rename_i T x i ho
  exact kU (CW hE h hm (fy hg hr x) (fy hg hr i)) (by simp only [execOp,ho])
 ·rename_i T x i ho
  exact kU (LL hE h (fy hg hr x) (fy hg hr i)) (by simp only [execOp,ho])
 ·rename_i x n ho
  have hx:=fy hg hr x;split at h
  ·rename_i vs hv
   rw [hv] at hx;obtain⟨us,hu,ha⟩:=hx;cases hn:vs[n]? with
   |none=>simp [hn] at h
   |some p=>
    simp only [hn] at h;obtain⟨u,hu2,hp⟩:=ha.vE hn;refine kU (s:=Instr.extract (act.eval x) n) ⟨_,u,by simp [Instr.extract,hu,hu2],?_,h⟩ (by simp only [execOp,ho])
    unfold CX;split at hp
    ·rename_i hc;simp only [hc,cond_true];exact hp
    ·rename_i hc
     obtain⟨l,e,hl⟩:=hp;simp only [Bool.not_eq_true] at hc;simp only [hc,cond_false,e];exact hl
  ·cases h
 ·rename_i c ho
  split at h
  ·rename_i b hb
   have wZ:=Pi hg hr c.args.toList;obtain⟨cs0,Fm⟩:∃ cs0,(execOp act.eval o).run P w=(builtin b c.argTypes o.type cs0 (c.args.map act.eval)).run P w:=
    ⟨_,by simp only [execOp,ho,resolve,hb,Sem.run_bind,Sem.run_pure,Result.andThen_ok,invoke];rfl⟩
   obtain⟨av,v,st',G',w',h1,h2,h3,h4,h5⟩:=Pr hE (ty:=o.type) (cs:=cs0) h hm wZ (fun x hx=>by obtain⟨y,_,rfl⟩:=List.mem_map.1 hx;exact Nm y)
   have e1:(List.map act.eval c.args.toList).toArray=c.args.map act.eval:=by rw [←Array.toList_map]
   rw [e1] at h1;have e2:c.argTypes.toList.toArray=c.argTypes:=by simp
   rw [e2] at h1;unfold Oper.wp;rw [Fm,h1];exact hK _ _ st' G' w' h2 (h3 _ hr) h4 h5
  ·rename_i f hb
   cases hs:E.Ag f with
   |none=>simp [hs] at h
   |some s=>
    simp only [hs] at h;obtain⟨h1,h2⟩:=hS f s hs h ye hm ⟨act,hr⟩ (Pi hg hr c.args.toList);have e1:(List.map act.eval c.args.toList).toArray=c.args.map act.eval:=by rw [←Array.toList_map]
    rw [e1] at h1 h2;unfold Oper.wp;simp only [execOp,ho,resolve,hb,Sem.run_bind,Sem.run_pure,Result.andThen_ok,invoke,Act.eval,Deferred.ofValue,Array.append_empty,Array.empty_append,h1,Oper.upon];refine Calls.mono h2 fun e w'' he=>?_;cases e with
    |returned v=>obtain⟨av,st',G',g1,g2,g3,g4⟩:=he;exact hK _ _ st' G' _ g1 (g2 _ hr) g3 g4
    |panicked Gm=>obtain⟨v,rfl,av,st',G',g1,g3,g4⟩:=he;exact hP _ _ st' G' _ g1 g3 g4
    |outgrown=>exact he.elim
  ·cases h
 ·rename_i T x ho
  cases hT:E.ir T with
  |none=>simp [hT] at h
  |some ti=>
   simp only [hT] at h;obtain⟨d,u1,u2⟩:=(hE T ti hT).uB;split at h
   ·cases h
   ·rename_i ls hl hd
    refine kU (s:=Instr.makeInterface T (act.eval x)) ⟨.y5 T ls,.iface T (act.eval x),?_,⟨_,_,rfl,rfl,mm hm hl (fy hg hr x)⟩,h⟩ (by simp only [execOp,ho])
    simp only [Instr.makeInterface,Sem.run_bind,run_underlying u1,Result.andThen_ok];generalize ti.iA=q at u2 hd;cases d with
    |interface _=>cases q<;>first | exact u2.elim | exact(hd rfl).elim
    |_=>rfl
   ·cases h
 ·rename_i x ho
  have hx:=fy hg hr x;split at h
  ·rename_i t ls hv
   rw [hv] at hx;obtain⟨u,cs,h1,h2,h3⟩:=hx;unfold Oper.wp;simp only [execOp,ho,h1,Instr.panic,goPanic,Sem.run_bind];exact hP (.y5 t ls) (.iface t u) st G w hm ⟨u,cs,rfl,h2,h3⟩ h
  ·cases h
 ·rename_i T ho
  exact full (Pt hE h hm) (by simp only [execOp,ho,Option.map_none])
 ·rename_i T x k ho
  exact kU (Ry hE h hm (fy hg hr x) (fy hg hr k)) (by simp only [execOp,ho])
 ·rename_i T x k v ho
  obtain⟨st',G',w',h1,h2,h3,h4⟩:=LP hE h hm (fy hg hr x) (fy hg hr k) (fy hg hr v);unfold Oper.wp;simp only [execOp,ho,Sem.run_bind,h1,Result.andThen_ok];exact hK _ _ st' G' w' h2 (h3 _ hr) (show aT G' (.one .uB) undef from rfl) h4
 ·cases h
end ops
end Go.Fx
namespace Go.Fx
structure Out where
 v:ae
 s:St
 ok:Bool
def nT(v:ae)(s:St):Option Out:=some ⟨v,s,true⟩
def MZ(v:ae)(s:St):Option Out:=some ⟨v,s,false⟩
def r0{R:Type}(K KP:ae→St→Option R)(o:Out):Option R:=bif o.ok then K o.v o.s else KP o.v o.s
theorem da{α β:Type}{c:Bool}{a b:Option β}{a' b':Option α}{f:α→Option β}(h:a=a'.bind f)(k:b=b'.bind f):cond c a b=(cond c a' b').bind f:=by cases c<;>simpa
theorem fG{α β γ:Type}{x:Option γ}{g:γ→Option β}{g':γ→Option α}{f:α→Option β}(h:∀ y,g y=(g' y).bind f):x.bind g=(x.bind g').bind f:=by
 cases x with
 |none=>rfl
 |some y=>exact h y
def oL(s:iT):Prop:=∀{R:Type} (dst:Nat) (args:List ae) (st:St) (K KP:ae→St→Option R),
 s.run dst args st K KP=(s.run dst args st nT MZ).bind (r0 K KP)
def adw(L:kZ):Prop:=True
section
variable {E:rQ} {R:Type} {st:St} {T:TypeId} {x y v:ae} {dst:Nat} {K KP:ae→St→Option R}
theorem S3:xG E T x st K=(xG E T x st nT).bind (r0 K KP):=by
 unfold xG
 repeat' (first | rfl | apply da | apply fG | intro _ | split)
theorem JO{f:Nat}:nB E T x f st K=(nB E T x f st nT).bind (r0 K KP):=by
 unfold nB
 repeat' (first | rfl | apply da | apply fG | intro _ | split)
theorem Rv{f:Nat}:wf E T x f st K=(wf E T x f st nT).bind (r0 K KP):=by
 unfold wf
 repeat' (first | rfl | apply da | apply fG | intro _ | split)
theorem JP:mf E T x y st K=(mf E T x y st nT).bind (r0 K KP):=by
 unfold mf
 repeat' (first | rfl | apply da | apply fG | intro _ | split)
theorem Rw:wg E T x y st K=(wg E T x y st nT).bind (r0 K KP):=by
 unfold wg
 repeat' (first | rfl | apply da | apply fG | intro _ | split)
theorem RE:wh E T x v st (fun st'=>K (.one .uB) st')=(wh E T x v st (fun st'=>nT (.one .uB) st')).bind (r0 K KP):=by
 unfold wh
 repeat' (first | rfl | apply da | apply fG | intro _ | split)
theorem RA{lo hi mx:Option ae}:tf E T dst x lo hi mx st K=(tf E T dst x lo hi mx st nT).bind (r0 K KP):=by
 unfold tf
 repeat' (first | rfl | apply da | apply fG | intro _ | split)
theorem Vo{op:BinOp}:IY E op T x y (fun v=>K v st)=(IY E op T x y (fun v=>nT v st)).bind (r0 K KP):=by
 unfold IY
 repeat' (first | rfl | apply da | apply fG | intro _ | split)
theorem Xv{op:UnOp}:RF op x (fun v=>K v st)=(RF op x (fun v=>nT v st)).bind (r0 K KP):=by
 unfold RF
 repeat' (first | rfl | apply da | apply fG | intro _ | split)
theorem MQ{S D:TypeId}:pt E S D x st K=(pt E S D x st nT).bind (r0 K KP):=by
 unfold pt
 repeat' (first | rfl | apply da | apply fG | intro _ | split)
theorem Ru{ps:List (Nat×ae)}:we E T ps st K=(we E T ps st nT).bind (r0 K KP):=by
 unfold we
 repeat' (first | rfl | apply da | apply fG | intro _ | split)
theorem Iu{len:Nat}{ps:List (Nat×ae)}:l9 E T dst len ps st K=(l9 E T dst len ps st nT).bind (r0 K KP):=by
 unfold l9
 repeat' (first | rfl | apply da | apply fG | intro _ | split)
theorem JQ:nC E T dst x y st K=(nC E T dst x y st nT).bind (r0 K KP):=by
 unfold nC
 repeat' (first | rfl | apply da | apply fG | intro _ | split)
theorem NT{o:Nat}{ls:List af}:Es E T o ls st K=(Es E T o ls st nT).bind (r0 K KP):=by
 unfold Es
 repeat' (first | rfl | apply da | apply fG | intro _ | split)
theorem GT:rp E T dst x y st K=(rp E T dst x y st nT).bind (r0 K KP):=by
 unfold rp
 repeat' (first | rfl | apply da | apply fG | intro _ | split)
theorem GU{len:Nat}{ps:List (Nat×ae)}:kF E T dst len ps st K=(kF E T dst len ps st nT).bind (r0 K KP):=by
 unfold kF
 repeat' (first | rfl | apply da | apply fG | intro _ | split)
theorem MN{b:Nat}:qv E T dst x b st K=(qv E T dst x b st nT).bind (r0 K KP):=by
 unfold qv
 repeat' (first | rfl | apply da | apply fG | intro _ | split)
theorem G0{α β:Type}{a i o:Nat}{K:St→Option β}{K':St→Option α}{f:α→Option β}(h:∀ s,K s=(K' s).bind f):D8 st a i o K=(D8 st a i o K').bind f:=by
 unfold D8
 repeat' (first | rfl | exact h _ | apply da | apply fG | intro _ | split)
theorem Ok{α β:Type}{a sz i:Nat}{K:St→Option β}{K':St→Option α}{f:α→Option β}(h:∀ s,K s=(K' s).bind f):Am st a sz i K=(Am st a sz i K').bind f:=by unfold Am;exact da (h _) rfl
theorem QB{α β:Type}{a o:Nat}{K:St→Option β}{K':St→Option α}{f:α→Option β}(h:∀ s,K s=(K' s).bind f):zF st a o K=(zF st a o K').bind f:=by
 unfold zF
 repeat' (first | rfl | exact h _ | apply da | apply fG | intro _ | split)
theorem MO:qw E T dst x y st K=(qw E T dst x y st nT).bind (r0 K KP):=by
 unfold qw;split
 ·exact MN
 ·split
  ·exact da (G0 fun s=>Ok fun s=>GT) rfl
  ·exact GT
theorem Pv{a sz i off:Nat}{K:St→Option R}{K':St→Option Out}{f:Out→Option R}(h:∀ s,K s=(K' s).bind f):tg E T a sz i off v st K=(tg E T a sz i off v st K').bind f:=by
 unfold tg
 repeat' (first | rfl | exact QB h |(apply G0) |(apply Ok) | apply da | apply fG | intro _ | split)
theorem Pw{a k:Nat}{K:St→Option R}{K':St→Option Out}{f:Out→Option R}(h:∀ s,K s=(K' s).bind f):th E T a k v st K=(th E T a k v st K').bind f:=by
 unfold th
 repeat' (first | rfl | exact h _ | apply da | apply fG | intro _ | split)
theorem Px:tj E T x v st (fun st'=>K (.one .uB) st')=(tj E T x v st (fun st'=>nT (.one .uB) st')).bind (r0 K KP):=by
 unfold tj;split
 ·exact Pv fun s=>rfl
 ·split
  ·exact Pw fun s=>rfl
  ·exact RE
theorem MP{b:Builtin}{ts:List TypeId}{vs:List ae}:ni E b dst ts vs st K=(ni E b dst ts vs st nT).bind (r0 K KP):=by
 unfold ni
 repeat' (first | rfl | exact MO | apply da | apply fG | intro _ | split)
theorem Po:ro E T dst st K=(ro E T dst st nT).bind (r0 K KP):=by
 unfold ro
 repeat' (first | rfl | apply da | apply fG | intro _ | split)
theorem MS:qx E T dst st K=(qx E T dst st nT).bind (r0 K KP):=by
 unfold qx
 repeat' (first | rfl | apply da | apply fG | intro _ | split)
theorem Ps:te E T x y st K=(te E T x y st nT).bind (r0 K KP):=by
 unfold te
 repeat' (first | rfl | apply da | apply fG | intro _ | split)
theorem JR:nD E T x y v st K=(nD E T x y v st nT).bind (r0 K KP):=by
 unfold nD
 repeat' (first | rfl | apply da | apply fG | intro _ | split)
theorem Nn(hS:∀ f s,E.Ag f=some s→oL s){o:Oper}:lP E o st K KP=(lP E o st nT MZ).bind (r0 K KP):=by
 unfold lP;split
 ·rfl
 ·rfl
 ·split
  ·exact da rfl rfl
  ·rfl
 ·split<;>rfl
 ·refine da Po ?_
  split
  ·exact NT
  ·rfl
 ·split
  ·exact NT
  ·rfl
 ·exact Ru
 ·exact da GU Iu
 ·exact S3
 ·exact Px
 ·exact Vo
 ·exact Xv
 ·exact MQ
 ·exact JQ
 ·exact RA
 ·exact JO
 ·exact da Rv rfl
 ·exact JP
 ·exact Rw
 ·split
  ·split
   ·rfl
   ·rfl
  ·rfl
 ·split
  ·exact MP
  ·split
   ·rename_i s hs;exact hS _ s hs _ _ _ _ _
   ·rfl
  ·rfl
 ·split
  ·split<;>rfl
  ·rfl
 ·split<;>rfl
 ·exact MS
 ·exact Ps
 ·exact JR
 ·rfl
end
def FB(E:rQ)(o:Oper)(st:St):Option Out:=lP E o st nT MZ
theorem zG{E:rQ}(hS:∀ f s,E.Ag f=some s→oL s){o:Oper}{st:St}{R:Type}{K KP:ae→St→Option R}{r:R}(h:lP E o st K KP=some r):
  ∃ u,FB E o st=some u∧r0 K KP u=some r:=by
 rw [Nn hS] at h;exact Option.bind_eq_some_iff.1 h
theorem AF{E:rQ}(hS:∀ f s,E.Ag f=some s→oL s){o:Oper}{st:St}{R:Type}{K KP:ae→St→Option R}{u:Out}(h:FB E o st=some u):lP E o st K KP=r0 K KP u:=by rw [Nn hS];unfold FB at h;rw [h];rfl
end Go.Fx
namespace Go.Fx
def j0(st s:St):Prop:=s.n=st.n∧s.jd=st.jd∧s.cz=st.cz∧(s.fL,s.pin)=(st.fL,st.pin)
theorem j0.refl(st:St):j0 st st:=⟨rfl,rfl,rfl,rfl⟩
theorem j0.trans{a b c:St}(h:j0 a b)(k:j0 b c):j0 a c:=⟨k.1.trans h.1,k.2.1.trans h.2.1,k.2.2.1.trans h.2.2.1,k.2.2.2.trans h.2.2.2⟩
def pD.adW(p:pD)(o j:Nat):Prop:=match p with | .o ob off n=>ob=o∧off≤j∧j < off + n | _=>False
structure qn(W:List pD)(st s:St):Prop where
 iH:j0 st s
 et:s.et=st.et
 dJ:∀ o ls,st.dJ o=some ls→pD.k o∉W→pD.all∉W→∃ wd,s.dJ o=some wd∧wd.length=ls.length∧∀ j,(∀ q∈W,¬ q.adW o j)→wd[j]? = ls[j]?
 arr:∀ a A,st.arr a=some A→pD.a a∉W→pD.all∉W→s.arr a=some A
 Dc:∀ a,pD.a a∉W→pD.all∉W→s.dy a=st.dy a
theorem qn.refl(W:List pD)(st:St):qn W st st:=⟨.refl _,rfl,fun o ls h _ _=>⟨ls,h,rfl,fun _ _=>rfl⟩,fun _ _ h _ _=>h,fun _ _ _=>rfl⟩
theorem qn.any{st s:St}(h:j0 st s)(hr:s.et=st.et):qn [.all] st s:=
 ⟨h,hr,fun _ _ _ _ h=>absurd (List.mem_singleton.2 rfl) h,fun _ _ _ _ h=>absurd (List.mem_singleton.2 rfl) h,fun _ _ h=>absurd (List.mem_singleton.2 rfl) h⟩
theorem qn.trans{W:List pD}{a b c:St}(h:qn W a b)(k:qn W b c):qn W a c:=
 ⟨h.iH.trans k.iH,k.et.trans h.et,fun o ls hl hk ha=>by
  obtain⟨l1,h1,h2,h3⟩:=h.dJ o ls hl hk ha;obtain⟨l2,k1,k2,k3⟩:=k.dJ o l1 h1 hk ha;exact⟨l2,k1,k2.trans h2,fun j hj=>(k3 j hj).trans (h3 j hj)⟩,fun x A hA hn ha=>k.arr x A (h.arr x A hA hn ha) hn ha,fun x hn ha=>(k.Dc x hn ha).trans (h.Dc x hn ha)⟩
theorem qn.mono{W W':List pD}{a b:St}(h:qn W a b)(hs:∀ q∈W,q∈W'):qn W' a b:=
 ⟨h.iH,h.et,fun o ls hl hk ha=>by
  obtain⟨l1,h1,h2,h3⟩:=h.dJ o ls hl (fun hq=>hk (hs _ hq)) (fun hq=>ha (hs _ hq));exact⟨l1,h1,h2,fun j hj=>h3 j fun q hq=>hj q (hs q hq)⟩,fun x A hA hn ha=>h.arr x A hA (fun hq=>hn (hs _ hq)) (fun hq=>ha (hs _ hq)),fun x hn ha=>h.Dc x (fun hq=>hn (hs _ hq)) (fun hq=>ha (hs _ hq))⟩
theorem qn.SX{W:List pD}{st s:St}{o:Nat}{ls:List af}(h:qn W st s)(ho:s.dJ o=none):qn W st (s.qb o ls):=
 h.trans ⟨⟨rfl,rfl,rfl,rfl⟩,rfl,fun q l hl _ _=>⟨l,by rw [ky,if_neg (fun e=>by subst e;rw [ho] at hl;cases hl)];exact hl,rfl,fun _ _=>rfl⟩,fun a A hA _ _=>hA,fun _ _ _=>rfl⟩
theorem qn.y8{W:List pD}{st s:St}{a:Nat}{A:jB}(h:qn W st s)(ha:s.arr a=none):qn W st (s.gF a A):=
 h.trans ⟨⟨rfl,rfl,rfl,rfl⟩,rfl,fun q l hl _ _=>⟨l,hl,rfl,fun _ _=>rfl⟩,fun x B hB _ _=>by rw [dD,if_neg (fun e=>by subst e;rw [ha] at hB;cases hB)];exact hB,fun _ _ _=>rfl⟩
theorem qn.gF{W:List pD}{st s:St}{a:Nat}{A:jB}(h:qn W st s)(ha:pD.a a∈W):qn W st (s.gF a A):=
 h.trans ⟨⟨rfl,rfl,rfl,rfl⟩,rfl,fun q l hl _ _=>⟨l,hl,rfl,fun _ _=>rfl⟩,fun x B hB hn _=>by rw [dD,if_neg (fun e=>by subst e;exact hn ha)];exact hB,fun _ _ _=>rfl⟩
theorem qn.LY{W:List pD}{st s:St}{a dst:Nat}{A:jB}(h:qn W st s)(ha:pD.a a∈W)(hd:s.arr dst=none):qn W st {s with cI:=(dst,A) :: Ei s.cI a}:=
 h.trans ⟨⟨rfl,rfl,rfl,rfl⟩,rfl,fun q l hl _ _=>⟨l,hl,rfl,fun _ _=>rfl⟩,fun x B hB hn _=>by
  have e1:x≠a:=fun e=>by subst e;exact hn ha
  have e2:x≠dst:=fun e=>by subst e;rw [hd] at hB;cases hB
  simp only [St.arr,aw,pZ,if_neg (Ne.symm e1),if_neg (Ne.symm e2)];exact hB,fun _ _ _=>rfl⟩
theorem aW{α:Type}{c:Bool}{a a' b b':α}(h:a=a')(k:b=b'):cond c a b=cond c a' b':=by rw [h,k]
theorem t8{α:Type}{c:Bool}{a a' b b':α}(h:c=true→a=a')(k:c=false→b=b'):cond c a b=cond c a' b':=by
 cases c
 ·exact k rfl
 ·exact h rfl
theorem dQ{α β:Type}{x:Option α}{f g:α→Option β}(h:∀ y,f y=g y):x.bind f=x.bind g:=by rw [funext h]
section
variable {E:rQ} {R:Type} {st:St} {T:TypeId} {x y v:ae} {dst:Nat}
theorem IZ{K K':ae→St→Option R}(h:∀ v,K v st=K' v st):xG E T x st K=xG E T x st K':=by
 unfold xG
 repeat' (first | rfl | exact h _ | apply aW | apply dQ | intro _ | split)
theorem Ac{f:Nat}{K K':ae→St→Option R}(h:∀ v,K v st=K' v st):nB E T x f st K=nB E T x f st K':=by
 unfold nB
 repeat' (first | rfl | exact h _ | apply aW | apply dQ | intro _ | split)
theorem GY{f:Nat}{K K':ae→St→Option R}(h:∀ v,K v st=K' v st):wf E T x f st K=wf E T x f st K':=by
 unfold wf
 repeat' (first | rfl | exact h _ | apply aW | apply dQ | intro _ | split)
theorem Ad{K K':ae→St→Option R}(h:∀ v,K v st=K' v st):mf E T x y st K=mf E T x y st K':=by
 unfold mf
 repeat' (first | rfl | exact h _ | apply aW | apply dQ | intro _ | split)
theorem GZ{K K':ae→St→Option R}(h:∀ v,K v st=K' v st):wg E T x y st K=wg E T x y st K':=by
 unfold wg
 repeat' (first | rfl | exact h _ | apply aW | apply dQ | intro _ | split)
theorem Ny{a:Nat}:∀{ls:List af},af.mq a∈ls→pD.a a∈fJ ls
 |l :: r,h=>by
  rcases List.mem_cons.1 h with rfl | h
  ·exact List.mem_cons_self ..
  ·have:=Ny h
   cases l<;>first | exact this | exact List.mem_cons_of_mem _ this
theorem FI{l:af}{s:St}(h:st.xN l=some s):qn (fJ [l]) st s:=by
 unfold St.xN at h;split at h
 ·split at h
  ·rename_i A _
   cases hs:A.sh with
   |true=>simp only [hs,cond_true,Option.some.injEq] at h;subst h;exact .refl _ _
   |false=>
    cases hw:A.oW with
    |false=>simp [hs,hw] at h
    |true=>simp only [hs,hw,cond_false,cond_true,Option.some.injEq] at h;subst h;exact(qn.refl _ _).gF (by simp [fJ])
  ·split at h
   ·rename_i A _
    cases hs:A.sh<;>simp [hs] at h;subst h;exact .refl _ _
   ·cases h
 ·cases h;exact .refl _ _
theorem SG{l:af}{ls:List af}:fJ (l :: ls)=fJ [l] ++ fJ ls:=by cases l<;>rfl
theorem xO:∀{ls:List af} {st s:St},st.um ls=some s→qn (fJ ls) st s
 |[],st,s,h=>by cases h;exact .refl _ _
 |l :: r,st,s,h=>by
  simp only [St.um] at h;split at h
  ·rename_i q hq
   rw [SG];exact((FI hq).mono fun q hq=>List.mem_append_left _ hq).trans ((xO h).mono fun q hq=>List.mem_append_right _ hq)
  ·cases h
theorem un{s:St}(h:v.qd st=some s):qn v.sR st s:=by
 unfold ae.qd at h;split at h
 ·exact FI h
 ·exact xO h
 ·cases h
 ·exact xO h
theorem aam{l:af}{s:St}(h:st.xN l=some s):j0 st s:=(FI h).iH
theorem aan{ls:List af}{st s:St}(h:st.um ls=some s):j0 st s:=(xO h).iH
theorem I6{s:St}(h:v.qd st=some s):j0 st s:=(un h).iH
theorem C8{t:Ty}:∀{ps:List (Nat×ae)} {i:Nat} {st s:St} {l:List t.mZ},mG t i ps st=some (l,s)→qn (mV (ps.map (·.2))) st s
 |[],i,st,s,l,h=>by simp only [mG,Option.some.injEq,Prod.mk.injEq] at h;obtain⟨_,rfl⟩:=h;exact .refl _ _
 |(j,v) :: r,i,st,s,l,h=>by
  simp only [mG] at h;cases hb:Nat.beq i j with
  |false=>simp [hb] at h
  |true=>
   simp only [hb,cond_true] at h;split at h
   ·rename_i q hq
    split at h
    ·split at h
     ·rename_i l' s' hp
      simp only [Option.some.injEq,Prod.mk.injEq] at h;obtain⟨_,rfl⟩:=h;exact((un hq).mono fun q hq=>List.mem_append_left _ hq).trans ((C8 hp).mono fun q hq=>List.mem_append_right _ hq)
     ·cases h
    ·cases h
   ·cases h
theorem CB{v:ae}{ls:List af}(h:v.pw=some ls):∀ q∈fJ ls,q∈v.sR:=by
 have ex:∀(t:Ty) (d:t.mZ),fJ (jJ t d) = []:=by
  have lM:∀ l m:List af,fJ (l ++ m)=fJ l ++ fJ m:=by
   intro l m;induction l with
   |nil=>rfl
   |cons x l ih=>cases x<;>simp [fJ,ih]
  intro t;induction t with
  |cX a b Ln Pa=>intro d;simp only [jJ,lM,Ln,Pa];rfl
  |one a ih=>intro d;exact ih d
  |arr n t ih=>
   intro d;simp only [jJ];induction (show List t.mZ from d) with
   |nil=>rfl
   |cons x l ihl=>rw [List.flatMap_cons,lM,ih,ihl];rfl
  |_=>intro d;rfl
 unfold ae.pw at h;split at h
 ·simp only [Option.some.injEq] at h;subst h;simp [ex]
 ·simp only [Option.some.injEq] at h;subst h;simp [ex]
 ·simp only [Option.some.injEq] at h;subst h;simp [ex]
 ·rename_i l _ _ _
  cases hc:l.cell<;>simp [hc] at h;subst h;exact fun q hq=>hq
 ·simp only [Option.some.injEq] at h;subst h;exact fun q hq=>hq
 ·cases h
theorem Vt{α:Type}{l v:List α}{off:Nat}(h:off + v.length≤l.length){j:Nat}(hj:¬ (off≤j∧j < off + v.length)):(mg l off v)[j]? = l[j]?:=by
 unfold mg;by_cases h1:j < off
 ·rw [List.getElem?_append_left (by simp;omega),List.getElem?_take_of_lt h1]
 ·rw [List.getElem?_append_right (by simp;omega),List.getElem?_append_right (by simp;omega),List.getElem?_drop]
  congr 1
  simp only [List.length_take];omega
theorem PF{α:Type}{l v:List α}{off:Nat}(h:off + v.length≤l.length):(mg l off v).length=l.length:=by unfold mg;simp;omega
theorem Py{K K':St→Option R}(h:∀ s,qn (match x.bJ with | .mT ob off=>[.o ob off (wm E T)] | .Cs a _ _ _=>.a a :: v.sR | _=>[]) st s→K s=K' s):wh E T x v st K=wh E T x v st K':=by
 unfold wh;split
 ·rename_i ti vs hT hv
  cases hc:(Nat.beq vs.length ti.size && vs.all af.cell) with
  |false=>rfl
  |true=>
   simp only [cond_true];simp only [Bool.and_eq_true] at hc;have jD:=Nat.eq_of_beq_eq_true hc.1;split
   ·rename_i ob off hx
    rw [hx] at h;split
    ·rename_i ls ho
     split
     ·rename_i c hs
      refine aW rfl (h _ ⟨⟨rfl,rfl,rfl,rfl⟩,rfl,fun o l hl _ _=>?_,fun a A hA _ _=>hA,fun _ _ _=>rfl⟩);have vY:off + vs.length≤ls.length:=by
       unfold qe at hs;cases hb:Nat.ble (off + ti.size) ls.length with
       |false=>simp [hb] at hs
       |true=>rw [jD];exact Nat.le_of_ble_eq_true hb
      by_cases e:ob=o
      ·subst e
       rw [ho] at hl;cases hl;refine⟨mg ls off vs,by rw [ky,if_pos rfl],PF vY,fun j hj=>Vt vY fun hh=>hj _ (List.mem_singleton.2 rfl) ⟨rfl,hh.1,?_⟩⟩
       rw [show wm E T=vs.length by simp only [wm,hT];exact jD.symm];exact hh.2
      ·exact⟨l,by rw [ky,if_neg e];exact hl,rfl,fun _ _=>rfl⟩
     ·rfl
    ·rfl
   ·rename_i a sz i off hx
    rw [hx] at h;split
    ·rfl
    ·rename_i st' hs
     split
     ·refine aW rfl (dQ fun d=>aW ?_ rfl)
      split
      ·exact h _ (((xO hs).mono fun q hq=>List.mem_cons_of_mem _ (CB hv q hq)).gF (List.mem_cons_self ..))
      ·rfl
     ·rfl
   ·rfl
 ·rfl
theorem Pu{lo hi mx:Option ae}{K K':ae→St→Option R}(h:∀ v s,qn (fJ [x.bJ]) st s→K v s=K' v s):tf E T dst x lo hi mx st K=tf E T dst x lo hi mx st K':=by
 unfold tf
 repeat' (first | rfl | exact h _ _ (.refl _ _) | apply t8 | apply dQ | intro _ | split)
 all_goals
  rename_i hc _;refine h _ _ ((qn.refl _ _).LY (by rw [‹x.bJ=af.mq _›];simp [fJ]) ?_)
  simp only [Bool.or_eq_false_iff] at hc;simpa using hc.1.1.2
theorem LG{op:BinOp}{K K':ae→Option R}(h:∀ v,K v=K' v):IY E op T x y K=IY E op T x y K':=by rw [funext h]
theorem NV{op:UnOp}{K K':ae→Option R}(h:∀ v,K v=K' v):RF op x K=RF op x K':=by rw [funext h]
theorem CU{S D:TypeId}{K K':ae→St→Option R}(h:∀ v,K v st=K' v st):pt E S D x st K=pt E S D x st K':=by
 unfold pt
 repeat' (first | rfl | exact h _ | apply aW | apply dQ | intro _ | split)
theorem GW{ps:List (Nat×ae)}{K K':ae→St→Option R}(h:∀ v,K v st=K' v st):we E T ps st K=we E T ps st K':=by
 unfold we
 repeat' (first | rfl | exact h _ | apply aW | apply dQ | intro _ | split)
theorem GV{len:Nat}{ps:List (Nat×ae)}{K K':ae→St→Option R}(h:∀ v s,qn (mV (ps.map (·.2))) st s→K v s=K' v s):l9 E T dst len ps st K=l9 E T dst len ps st K':=by
 unfold l9
 repeat' (first | rfl | exact h _ _ ((C8 ‹mG _ _ _ _=some _›).y8 ‹St.arr _ _=none›) | apply aW | apply dQ | intro _ | split)
theorem Iw{K K':ae→St→Option R}(h:∀ v s,qn [] st s→K v s=K' v s):nC E T dst x y st K=nC E T dst x y st K':=by
 unfold nC
 repeat' (first | rfl | exact h _ _ ((qn.refl _ _).y8 ‹St.arr _ _=none›) | apply aW | apply dQ | intro _ | split)
theorem LQ{o:Nat}{ls:List af}{K K':ae→St→Option R}(h:∀ v s,qn [] st s→K v s=K' v s):Es E T o ls st K=Es E T o ls st K':=by
 unfold Es
 repeat' (first | rfl | exact h _ _ ((qn.refl _ _).SX ‹St.dJ _ _=none›) | apply aW | apply dQ | intro _ | split)
theorem Er{K K':ae→St→Option R}(h:∀ v s,qn (mV [x,y]) st s→K v s=K' v s):rp E T dst x y st K=rp E T dst x y st K':=by
 unfold rp
 repeat' (first | rfl |(have hb:=un ‹ae.qd _ _=some _›;exact h _ _ ((hb.mono fun q hq=>by simp [mV,hq]).y8 ‹St.arr _ _=none›)) | apply aW | apply dQ | intro _ | split)
 all_goals
  have hb:=un ‹ae.qd _ _=some _›;refine h _ _ ((hb.mono fun q hq=>by simp [mV,hq]).LY ?_ ‹St.arr _ _=none›)
  have hx:=‹x.bJ=af.mq _›;cases x<;>simp [ae.bJ] at hx;subst hx;simp [mV,ae.sR,fJ]
theorem Vr{u:Ty}{l:af}{d:List u.mZ}{c:List Nat}(h:RI st u l=some (d,c)):∀ q∈c,l = .mq q:=by
 unfold RI at h;split at h
 ·simp only [Option.some.injEq,Prod.mk.injEq] at h;obtain⟨_,rfl⟩:=h;intro q hq;cases hq
 ·split at h
  ·rename_i A _
   cases hc:(A.sh || !A.md.kX (Pj u) || eT _ st.pin ||(look st.fL _).isSome) with
   |true=>rw [hc] at h;cases h
   |false=>
    rw [hc,cond_false] at h;split at h
    ·simp only [Option.some.injEq,Prod.mk.injEq] at h;obtain⟨_,rfl⟩:=h;intro q hq;rw [List.mem_singleton.1 hq]
    ·cases h
  ·cases h
 ·cases h
theorem XC:∀{t:Ty} {ls r:List af} {d:t.mZ} {c:List Nat},FC st t ls=some (d,r,c)→(∀ q∈c,af.mq q∈ls)∧∀ l∈r,l∈ls:=by
 have bJ:∀{t:Ty} {ls r:List af} {d:t.mZ} {c:List Nat},(match ls with | []=>none | l :: r=>(l.vE st t).map fun d=>(d,r,([]:List Nat)))=some (d,r,c)→(∀ q∈c,af.mq q∈ls)∧∀ l∈r,l∈ls:=by
  intro t ls r d c h
  match ls,h with
  |l :: ls,h=>simp only [Option.map_eq_some_iff,Prod.mk.injEq] at h;obtain⟨_,_,_,rfl,rfl⟩:=h;exact⟨fun q hq=>(by cases hq),fun l hl=>List.mem_cons_of_mem _ hl⟩
 intro t;induction t with
 |int k=>exact fun h=>bJ h
 |bool=>exact fun h=>bJ h
 |str=>exact fun h=>bJ h
 |slice u _=>
  intro ls r d c h
  match ls,h with
  |[],h=>simp [FC] at h
  |l :: ls,h=>simp only [FC,Option.map_eq_some_iff,Prod.mk.injEq] at h;obtain⟨⟨d',c'⟩,hd,_,rfl,rfl⟩:=h;exact⟨fun q hq=>(by rw [←Vr hd q hq];exact List.mem_cons_self ..),fun l hl=>List.mem_cons_of_mem _ hl⟩
 |cX a b Ln Pa=>
  intro ls r d c h;simp only [FC] at h;split at h
  ·rename_i x r1 cc h1
   split at h
   ·rename_i y r2 cc2 h2
    simp only [Option.some.injEq,Prod.mk.injEq] at h;obtain⟨_,rfl,rfl⟩:=h;obtain⟨p1,p2⟩:=Ln h1;obtain⟨p3,p4⟩:=Pa h2;refine⟨fun q hq=>?_,fun l hl=>p2 l (p4 l hl)⟩;rcases List.mem_append.1 hq with hq | hq
    ·exact p1 q hq
    ·exact p2 _ (p3 q hq)
   ·cases h
  ·cases h
 |one a ih=>exact fun h=>ih h
 |arr n t _=>intro ls r d c h;cases h
theorem G6{t:Ty}:∀{ps:List (Nat×ae)} {i:Nat} {l:List t.mZ} {c:List Nat},tm t i ps st=some (l,c)→∀ q∈c,pD.a q∈mV (ps.map (·.2))
 |[],i,l,c,h=>by simp only [tm,Option.some.injEq,Prod.mk.injEq] at h;obtain⟨_,rfl⟩:=h;intro q hq;cases hq
 |(j,v) :: ps,i,l,c,h=>by
  simp only [tm] at h;cases hb:Nat.beq i j with
  |false=>rw [hb] at h;cases h
  |true=>
   rw [hb,cond_true] at h;split at h
   ·rename_i ls hl
    split at h
    ·rename_i d c0 hT
     split at h
     ·rename_i l' c' hr
      simp only [Option.some.injEq,Prod.mk.injEq] at h;obtain⟨_,rfl⟩:=h;intro q hq;simp only [List.map_cons,mV];rcases List.mem_append.1 hq with hq | hq
      ·exact List.mem_append_left _ (CB hl _ (Ny ((XC hT).1 q hq)))
      ·exact List.mem_append_right _ (G6 hr q hq)
     ·cases h
    ·cases h
   ·cases h
theorem qn.sX{W:List pD}{C:List Nat}{A:jB}(hC:∀ c∈C,pD.a c∈W)(hd:st.arr dst=none):qn W st {st with cI:=(dst,A) :: kM C st.cI}:=
 ⟨⟨rfl,rfl,rfl,rfl⟩,rfl,fun q l hl _ _=>⟨l,hl,rfl,fun _ _=>rfl⟩,fun x B hB hn _=>by
  have e1:x∉C:=fun e=>hn (hC x e);have e2:x≠dst:=fun e=>by subst e;rw [hd] at hB;cases hB
  simp only [St.arr,aw,yr,if_neg (Ne.symm e2),if_neg e1];exact hB,fun _ _ _=>rfl⟩
theorem Fz{len:Nat}{ps:List (Nat×ae)}{K K':ae→St→Option R}(h:∀ v s,qn (mV (ps.map (·.2))) st s→K v s=K' v s):kF E T dst len ps st K=kF E T dst len ps st K':=by
 unfold kF
 repeat' (first | rfl | exact h _ _ (qn.sX (G6 ‹tm _ _ _ _=some _›) ‹St.arr _ _=none›) | apply aW | apply dQ | intro _ | split)
theorem LE{b:Nat}{K K':ae→St→Option R}(hy:y.bJ = .mq b)(h:∀ v s,qn (mV [x,y]) st s→K v s=K' v s):qv E T dst x b st K=qv E T dst x b st K':=by
 have hb:pD.a b∈mV [x,y]:=by cases y<;>simp [ae.bJ] at hy;subst hy;simp [mV,ae.sR,fJ]
 unfold qv
 repeat' (first | rfl | exact h _ _ (qn.sX (fun c hc=>by rw [List.mem_singleton.1 hc];exact hb) ‹St.arr _ _=none›) | apply aW | apply dQ | intro _ | split)
 all_goals
  refine h _ _ (qn.sX (fun c hc=>?_) ‹St.arr _ _=none›);simp only [List.mem_cons,List.not_mem_nil,or_false] at hc;rcases hc with rfl | rfl
  ·have hx:=‹x.bJ=af.mq _›
   cases x<;>simp [ae.bJ] at hx;subst hx;simp [mV,ae.sR,fJ]
  ·exact hb
theorem Iy{a i o:Nat}{K K':St→Option R}(h:∀ s,j0 st s→s.et=st.et→K s=K' s):D8 st a i o K=D8 st a i o K':=by
 unfold D8
 repeat' (first | rfl | exact h _ ⟨rfl,rfl,rfl,rfl⟩ rfl | apply aW | apply dQ | intro _ | split)
theorem Tr{a sz i:Nat}{K K':St→Option R}(h:∀ s,j0 st s→s.et=st.et→K s=K' s):Am st a sz i K=Am st a sz i K':=by unfold Am;exact aW (h _ ⟨rfl,rfl,rfl,rfl⟩ rfl) rfl
theorem HW{a o:Nat}{K K':St→Option R}(h:∀ s,j0 st s→s.et=st.et→K s=K' s):zF st a o K=zF st a o K':=by
 unfold zF
 repeat' (first | rfl | exact h _ ⟨rfl,rfl,rfl,rfl⟩ rfl | apply aW | apply dQ | intro _ | split)
theorem MT{a sz i off:Nat}{K K':St→Option R}(h:∀ s,j0 st s→s.et=st.et→K s=K' s):tg E T a sz i off v st K=tg E T a sz i off v st K':=by
 unfold tg;split
 ·refine aW ?_ rfl
  split
  ·refine Iy fun s1 b1 r1=>Tr fun s2 b2 r2=>aW ?_ rfl
   split
   ·split
    ·refine aW rfl (HW fun s b r=>h s (b1.trans (b2.trans (j0.trans ⟨rfl,rfl,rfl,rfl⟩ b))) (r.trans (r2.trans r1)))
    ·rfl
   ·rfl
  ·refine aW ?_ rfl
   split
   ·split
    ·refine aW rfl (HW fun s b r=>h s (j0.trans ⟨rfl,rfl,rfl,rfl⟩ b) r)
    ·rfl
   ·rfl
  ·rfl
 ·rfl
theorem MM{K K':ae→St→Option R}(h:∀ v s,qn [] st s→K v s=K' v s):ro E T dst st K=ro E T dst st K':=by
 unfold ro
 repeat' (first | rfl | exact h _ _ ((qn.refl _ _).y8 ‹St.arr _ _=none›) | apply aW | apply dQ | intro _ | split)
theorem MU{a k:Nat}{K K':St→Option R}(h:∀ s,qn [.a a] st s→K s=K' s):th E T a k v st K=th E T a k v st K':=by
 unfold th
 repeat' (first | rfl | exact h _ ((qn.refl _ _).gF (List.mem_singleton.2 rfl)) | apply aW | apply dQ | intro _ | split)
theorem MV{K K':St→Option R}(h:∀ s,qn (match Ue st x with | some _=>[.all] | none=>match x.bJ with | .mT ob off=>[.o ob off (wm E T)] | .Cs a _ _ _=>.a a :: v.sR | .JY a _ _=>[.a a] | _=>[]) st s→K s=K' s):tj E T x v st K=tj E T x v st K':=by
 unfold tj;split
 ·rename_i hn;rw [hn] at h;exact MT fun s b r=>h s (qn.any b r)
 ·rename_i hn
  rw [hn] at h;split
  ·rename_i a k ha
   unfold aax at ha;split at ha
   ·rename_i a' k' n' hl
    cases ha;rw [hl] at h;exact MU h
   ·cases ha
  ·refine Py fun s hs=>h s (hs.mono fun q hq=>?_)
   split at hq
   ·rename_i hx;simpa only [hx] using hq
   ·rename_i hx;simpa only [hx] using hq
   ·cases hq
theorem MW{a sz i o:Nat}{W:List pD}{K K':St→Option R}(ha:pD.a a∈W)(hk:∀ p∈st.b9,p.2.any (af.LB a)=true→pD.k p.1∈W)(h:∀ s,qn W st s→K s=K' s):
  D8 st a i o (fun s1=>Am s1 a sz i K)=D8 st a i o (fun s1=>Am s1 a sz i K'):=by
 unfold D8;cases hA:look st.cI a with
 |none=>rfl
 |some A=>
  simp only;split
  ·rename_i uc
   refine t8 (fun _=>rfl) (fun hc=>dQ fun x=>t8 (fun wr=>?_) (fun _=>rfl));unfold Am;refine aW (h _ ?_) rfl;simp only [Bool.or_eq_false_iff] at hc;have MF:st.dJ o=none:=by simpa using hc.1.1.2
   simp only [Bool.and_eq_true,List.all_eq_true] at wr;refine⟨⟨rfl,rfl,rfl,rfl⟩,rfl,fun q ls hq hkq _=>⟨ls,?_,rfl,fun _ _=>rfl⟩,fun q B hB hn _=>?_,fun _ _ _=>rfl⟩
   ·have hoq:o≠q:=fun e=>by rw [e,hq] at MF;cases MF
    have vg:ls.any (af.LB a)=false:=by
     cases hm:ls.any (af.LB a) with
     |false=>rfl
     |true=>exact absurd (hk (q,ls) (dT hq) hm) hkq
    have key:∀{v:Nat} {ls:List af},ls.any (af.LB a)=false→ls.map (qg a v sz)=ls:=by
     intro v ls;induction ls with
     |nil=>intro _;rfl
     |cons l r ih=>
      intro hm;simp only [List.any_cons,Bool.or_eq_false_iff] at hm;rw [List.map_cons,ih hm.2]
      congr 1
      cases l with
      |Dt a' v' sz' i' off=>
       have:Nat.beq a' a=false:=by simpa [af.LB] using hm.1
       simp [qg,this]
      |_=>rfl
    have acX:∀(v:Nat) (l:List (Nat×List af)),look (l.map fun p=>(p.1,p.2.map (qg a v sz))) q=(look l q).map (·.map (qg a v sz)):=by
     intro v l;induction l with
     |nil=>rfl
     |cons p r ih=>
      obtain⟨k,m⟩:=p;rw [List.map_cons,aw,aw];by_cases e:k=q
      ·simp [e]
      ·simp only [e,if_false];exact ih
    simp only [St.dJ,acX,yt (show q∉([]:List Nat) by simp),aw,if_neg hoq]
    have GE:look st.b9 q=some ls:=hq;rw [GE,Option.map_some,key vg]
   ·have gU:a≠q:=fun e=>hn (by rw [←e];exact ha)
    have aa3:look (yf (JM a (st.dy a)) A.t x 0) q=none:=by
     cases hl:look (yf (JM a (st.dy a)) A.t x 0) q with
     |none=>rfl
     |some C=>have:=(wr.2 _ (dT hl));simp only [Bool.and_eq_true] at this;rw [hB] at this;simp at this
    simp only [St.arr,aw,if_neg gU,Lv,aa3];exact hB
  ·rfl
theorem LF{K K':ae→St→Option R}(h:∀ v s,qn (mV [x,y] ++ Vm st [x,y]) st s→K v s=K' v s):qw E T dst x y st K=qw E T dst x y st K':=by
 unfold qw;split
 ·rename_i b hb
  have hy:y.bJ = .mq b:=by
   unfold Wf at hb;split at hb
   ·rename_i b' hl
    split at hb
    ·rename_i B _
     cases hc:(!B.sh && Md.kX B.md .bP) with
     |false=>rw [hc] at hb;cases hb
     |true=>rw [hc,cond_true,Option.some.injEq] at hb;rw [hl,hb]
    ·cases hb
   ·cases hb
  exact LE hy fun v s hs=>h v s (hs.mono fun q hq=>List.mem_append_left _ hq)
 ·split
  ·rename_i a v sz i off hl
   refine aW ?_ rfl;have hW:Vm st [x,y] = .a (JM a v off) :: (st.b9.filter fun p=>p.2.any (af.LB a)).map fun p=>.k p.1:=by simp only [Vm,hl]
   have hx:x = .one (.Dt a v sz i off):=by cases x<;>simp [ae.bJ] at hl;rw [hl]
   refine MW (W:=mV [x,y] ++ Vm st [x,y]) ?_ ?_ fun s hs=>?_
   ·rw [hx];simp [mV,ae.sR,fJ]
   ·intro p hp hm
    rw [hW];exact List.mem_append_right _ (List.mem_cons_of_mem _ (List.mem_map.2 ⟨p,List.mem_filter.2 ⟨hp,hm⟩,rfl⟩))
   ·refine Er fun v' s' AK=>h v' s' (hs.trans (AK.mono fun q hq=>?_))
    simp only [mV,ae.sR,fJ,List.append_nil,List.mem_append,List.mem_singleton] at hq;rcases hq with rfl | hq
    ·rw [hW];exact List.mem_append_right _ (List.mem_cons_self ..)
    ·refine List.mem_append_left _ ?_
     simp only [mV,List.append_nil,List.mem_append];exact .inr hq
  ·exact Er fun v s hs=>h v s (hs.mono fun q hq=>List.mem_append_left _ hq)
theorem LI{b:Builtin}{ts:List TypeId}{vs:List ae}{K K':ae→St→Option R}(h:∀ v s,qn (mV vs ++ Vm st vs) st s→K v s=K' v s):ni E b dst ts vs st K=ni E b dst ts vs st K':=by
 unfold ni
 repeat' (first | rfl | exact h _ _ (.refl _ _) | exact LF h | apply aW | apply dQ | intro _ | split)
theorem LM{K K':ae→St→Option R}(h:∀ v s,qn [] st s→K v s=K' v s):qx E T dst st K=qx E T dst st K':=by
 unfold qx
 repeat' (first | rfl | exact h _ _ ((qn.refl _ _).y8 ‹St.arr _ _=none›) | apply aW | apply dQ | intro _ | split)
theorem MR{K K':ae→St→Option R}(h:∀ v,K v st=K' v st):te E T x y st K=te E T x y st K':=by
 unfold te
 repeat' (first | rfl | exact h _ | apply aW | apply dQ | intro _ | split)
theorem Ix{K K':ae→St→Option R}(h:∀ v s,qn (fJ [x.bJ]) st s→K v s=K' v s):nD E T x y v st K=nD E T x y v st K':=by
 unfold nD
 repeat' (first | rfl | exact h _ _ ((qn.refl _ _).gF (by rw [‹x.bJ=af.mq _›];simp [fJ])) | apply aW | apply dQ | intro _ | split)
def mO(s:iT):Prop:=∀{R:Type} {dst:Nat} {args:List ae} {st:St} {K K' KP KP':ae→St→Option R},
 (∀ v q,qn (s.Ju args st) st q→K v q=K' v q)→(∀ v q,j0 st q→KP v q=KP' v q)→s.run dst args st K KP=s.run dst args st K' KP'
def zt(L:kZ):Prop:=∀{R:Type} {st:St} {K K':Exit→St→Option R} {KP KP':ae→St→Option R},
 (∀ e q,j0 st q→K e q=K' e q)→(∀ v q,j0 st q→KP v q=KP' v q)→L.run st K KP=L.run st K' KP'
theorem IQ(hS:∀ f s,E.Ag f=some s→mO s){o:Oper}{K K' KP KP':ae→St→Option R}(h:∀ v s,qn (tu E o st) st s→K v s=K' v s)(hp:∀ v s,j0 st s→KP v s=KP' v s):
  lP E o st K KP=lP E o st K' KP':=by
 have h0:∀ v,K v st=K' v st:=fun v=>h v st (.refl _ _);have p0:∀ v,KP v st=KP' v st:=fun v=>hp v st (.refl _);unfold lP;split
 ·exact h0 _
 ·exact h0 _
 ·split
  ·exact aW (h0 _) (h0 _)
  ·rfl
 ·split<;>first | exact h0 _ | rfl
 ·refine aW (MM fun v s hs=>h v s (hs.mono fun q hq=>by cases hq)) ?_
  split
  ·exact LQ fun v s hs=>h v s (hs.mono fun q hq=>by cases hq)
  ·rfl
 ·split
  ·exact LQ fun v s hs=>h v s (hs.mono fun q hq=>by cases hq)
  ·rfl
 ·exact GW h0
 ·rename_i T len ia ho
  exact aW (Fz fun v s hs=>h v s (hs.mono fun q hq=>by rw [List.map_map] at hq;simp only [tu,ho];exact hq)) (GV fun v s hs=>h v s (hs.mono fun q hq=>by rw [List.map_map] at hq;simp only [tu,ho];exact hq))
 ·exact IZ h0
 ·rename_i T x v ho
  exact MV (fun s hs=>h _ s (hs.mono fun q hq=>by simp only [tu,ho];exact hq))
 ·exact LG h0
 ·exact NV h0
 ·exact CU h0
 ·exact Iw fun v s hs=>h v s (hs.mono fun q hq=>by cases hq)
 ·rename_i T x lo hi mx ho
  exact Pu fun v s hs=>h v s (hs.mono fun q hq=>by simpa only [tu,ho] using hq)
 ·exact Ac h0
 ·exact aW (GY h0) rfl
 ·exact Ad h0
 ·exact GZ h0
 ·split
  ·split
   ·exact h0 _
   ·rfl
  ·rfl
 ·rename_i c ho
  split
  ·rename_i b hb
   exact LI fun v s hs=>h v s (hs.mono fun q hq=>by simpa only [tu,ho,hb] using hq)
  ·rename_i f hf
   split
   ·rename_i s hs;exact hS _ s hs (fun v q hq=>h v q (hq.mono fun p hp=>by simpa only [tu,ho,hf,hs] using hp)) hp
   ·rfl
  ·rfl
 ·split
  ·split
   ·rfl
   ·exact h0 _
   ·rfl
  ·rfl
 ·split
  ·exact p0 _
  ·rfl
 ·exact LM fun v s hs=>h v s (hs.mono fun q hq=>by cases hq)
 ·exact MR h0
 ·rename_i T x k v ho
  exact Ix fun v s hs=>h v s (hs.mono fun q hq=>by simpa only [tu,ho] using hq)
 ·rfl
theorem E9(hS:∀ f s,E.Ag f=some s→mO s){o:Oper}{K K' KP KP':ae→St→Option R}(h:∀ v s,j0 st s→K v s=K' v s)(hp:∀ v s,j0 st s→KP v s=KP' v s):
 lP E o st K KP=lP E o st K' KP':=IQ hS (fun v s hs=>h v s hs.iH) hp
theorem QK{o:Oper}(ho:uu o.op=true)(hd:wV E o st=true){K K' KP KP':ae→St→Option R}(h0:∀ v,K v st=K' v st):
  lP E o st K KP=lP E o st K' KP':=by
 unfold lP;split<;>rename_i mb<;>simp only [mb,uu,Bool.false_eq_true] at ho
 ·exact h0 _
 ·exact h0 _
 ·split
  ·exact aW (h0 _) (h0 _)
  ·rfl
 ·split<;>first | exact h0 _ | rfl
 ·exact GW h0
 ·exact IZ h0
 ·exact LG h0
 ·exact NV h0
 ·exact CU h0
 ·simp only [wV,mb] at hd
  unfold tf
  repeat' (first | rfl | exact h0 _ | apply t8 | apply dQ | intro _ | split)
  all_goals simp_all
 ·exact Ac h0
 ·exact aW (GY h0) rfl
 ·exact Ad h0
 ·exact GZ h0
 ·split
  ·split
   ·exact h0 _
   ·rfl
  ·rfl
 ·split
  ·rename_i b hb
   simp only [hb] at ho;unfold ni;split
   ·repeat' (first | rfl | exact h0 _ | apply aW | apply dQ | intro _ | split)
   ·simp at ho
   ·repeat' (first | rfl | exact h0 _ | apply aW | apply dQ | intro _ | split)
   ·repeat' (first | rfl | exact h0 _ | apply aW | apply dQ | intro _ | split)
   ·rfl
  ·rename_i f hf;simp only [hf,Bool.false_eq_true] at ho
  ·rfl
 ·split
  ·split
   ·rfl
   ·exact h0 _
   ·rfl
  ·rfl
theorem Ae{d:Option Tmp}{v:ae}{K K':St→Option R}(h:∀ s,j0 st s→K s=K' s):oA d v st K=oA d v st K':=by
 cases d with
 |none=>exact h _ (.refl _)
 |some d=>exact aW rfl (h _ ⟨rfl,rfl,rfl,rfl⟩)
theorem C3(hS:∀ f s,E.Ag f=some s→mO s){all:List Oper}:∀{l:List Oper} {st:St} {K K':St→Option R} {KP KP':ae→St→Option R},(∀ s,j0 st s→K s=K' s)→(∀ v s,j0 st s→KP v s=KP' v s)→
  px E all l st K KP=px E all l st K' KP'
 |[],st,K,K',KP,KP',h,hp=>h _ (.refl _)
 |o :: rest,st,K,K',KP,KP',h,hp=>by
  have BY:∀ q,j0 st q→lP E o q (fun v st'=>oA o.dst v st' fun s=>px E all rest s K KP) KP=lP E o q (fun v st'=>oA o.dst v st' fun s=>px E all rest s K' KP') KP':=fun q hq=>
   E9 hS (fun v s hs=>Ae fun s' AK=>C3 hS (fun s'' Lk=>h _ (hq.trans (hs.trans (AK.trans Lk)))) (fun v s'' Lk=>hp _ _ (hq.trans (hs.trans (AK.trans Lk))))) (fun v s hs=>hp _ _ (hq.trans hs))
  have skip:∀ q,j0 st q→oA o.dst (.one .uB) q (fun s=>px E all rest s K KP)=oA o.dst (.one .uB) q (fun s=>px E all rest s K' KP'):=fun q hq=>
   Ae fun s hs=>C3 hS (fun s'' Lk=>h _ (hq.trans (hs.trans Lk))) (fun v s'' Lk=>hp _ _ (hq.trans (hs.trans Lk)))
  simp only [px];split
  ·exact BY _ (.refl _)
  ·split
   ·rfl
   ·split
    ·exact aW (aW (BY _ ⟨rfl,rfl,rfl,rfl⟩) (skip _ ⟨rfl,rfl,rfl,rfl⟩)) (aW (skip _ ⟨rfl,rfl,rfl,rfl⟩) (BY _ ⟨rfl,rfl,rfl,rfl⟩))
    ·exact skip _ (.refl _)
    ·rfl
theorem Tk(hS:∀ f s,E.Ag f=some s→mO s){all:List Oper}{A:List (List Nat)}{i:Nat}{o:Oper}{log:List (Nat×List pD)}{K K':List (Nat×List pD)→St→Option R}{KP KP':ae→St→Option R}
  (h:∀ lg s,j0 st s→K lg s=K' lg s) (hp:∀ v s,j0 st s→KP v s=KP' v s):Ez E all A i o log st K KP=Ez E all A i o log st K' KP':=by
 unfold Ez;refine aW (aW (E9 hS (fun v s hs=>Ae fun s' AK=>h _ _ (hs.trans AK)) fun v s hs=>hp _ _ hs) rfl) (aW (E9 hS (fun v s hs=>Ae fun s' AK=>h _ _ (hs.trans AK)) fun v s hs=>rfl) rfl)
theorem Dx(hS:∀ f s,E.Ag f=some s→mO s){all:List Oper}{A:List (List Nat)}:∀{l:List Nat} {log:List (Nat×List pD)} {st:St} {K K':St→Option R} {KP KP':ae→St→Option R},(∀ s,j0 st s→K s=K' s)→(∀ v s,j0 st s→KP v s=KP' v s)→
  FF E all A l log st K KP=FF E all A l log st K' KP'
 |[],log,st,K,K',KP,KP',h,hp=>h _ (.refl _)
 |i :: rest,log,st,K,K',KP,KP',h,hp=>by
  have BY:∀ o q,j0 st q→Ez E all A i o log q (fun lg s=>FF E all A rest lg s K KP) KP=Ez E all A i o log q (fun lg s=>FF E all A rest lg s K' KP') KP':=fun o q hq=>
   Tk hS (fun lg s hs=>Dx hS (fun s' AK=>h _ (hq.trans (hs.trans AK))) (fun v s' AK=>hp _ _ (hq.trans (hs.trans AK)))) (fun v s hs=>hp _ _ (hq.trans hs))
  have skip:∀(o:Oper) q,j0 st q→oA o.dst (.one .uB) q (fun s=>FF E all A rest log s K KP)=oA o.dst (.one .uB) q (fun s=>FF E all A rest log s K' KP'):=fun o q hq=>
   Ae fun s hs=>Dx hS (fun s'' Lk=>h _ (hq.trans (hs.trans Lk))) (fun v s'' Lk=>hp _ _ (hq.trans (hs.trans Lk)))
  simp only [FF,Ux];split
  ·rfl
  ·split
   ·exact BY _ _ (.refl _)
   ·split
    ·rfl
    ·split
     ·exact aW (aW (BY _ _ ⟨rfl,rfl,rfl,rfl⟩) (skip _ _ ⟨rfl,rfl,rfl,rfl⟩)) (aW (skip _ _ ⟨rfl,rfl,rfl,rfl⟩) (BY _ _ ⟨rfl,rfl,rfl,rfl⟩))
     ·exact skip _ _ (.refl _)
     ·rfl
theorem Vz(hS:∀ f s,E.Ag f=some s→mO s){ops:List Oper}{K K':St→Option R}{KP KP':ae→St→Option R}(h:∀ s,j0 st s→K s=K' s)(hp:∀ v s,j0 st s→KP v s=KP' v s):
  Tf E ops st K KP=Tf E ops st K' KP':=by
 unfold Tf;refine aW ?_ rfl;split
 ·exact aW (Dx hS h hp) rfl
 ·rfl
theorem N7(hS:∀ f s,E.Ag f=some s→mO s)(hL:∀ i L,E.nU i=some L→zt L)(c:Code):∀{st:St} {K K':Exit→St→Option R} {KP KP':ae→St→Option R},
  (∀ e s,j0 st s→K e s=K' e s)→(∀ v s,j0 st s→KP v s=KP' v s)→rW E c st K KP=rW E c st K' KP':=by
 induction c with
 |skip=>intro st K K' KP KP' h hp;exact h _ _ (.refl _)
 |region id ops draw=>
  intro st K K' KP KP' h hp;refine aW ?_ (C3 hS (fun s hs=>h _ s hs) hp);cases hl:E.nU (id + 1000000) with
  |some L=>exact hL _ _ hl h hp
  |none=>exact Vz hS (fun s hs=>h _ s hs) hp
 |seq a b Ln Pa=>
  intro st K K' KP KP' h hp;refine Ln (fun e s hs=>?_) hp;cases e with
  |normal=>exact Pa (fun e s' AK=>h e s' (hs.trans AK)) (fun v s' AK=>hp v s' (hs.trans AK))
  |_=>exact h _ s hs
 |cond c t e iht ihe=>
  intro st K K' KP KP' h hp;show(match (ev E st c).Eg with | some b=>bif b then rW E t st K KP else rW E e st K KP | none=>none)=(match (ev E st c).Eg with | some b=>bif b then rW E t st K' KP' else rW E e st K' KP' | none=>none)
  split
  ·exact aW (iht h hp) (ihe h hp)
  ·rfl
 |block id b ih=>
  intro st K K' KP KP' h hp;show(match E.nU id with
   |some L=>L.run st K KP
   |none=>rW E b st (fun e s=>match e with | .exit i=>(bif Nat.beq i id then K .normal s else K (.exit i) s) | e=>K e s) KP)=(match E.nU id with
   |some L=>L.run st K' KP'
   |none=>rW E b st (fun e s=>match e with | .exit i=>(bif Nat.beq i id then K' .normal s else K' (.exit i) s) | e=>K' e s) KP')
  split
  ·rename_i L hl;exact hL _ _ hl h hp
  ·refine ih (fun e s hs=>?_) hp
   cases e with
   |exit i=>exact aW (h _ s hs) (h _ s hs)
   |_=>exact h _ s hs
 |exit id=>intro st K K' KP KP' h hp;exact h _ _ (.refl _)
 |ret=>intro st K K' KP KP' h hp;exact h _ _ (.refl _)
 |_=>intros;rfl
end
end Go.Fx
namespace Go.Fx
section
variable {E:rQ} {st s:St} {o:Oper}
theorem LS(hD:∀ f s,E.Ag f=some s→oL s)(ho:uu o.op=true)(hd:wV E o st=true){u:Out}(h:FB E o st=some u):u=⟨u.v,st,true⟩:=by
 have h1:lP E o st (fun v _=>nT v st) (fun _ _=>none)=some u:=by exact(QK (E:=E) (st:=st) ho hd (K:=nT) (K':=fun v _=>nT v st) (KP:=MZ) (KP':=fun _ _=>none) (fun v=>rfl)).symm.trans h
 rw [AF hD h] at h1;obtain⟨v,q,b⟩:=u;cases b with
 |false=>cases h1
 |true=>simp only [r0,cond_true,nT,Option.some.injEq,Out.mk.injEq] at h1;rw [←h1.2.1]
theorem Xx(hD:∀ f s,E.Ag f=some s→oL s)(hS:∀ f s,E.Ag f=some s→mO s){u:Out}(h:FB E o st=some u):j0 st u.s∧(u.ok=true→qn (tu E o st) st u.s):=by
 classical
 have h1:lP E o st (fun v q=>if qn (tu E o st) st q then nT v q else none) (fun v q=>if j0 st q then MZ v q else none)=some u:=by rw [←h];exact(IQ hS (fun v q hq=>(if_pos hq).symm) (fun v q hq=>(if_pos hq).symm)).symm
 rw [AF hD h] at h1;obtain⟨v,q,b⟩:=u;cases b with
 |false=>
  simp only [r0,cond_false] at h1;split at h1
  ·rename_i hb;exact⟨hb,fun e=>by cases e⟩
  ·cases h1
 |true=>
  simp only [r0,cond_true] at h1;split at h1
  ·rename_i hb;exact⟨hb.iH,fun _=>hb⟩
  ·cases h1
def rY(st s:St):pD→Prop
 |.o ob off n=>∀ ls,st.dJ ob=some ls→∃ wd,s.dJ ob=some wd∧wd.length=ls.length∧∀ j,off≤j→j < off + n→wd[j]? = ls[j]?
 |.a a=>(∀ A,st.arr a=some A→s.arr a=some A)∧s.dy a=st.dy a
 |.k _=>True
 |.all=>True
theorem rY.refl(st:St):∀ p,rY st st p
 |.o _ _ _=>fun ls h=>⟨ls,h,rfl,fun _ _ _=>rfl⟩
 |.a _=>⟨fun _ h=>h,rfl⟩
 |.k _=>trivial
 |.all=>trivial
theorem rY.trans{a b c:St}:∀{p:pD},rY a b p→rY b c p→rY a c p
 |.o _ _ _,h,k=>fun ls hl=>by obtain⟨l1,h1,h2,h3⟩:=h ls hl;obtain⟨l2,k1,k2,k3⟩:=k l1 h1;exact⟨l2,k1,k2.trans h2,fun j a b=>(k3 j a b).trans (h3 j a b)⟩
 |.a _,h,k=>⟨fun A hA=>k.1 A (h.1 A hA),k.2.trans h.2⟩
 |.k _,_,_=>trivial
 |.all,_,_=>trivial
theorem qn.kW{W:List pD}(h:qn W st s){p:pD}(hp:∀ q∈W,SB p q=true):rY st s p:=by
 cases p with
 |o ob off n=>
  intro ls hl;obtain⟨l1,h1,h2,h3⟩:=h.dJ ob ls hl (fun hk=>by have:=hp _ hk;simp [SB] at this) (fun hk=>by have:=hp _ hk;simp [SB] at this)
  refine⟨l1,h1,h2,fun j a b=>h3 j fun q hq hh=>?_⟩;have:=hp q hq;cases q with
  |a x=>exact hh
  |k x=>exact hh
  |all=>exact hh
  |o ob' abt n'=>obtain⟨rfl,h4,h5⟩:=hh;simp only [SB,Nat.beq_refl,Bool.not_true,Bool.false_or,Bool.or_eq_true] at this;rcases this with e | e<;>have:=Nat.le_of_ble_eq_true e<;>omega
 |a x=>
  have hn:pD.a x∉W:=fun hx=>by have:=hp _ hx;simp [SB] at this
  have ha:pD.all∉W:=fun hk=>by have:=hp _ hk;simp [SB] at this
  exact⟨fun A hA=>h.arr x A hA hn ha,h.Dc x hn ha⟩
 |k x=>trivial
 |all=>trivial
theorem zR{st s:St}(h1:s.b9=st.b9)(h2:s.cI=st.cI)(h3:s.fL=st.fL)(h4:s.Dc=st.Dc)(p:pD):rY st s p:=by
 cases p with
 |o ob off n=>exact fun ls hl=>⟨ls,by simpa only [St.dJ,h1] using hl,rfl,fun _ _ _=>rfl⟩
 |a x=>exact⟨fun A hA=>(by simpa only [St.arr,h2,h3] using hA),by simp only [St.dy,h4]⟩
 |k x=>trivial
 |all=>trivial
theorem Td{st s:St}{o off n:Nat}{ls wd:List af}{c:List af}(hb:s.cz=st.cz)(hl:wd.length=ls.length)(hj:∀ j,off≤j→j < off + n→wd[j]? = ls[j]?)(h:qe (st.jO o 0 ls) off n=some c):qe (s.jO o 0 wd) off n=some c:=by
 have vE:∀(q:St) (l:List af) (i j:Nat),(q.jO o i l)[j]? = (l[j]?).map (q.res o (i + j)):=by
  intro q l;induction l with
  |nil=>intro i j;simp [St.jO]
  |cons x l ih=>
   intro i j;cases j with
   |zero=>simp [St.jO]
   |succ j=>simp only [St.jO,List.getElem?_cons_succ];rw [ih,show i + 1 + j=i + (j + 1) by omega]
 have zO:∀ j l,s.res o j l=st.res o j l:=fun j l=>by cases l<;>simp [St.res,hb]
 unfold qe at h ⊢;rw [iF] at h ⊢;rw [hl];cases hc:Nat.ble (off + n) ls.length with
 |false=>simp [hc] at h
 |true=>
  simp only [hc,cond_true,Option.some.injEq] at h ⊢;rw [←h];apply List.ext_getElem?;intro k;by_cases hk:k < n
  ·rw [List.getElem?_take_of_lt hk,List.getElem?_take_of_lt hk,List.getElem?_drop,List.getElem?_drop,vE,vE,hj _ (by omega) (by omega)]
   congr 1
   funext l;exact zO _ l
  ·rw [List.getElem?_eq_none (by simp;omega),List.getElem?_eq_none (by simp;omega)]
theorem To(ho:uu o.op=true)(hd:wV E o st=true)(hb:j0 st s)(he:∀ x∈o.op.operands,ev E s x=ev E st x)(hk:∀ p∈uY E o st,rY st s p):
  wV E o s=true∧∀{R:Type} {r:R} {K:ae→Option R},lP E o st (fun v _=>K v) (fun _ _=>none)=some r→lP E o s (fun v _=>K v) (fun _ _=>none)=some r:=by
 have hbl:s.cz=st.cz:=hb.2.2.1;have mq:∀{x:Operand} {a:Nat},(ev E st x).bJ = .mq a→(∀ p∈fJ [(ev E st x).bJ],rY st s p)→∀ A,st.arr a=some A→s.arr a=some A:=fun {x a} hx hh A hA=>(hh (.a a) (by rw [hx];simp [fJ])).1 A hA
 constructor
 ·unfold wV at hd ⊢
  split
  ·rename_i T x lo hi mx mb
   simp only [mb] at hd;rw [he x (by simp [mb,Op.operands])]
   split
   ·rename_i a ha
    rw [ha] at hd;simp only at hd;cases hA:st.arr a with
    |none=>simp [hA] at hd
    |some A=>rw [mq ha (fun p hp=>hk p (by simp only [uY,mb];exact hp)) A hA];simpa [hA] using hd
   ·rfl
  ·rfl
 ·intro R r K h
  unfold lP at h ⊢;split at h<;>rename_i mb<;>simp only [mb,uu,Bool.false_eq_true] at ho
  ·rw [he _ (by simp [mb,Op.operands])];exact h
  ·rw [he _ (by simp [mb,Op.operands])];exact h
  ·rename_i c a b
   rw [he c (by simp [mb,Op.operands]),he a (by simp [mb,Op.operands]),he b (by simp [mb,Op.operands])];exact h
  ·rw [he _ (by simp [mb,Op.operands])];exact h
  ·rename_i T ia
   have:(ia.toList.map fun p=>(p.1,ev E s p.2))=ia.toList.map fun p=>(p.1,ev E st p.2):=List.map_congr_left fun p hp=>by rw [he p.2 (by simp [mb,Op.operands];exact⟨p.1,by simpa using hp⟩)]
   rw [this];exact h
  ·rename_i T x
   rw [he x (by simp [mb,Op.operands])]
   have hk:∀ p∈(match (ev E st x).bJ with | .mT ob off=>[pD.o ob off (wm E T)] | .Cs a _ _ _=>[.a a] | .JY a _ _=>[.a a] | _=>[]),rY st s p:=fun p hp=>hk p (by simp only [uY,mb];exact hp)
   unfold xG at h ⊢;split at h
   ·cases h
   ·rename_i ti hT
    simp only [hT];split at h
    ·rename_i ob off hx
     rw [hx] at hk;split at h
     ·rename_i ls hl
      obtain⟨wd,h1,h2,h3⟩:=hk _ (List.mem_singleton.2 rfl) ls hl;split at h
      ·rename_i c hc
       have mw:wm E T=ti.size:=by simp [wm,hT]
       rw [mw] at h3;simp only [h1,Td hbl h2 h3 hc];exact h
      ·cases h
     ·cases h
    ·exact h
    ·exact h
    ·rename_i a sz i off hx
     rw [hx] at hk;split at h
     ·rename_i A hA
      have hv:=(hk _ (List.mem_singleton.2 rfl)).2;simp only [(hk _ (List.mem_singleton.2 rfl)).1 A hA,hv];exact h
     ·cases h
    ·rename_i a k n hx
     rw [hx] at hk;split at h
     ·rename_i A hA
      simp only [(hk _ (List.mem_singleton.2 rfl)).1 A hA];exact h
     ·cases h
    ·cases h
  ·rename_i op T x y ty
   rw [he x (by simp [mb,Op.operands]),he y (by simp [mb,Op.operands])];exact h
  ·rename_i op T x
   rw [he x (by simp [mb,Op.operands])];exact h
  ·rename_i S D x
   rw [he x (by simp [mb,Op.operands])]
   have hk:∀ p∈fJ [(ev E st x).bJ],rY st s p:=fun p hp=>hk p (by simp only [uY,mb];exact hp)
   have hA:∀ a,(ev E st x).bJ = .mq a→∀ A,st.arr a=some A→s.arr a=some A:=fun a hx=>mq hx hk;revert h hA;generalize ev E st x=X;intro h hA;unfold pt at h ⊢;split at h
   ·rename_i si di hS hD
    split at h
    ·exact h
    ·exact h
    ·rename_i l
     split at h
     ·exact h
     ·rename_i a _
      split at h
      ·rename_i A hA'
       have:=hA a rfl A hA';simp only [this];exact h
      ·cases h
     ·cases h
    ·cases h
   ·cases h
  ·rename_i T x lo hi mx
   have hk:∀ p∈fJ [(ev E st x).bJ],rY st s p:=fun p hp=>hk p (by simp only [uY,mb];exact hp)
   rw [he x (by simp [mb,Op.operands])]
   have e1:lo.map (ev E s)=lo.map (ev E st):=by cases lo<;>simp;exact he _ (by simp [mb,Op.operands])
   have e2:hi.map (ev E s)=hi.map (ev E st):=by cases hi<;>simp;exact he _ (by simp [mb,Op.operands])
   have e3:mx.map (ev E s)=mx.map (ev E st):=by cases mx<;>simp;exact he _ (by simp [mb,Op.operands])
   rw [e1,e2,e3];simp only [wV,mb] at hd;have hA:∀ a,(ev E st x).bJ = .mq a→∀ A,st.arr a=some A→s.arr a=some A:=fun a hx=>mq hx hk;revert hd h hA;generalize (ev E st x)=X;generalize lo.map (ev E st)=LO;generalize hi.map (ev E st)=HI;generalize mx.map (ev E st)=MX;intro h hd hA;unfold tf at h ⊢;split at h
   ·exact h
   ·split at h
    ·split at h
     ·rename_i hX;simp only [hX];exact h
     ·rename_i a hX
      rw [hX] at hd;split at h
      ·rename_i A hA'
       have:=hA a hX A hA';simp only [hA'] at hd;simp only [hX,this];simp only [hd,cond_true] at h ⊢;exact h
      ·cases h
     ·cases h
    ·cases h
   ·cases h
  ·rename_i T x f
   rw [he x (by simp [mb,Op.operands])];exact h
  ·rename_i T x f
   rw [he x (by simp [mb,Op.operands])];exact h
  ·rename_i T x i
   have hk:∀ p∈fJ [(ev E st x).bJ],rY st s p:=fun p hp=>hk p (by simp only [uY,mb];exact hp)
   rw [he x (by simp [mb,Op.operands]),he i (by simp [mb,Op.operands])]
   have hA:∀ a,(ev E st x).bJ = .mq a→∀ A,st.arr a=some A→s.arr a=some A:=fun a hx=>mq hx hk;revert h hA;generalize ev E st x=X;generalize ev E st i=Y;intro h hA;unfold mf at h ⊢;split at h
   ·split at h
    ·split at h
     ·rename_i hX;simp only [hX];exact h
     ·rename_i a hX
      split at h
      ·rename_i A hA'
       simp only [hX,hA a hX A hA'];exact h
      ·cases h
     ·cases h
    ·cases h
   ·split at h
    ·split at h
     ·rename_i a hX
      split at h
      ·rename_i A hA'
       simp only [hX,hA a hX A hA'];exact h
      ·cases h
     ·rename_i hX;simp only [hX];exact h
     ·cases h
    ·cases h
   ·cases h
  ·rename_i T x i
   rw [he x (by simp [mb,Op.operands]),he i (by simp [mb,Op.operands])];exact h
  ·rename_i x n
   rw [he x (by simp [mb,Op.operands])];exact h
  ·rename_i c
   have hk:∀ p∈mV (c.args.toList.map (ev E st)),rY st s p:=fun p hp=>hk p (by simp only [uY,mb];exact hp)
   have ea:c.args.toList.map (ev E s)=c.args.toList.map (ev E st):=List.map_congr_left fun x hx=>he x (by simp [mb,Op.operands,Call.operands];exact .inr (by simpa using hx))
   rw [ea];split at h
   ·rename_i b hb
    simp only [hb] at ho ⊢;have aec:∀{v:ae} {n:Int},(∀ p∈v.sR,rY st s p)→lenOf st v.bJ=some n→lenOf s v.bJ=some n:=fun {v n} hv hn=>by
     cases v with
     |one l=>
      cases l with
      |mq a=>
       simp only [ae.bJ,lenOf] at hn ⊢;cases hA:st.arr a with
       |none=>simp [hA] at hn
       |some A=>rw [(hv (.a a) (by simp [ae.sR,fJ])).1 A hA];simpa [hA] using hn
      |eX t d=>cases t<;>exact hn
      |_=>exact hn
     |_=>exact hn
    revert hk h;generalize c.args.toList.map (ev E st)=vs;intro hk h;unfold ni at h ⊢;split at h
    ·rename_i v
     split at h
     ·exact h
     ·split at h
      ·rename_i a vr sz i off hl
       have hve:v = .one (.Dt a vr sz i off):=by cases v<;>simp [ae.bJ] at hl;rw [hl]
       have hka:=hk (.a a) (by rw [hve];simp [mV,ae.sR,fJ])
       split at h
       ·rename_i A hA
        simp only [hka.1 A hA,hka.2];exact h
       ·cases h
      ·split at h
       ·rename_i n h2 h3
        simp only [aec (fun p hp=>hk p (by simp [mV,hp])) h2,h3];exact h
       ·cases h
     ·cases h
    ·simp at ho
    ·exact h
    ·exact h
    ·cases h
   ·rename_i f hf;simp only [hf,Bool.false_eq_true] at ho
   ·cases h
  ·rename_i T x
   rw [he x (by simp [mb,Op.operands])];exact h
end
end Go.Fx
namespace Go.Fx
section
variable {P:Program} {E:rQ} (hE:iy P E.ir) {X:mo} {st:St} {G:Gh} {w:World}
include hE
theorem R6{o:Oper}{act:Act}{v:ae}(hs:uu o.op=true)(hd:wV E o st=true)(h:FB E o st=some ⟨v,st,true⟩)(ye:mX E.gt X.S0)(hm:aB X st G w)(hr:bI G st act):
  ∃ u G',(execOp act.eval o).run P w = .ok (.value u) w∧aB X st G' w∧(∀ a,bI G st a→bI G' st a)∧aT G' v u:=by
 have hg:mX E.gt G.S:=ye.mono hm.s0;have kU:∀{s:Sem Value},(∃ av u,s.run P w = .ok u w∧aT G av u∧nT av st=some ⟨v,st,true⟩)→(execOp act.eval o=do pure (.value (←s)))→
   ∃ u G',(execOp act.eval o).run P w = .ok (.value u) w∧aB X st G' w∧(∀ a,bI G st a→bI G' st a)∧aT G' v u:=fun {s} ⟨av,u,h1,h2,h3⟩ he=>by
  simp only [nT,Option.some.injEq,Out.mk.injEq] at h3;exact⟨u,G,by rw [he,Sem.run_bind,h1];rfl,hm,fun _ h=>h,by rw [←h3.1];exact h2⟩
 have MD:∀{av:ae} {u:Value},nT av st=some ⟨v,st,true⟩→aT G av u→(execOp act.eval o).run P w = .ok (.value u) w→
   ∃ u G',(execOp act.eval o).run P w = .ok (.value u) w∧aB X st G' w∧(∀ a,bI G st a→bI G' st a)∧aT G' v u:=fun {av u} h3 h2 he=>by
  simp only [nT,Option.some.injEq,Out.mk.injEq] at h3;exact⟨u,G,he,hm,fun _ h=>h,by rw [←h3.1];exact h2⟩
 unfold FB lP at h;split at h<;>rename_i ho<;>simp only [ho,uu,Bool.false_eq_true] at hs
 ·rename_i x
  exact MD h (fy hg hr x) (by simp [execOp,ho])
 ·rename_i x
  exact MD h (fy hg hr x) (by simp [execOp,ho])
 ·rename_i c a b
  cases hc:(ev E st c).Eg with
  |none=>simp [hc] at h
  |some b'=>
   simp only [hc] at h;have hb:=ve hc (fy hg hr c);cases b' with
   |true=>simp only [cond_true] at h;exact MD h (fy hg hr a) (by simp only [execOp,ho,hb];rfl)
   |false=>simp only [cond_false] at h;exact MD h (fy hg hr b) (by simp only [execOp,ho,hb];rfl)
 ·rename_i x
  have hx:=fy hg hr x;have key:(∃ a,act.eval x = .pointer (some a))→nT (ev E st x) st=some ⟨v,st,true⟩→∃ u G',(execOp act.eval o).run P w = .ok (.value u) w∧aB X st G' w∧(∀ a,bI G st a→bI G' st a)∧aT G' v u:=fun⟨a,ha⟩ hk=>
   MD hk hx (by simp only [execOp,ho,ha];rfl)
  cases hv:ev E st x with
  |one l=>
   rw [hv] at h hx key;cases l with
   |mT ob off=>exact key ⟨_,hx⟩ (by simpa [ae.bJ] using h)
   |Cs a sz i off=>obtain⟨b,len,cap,h1,h2,h3⟩:=hx;exact key ⟨_,h3⟩ (by simpa [ae.bJ] using h)
   |M5 t d off=>obtain⟨b,arr,elem,fz,pre,cs,post,h1,h2,h3,h4⟩:=hx;exact key ⟨_,h4⟩ (by simpa [ae.bJ] using h)
   |_=>simp [ae.bJ] at h
  |_=>rw [hv] at h;simp [ae.bJ] at h
 ·rename_i T ia
  refine kU (LH hE h hm (GR hg hr _)) ?_;have:(List.map (fun p=>(p.1,act.eval p.2)) ia.toList).toArray=ia.map fun(i,x)=>(i,act.eval x):=by rw [←Array.toList_map]
  rw [this];simp only [execOp,ho]
 ·rename_i T x
  exact kU (Iv hE h hm (fy hg hr x)) (by simp only [execOp,ho])
 ·rename_i op T x y u
  exact kU (Rt hE h hm (fy hg hr x) (fy hg hr y)) (by simp only [execOp,ho];rfl)
 ·rename_i op T x
  exact kU (Uh h (fy hg hr x)) (by simp only [execOp,ho])
 ·rename_i S D x
  exact kU (GX hE h hm (fy hg hr x)) (by simp only [execOp,ho])
 ·rename_i T x lo hi mx
  have opt:∀(q:Option Operand),(∀ a,q.map (ev E st)=some a→∃ v,q.map act.eval=some v∧aT G a v)∧(q.map (ev E st)=none→q.map act.eval=none):=fun q=>by
   cases q with
   |none=>simp
   |some x=>simp;exact fy hg hr x
  obtain⟨av,u,st',G',h1,h2,h3,h4,h5⟩:=LR hE h hm (fy hg hr x) (opt lo).1 (opt lo).2 (opt hi).1 (opt hi).2 (opt mx).2;simp only [nT,Option.some.injEq,Out.mk.injEq,and_true] at h5;obtain⟨rfl,rfl⟩:=h5;exact⟨u,G',by simp only [execOp,ho,Sem.run_bind,h1];rfl,h2,h3,h4⟩
 ·rename_i T x f
  exact kU (CV hE h (fy hg hr x)) (by simp only [execOp,ho])
 ·rename_i T x f
  cases ha:(ev E st x).isAgg with
  |false=>simp [ha] at h
  |true=>simp only [ha,cond_true] at h;exact kU (LK hE h hm (fy hg hr x) (CF ha (fy hg hr x))) (by simp only [execOp,ho])
 ·rename_i T x i
  exact kU (CW hE h hm (fy hg hr x) (fy hg hr i)) (by simp only [execOp,ho])
 ·rename_i T x i
  exact kU (LL hE h (fy hg hr x) (fy hg hr i)) (by simp only [execOp,ho])
 ·rename_i x n
  have hx:=fy hg hr x;split at h
  ·rename_i vs hv
   rw [hv] at hx;obtain⟨us,hu,ha⟩:=hx;cases hn:vs[n]? with
   |none=>simp [hn] at h
   |some p=>
    simp only [hn] at h;obtain⟨u,hu2,hp⟩:=ha.vE hn;refine kU (s:=Instr.extract (act.eval x) n) ⟨_,u,by simp [Instr.extract,hu,hu2],?_,h⟩ (by simp only [execOp,ho])
    unfold CX;split at hp
    ·rename_i hc;simp only [hc,cond_true];exact hp
    ·rename_i hc
     obtain⟨l,e,hl⟩:=hp;simp only [Bool.not_eq_true] at hc;simp only [hc,cond_false,e];exact hl
  ·cases h
 ·rename_i c
  split at h
  ·rename_i b hb
   simp only [hb] at hs;have wZ:=Pi hg hr c.args.toList;obtain⟨cs0,Fm⟩:∃ cs0,(execOp act.eval o).run P w=(builtin b c.argTypes o.type cs0 (c.args.map act.eval)).run P w:=
    ⟨_,by simp only [execOp,ho,resolve,hb,Sem.run_bind,Sem.run_pure,Result.andThen_ok,invoke];rfl⟩
   have e1:(List.map act.eval c.args.toList).toArray=c.args.map act.eval:=by rw [←Array.toList_map]
   have e2:c.argTypes.toList.toArray=c.argTypes:=by simp
   rw [←e1,←e2] at Fm;revert h Fm wZ;generalize c.args.toList.map (ev E st)=vs;generalize c.args.toList.map act.eval=us;generalize c.argTypes.toList=ts;intro h wZ Fm;unfold ni at h;split at h
   ·rename_i v'
    obtain⟨u,rfl⟩:∃ u,us = [u]:=by
     cases us with
     |nil=>exact wZ.elim
     |cons u us=>cases us with
      |nil=>exact⟨u,rfl⟩
      |cons _ _=>exact wZ.2.elim
    cases ts with
    |nil=>simp at h
    |cons t ts=>
     simp only [List.getElem?_cons_zero,Option.bind_some] at h;split at h
     ·rename_i hT
      split at h
      ·rename_i s hs
       cases BG hs wZ.1;have hu:=(hE _ _ hT).str;exact MD h (kz .i64 _) (by rw [Fm];simp [builtin,Builtin.len_,run_underlying hu,ke,goInt];rfl)
      ·cases h
     ·rename_i hT
      split at h
      ·rename_i a vr sz i off hl
       have hr:=wZ.1;rw [show v' = .one (.Dt a vr sz i off) by cases v'<;>simp [ae.bJ] at hl;rw [hl]] at hr
       split at h
       ·rename_i A hA
        cases hc:(A.sh || !Md.kX A.md .bP || !Nat.beq vr (st.dy a) || !Nat.beq sz A.t.size || !A.t.rm) with
        |true=>rw [hc] at h;cases h
        |false=>
         rw [hc,cond_false] at h;obtain⟨x,hx,h⟩:=Option.bind_eq_some_iff.1 h;split at h
         ·rename_i n hn
          obtain⟨b,m,c,hv',rfl⟩:=NR hE hm hr hA hc hx hn;exact MD h (kz .i64 _) (by rw [Fm];simp only [builtin,Sem.run_bind,Kk hE hT hv',Result.andThen_ok,Sem.run_pure])
         ·cases h
       ·cases h
      ·split at h
       ·rename_i n hn hs
        obtain⟨a,m,c,hv',rfl⟩:=Rx hE hn hs hm wZ.1;exact MD h (kz .i64 _) (by rw [Fm];simp only [builtin,Sem.run_bind,Kk hE hT hv',Result.andThen_ok,Sem.run_pure])
       ·cases h
     ·cases h
   ·simp at hs
   ·rename_i v' vs
    cases us with
    |nil=>exact wZ.elim
    |cons u us=>
     split at h
     ·rename_i k a hi
      split at h
      ·rename_i n hn
       cases pW hi wZ.1;exact MD h (kz _ _) (by rw [Fm];simp only [builtin,Builtin.min_,Sem.run_bind,KZ hn wZ.2,Result.andThen_ok,Sem.run_pure])
      ·cases h
     ·cases h
   ·rename_i v' vs
    cases us with
    |nil=>exact wZ.elim
    |cons u us=>
     split at h
     ·rename_i k a hi
      split at h
      ·rename_i n hn
       cases pW hi wZ.1;exact MD h (kz _ _) (by rw [Fm];simp only [builtin,Builtin.max_,Sem.run_bind,KY hn wZ.2,Result.andThen_ok,Sem.run_pure])
      ·cases h
     ·cases h
   ·cases h
  ·rename_i f hf;simp only [hf,Bool.false_eq_true] at hs
  ·cases h
 ·rename_i T x
  cases hT:E.ir T with
  |none=>simp [hT] at h
  |some ti=>
   simp only [hT] at h;obtain⟨d,u1,u2⟩:=(hE T ti hT).uB;split at h
   ·cases h
   ·rename_i ls hl hd
    refine kU (s:=Instr.makeInterface T (act.eval x)) ⟨.y5 T ls,.iface T (act.eval x),?_,⟨_,_,rfl,rfl,mm hm hl (fy hg hr x)⟩,h⟩ (by simp only [execOp,ho])
    simp only [Instr.makeInterface,Sem.run_bind,run_underlying u1,Result.andThen_ok];generalize ti.iA=q at u2 hd;cases d with
    |interface _=>cases q<;>first | exact u2.elim | exact(hd rfl).elim
    |_=>rfl
   ·cases h
end
end Go.Fx
namespace Go.Fx
theorem gE:∀{x:Nat} {l:List Nat},eT x l=true↔x∈l
 |x,[]=>by simp [eT]
 |x,y :: r=>by
  simp only [eT,Bool.or_eq_true,List.mem_cons,gE (l:=r)];constructor
  ·rintro(h | h)
   ·exact .inl (Nat.eq_of_beq_eq_true h)
   ·exact .inr h
  ·rintro(h | h)
   ·left;subst h;simp
   ·exact .inr h
theorem KS(e:Edge):eb e=Region.binds .any e:=by unfold eb Region.binds;cases e.ground<;>rfl
def M6(all:List Oper)(i k:Nat):Prop:=∃ o,all[i]? = some o∧∃ e∈o.after,eb e=true∧e.on=k
def Clo(all:List Oper)(L:Nat→Prop):Prop:=∀ i k,L i→M6 all i k→L k
inductive Reach(all:List Oper):Nat→Nat→Prop where
 |one {i k:Nat}:M6 all i k→Reach all i k
 |abk {i j k:Nat}:M6 all i j→Reach all j k→Reach all i k
theorem Clo.RS{all:List Oper}{L:Nat→Prop}(h:Clo all L){i k:Nat}(r:Reach all i k):L i→L k:=by
 induction r with
 |one a=>exact fun hi=>h _ _ hi a
 |abk a _ ih=>exact fun hi=>ih (h _ _ hi a)
theorem Clo.ready{all:List Oper}{L:Nat→Prop}(h:Clo all L){i k:Nat}(hi:∀ k,M6 all i k→L k)(r:Reach all i k):L k:=by
 cases r with
 |one a=>exact hi _ a
 |abk a r=>exact h.RS r (hi _ a)
theorem Mc{k:Nat}:∀{l m:List Nat},k∈VF l m→k∈l∨k∈m
 |[],m,h=>.inr h
 |x :: r,m,h=>by
  simp only [VF] at h;cases hb:eT x m with
  |true=>
   simp only [hb,cond_true] at h;rcases Mc h with h | h
   ·exact .inl (List.mem_cons_of_mem _ h)
   ·exact .inr h
  |false=>
   simp only [hb,cond_false] at h;rcases Mc h with h | h
   ·exact .inl (List.mem_cons_of_mem _ h)
   ·rcases List.mem_cons.1 h with rfl | h
    ·exact .inl (List.mem_cons_self ..)
    ·exact .inr h
theorem Nr{acc:List (List Nat)}{k:Nat}:∀{l:List Edge} {m:List Nat},k∈l.foldl (fun m e=>bif eb e then VF (e.on :: acc.getD e.on []) m else m) m→
  k∈m∨∃ e∈l,eb e=true∧(k=e.on∨k∈acc.getD e.on [])
 |[],m,h=>.inl h
 |e :: l,m,h=>by
  rw [List.foldl_cons] at h;rcases Nr h with h |⟨e',h1,h2,h3⟩
  ·cases hb:eb e with
   |false=>simp only [hb,cond_false] at h;exact .inl h
   |true=>
    simp only [hb,cond_true] at h;rcases Mc h with h | h
    ·refine .inr ⟨e,List.mem_cons_self ..,hb,?_⟩
     rcases List.mem_cons.1 h with h | h
     ·exact .inl h
     ·exact .inr h
    ·exact .inl h
  ·exact .inr ⟨e',List.mem_cons_of_mem _ h1,h2,h3⟩
theorem TE{all:List Oper}:∀(rest pre:List Oper) (acc:List (List Nat)),all=pre ++ rest→acc.length=pre.length→(∀ i k,k∈acc.getD i []→Reach all i k)→
  ∀ i k,k∈(iG rest acc).getD i []→Reach all i k
 |[],pre,acc,_,_,h,i,k,hk=>h i k hk
 |o :: r,pre,acc,fj,jD,h,i,k,hk=>by
  simp only [iG] at hk;refine TE r (pre ++ [o]) _ (by rw [fj];simp) (by simp [jD]) (fun i k hk=>?_) i k hk
  rcases Nat.lt_trichotomy i acc.length with hi | hi | hi
  ·rw [List.getD_eq_getElem?_getD,List.getElem?_append_left hi,←List.getD_eq_getElem?_getD] at hk
   exact h i k hk
  ·subst hi
   simp only [List.getD_eq_getElem?_getD,List.getElem?_concat_length,Option.getD_some] at hk;rcases Nr hk with hk |⟨e,h1,h2,h3⟩
   ·cases hk
   ·have ha:M6 all acc.length e.on:=⟨o,by rw [fj,jD];simp,e,by simpa using h1,h2,rfl⟩
    rcases h3 with rfl | h3
    ·exact .one ha
    ·exact .abk ha (h _ _ (by rw [List.getD_eq_getElem?_getD];simpa [List.getD_eq_getElem?_getD] using h3))
  ·rw [List.getD_eq_getElem?_getD,List.getElem?_eq_none (by simp;omega)] at hk
   cases hk
theorem Df{all:List Oper}{i k:Nat}(h:k∈(iG all []).getD i []):Reach all i k:=
 TE all [] [] rfl rfl (fun i k h=>by simp at h) i k h
theorem Kj{all:List Oper}{done:List Nat}{i:Nat}:rdy all done i=true↔i∉done∧∃ o,all[i]? = some o∧∀ e∈o.after,eb e=true→e.on∈done:=by
 unfold rdy;cases ho:all[i]? with
 |none=>simp
 |some o=>
  simp only [Bool.and_eq_true,Bool.not_eq_true',List.all_eq_true,Bool.or_eq_true,Option.some.injEq,exists_eq_left'];constructor
  ·rintro⟨h1,h2⟩
   refine⟨(fun h=>(by rw [gE.2 h] at h1;cases h1)),fun e he hb=>?_⟩
   rcases h2 e (by simpa using he) with h | h
   ·rw [hb] at h;cases h
   ·exact gE.1 h
  ·rintro⟨h1,h2⟩
   refine⟨(by
    cases hm:eT i done with
    |false=>rfl
    |true=>exact absurd (gE.1 hm) h1),fun e he=>?_⟩
   cases hb:eb e with
   |false=>exact .inl rfl
   |true=>exact .inr (gE.2 (h2 e (by simpa using he) hb))
theorem Kc{all:List Oper}{done:List Nat}{k:Nat}:k∈(List.range all.length).filter (rdy all done)↔rdy all done k=true:=by rw [List.mem_filter,List.mem_range];refine⟨fun h=>h.2,fun h=>⟨?_,h⟩⟩;obtain⟨_,o,ho,_⟩:=Kj.1 h;exact(List.getElem?_eq_some_iff.1 ho).1
theorem HT{all:List Oper}{A:List (List Nat)}:∀{n:Nat} {done:List Nat},∃ l,l∈iL all A n done
 |0,_=>⟨[],List.mem_singleton.2 rfl⟩
 |n + 1,done=>by
  simp only [iL];split
  ·exact⟨[],List.mem_singleton.2 rfl⟩
  ·rename_i i r _
   split
   ·rename_i k _
    obtain⟨l,hl⟩:=HT (all:=all) (A:=A) (n:=n) (done:=k :: done);exact⟨k :: l,List.mem_map_of_mem hl⟩
   ·obtain⟨l,hl⟩:=HT (all:=all) (A:=A) (n:=n) (done:=i :: done)
    exact⟨i :: l,List.mem_flatMap.2 ⟨i,List.mem_cons_self ..,List.mem_map_of_mem hl⟩⟩
theorem L4{all:List Oper}{A:List (List Nat)}{k:Nat}:I7 all A k=true↔∃ o,all[k]? = some o∧pv all A k o=false:=by
 unfold I7;cases h:all[k]? with
 |none=>simp
 |some o=>simp
end Go.Fx
namespace Go.Fx
theorem bI.put{G:Gh}{st:St}{act:Act}{d:Tmp}{av:ae}{v:Value}(hr:bI G st act)(hd:d < st.n)(hv:aT G av v):bI G (st.jQ d av) (act.put (some d) v):=by
 obtain⟨h1,h2,h3⟩:=hr;refine⟨h1,by simp [Act.put,h2,St.jQ],fun i x hx=>?_⟩
 rw [qa] at hx;simp only [Act.put];by_cases e:d=i
 ·subst e
  simp only [if_true,Option.some.injEq] at hx;subst hx;have:d < act.tmps.size:=by rw [h2];exact hd
  simpa [Array.getD,this] using hv
 ·simp only [e,if_false] at hx
  have:=h3 i x hx;simpa [Array.getD_eq_getD_getElem?,Array.getElem?_setIfInBounds,e] using this
theorem bI.refine{G:Gh}{st:St}{act:Act}{d:Nat}{av:ae}(hr:bI G st act)(hv:aT G av (act.tmps.getD d undef)):bI G (st.jQ d av) act:=by
 obtain⟨h1,h2,h3⟩:=hr;refine⟨h1,h2,fun i x hx=>?_⟩;rw [qa] at hx;by_cases e:d=i
 ·subst e;simp only [if_true,Option.some.injEq] at hx;subst hx;exact hv
 ·simp only [e,if_false] at hx;exact h3 i x hx
theorem aB.jQ{X:mo}{st:St}{G:Gh}{w:World}(hm:aB X st G w)(d:Nat)(av:ae):aB X (st.jQ d av) G w:=
 {
  sl:=hm.sl,sh:=hm.sh,ob:=fun o ls h=>by obtain⟨arr,elem,mid,g1,g2,g3⟩:=hm.ob o ls h;refine⟨arr,elem,mid,g1,g2,?_⟩;unfold hZ at g3 ⊢;rw [jP (st:=st) (fun j l=>by simp)];exact g3
  ar:=hm.ar,ah:=hm.ah,nd:=hm.nd,pO:=hm.pO,dS:=hm.dS,sD:=hm.sD,s0:=hm.s0,sn:=hm.sn,fr:=hm.fr,sz:=hm.sz,os:=hm.os,tp:=hm.tp,out:=hm.out,pin:=hm.pin,bv:=hm.bv,ap:=hm.ap,hv:=hm.hv,ds:=hm.ds,hh:=hm.hh}
def xI(d:Option Tmp)(v:ae)(st:St):Option St:=oA d v st some
theorem NZ{d:Option Tmp}{v:ae}{st:St}{R:Type}{r:R}{K:St→Option R}(h:oA d v st K=some r):∃ s,xI d v st=some s∧K s=some r:=by
 cases d with
 |none=>exact⟨st,rfl,h⟩
 |some d=>
  simp only [xI,oA] at h ⊢;cases hc:((look st.jd d).isSome || Nat.ble st.n d) with
  |true=>simp [hc] at h
  |false=>simp only [hc,cond_false] at h ⊢;exact⟨_,rfl,h⟩
theorem Af{d:Option Tmp}{v:ae}{st s:St}(h:xI d v st=some s):
  j0 st s∧s.b9=st.b9∧s.cI=st.cI∧(∀ t,(∀ e,d=some e→e≠t)→s.ib t=st.ib t)∧(∀ e,d=some e→s.ib e=some v∧e < st.n):=by
 cases d with
 |none=>simp only [xI,oA,Option.some.injEq] at h;subst h;exact⟨.refl _,rfl,rfl,fun _ _=>rfl,fun _ h=>by cases h⟩
 |some d=>
  simp only [xI,oA] at h;cases hc:((look st.jd d).isSome || Nat.ble st.n d) with
  |true=>simp [hc] at h
  |false=>
   simp only [hc,cond_false,Option.some.injEq] at h;subst h;simp only [Bool.or_eq_false_iff] at hc;refine⟨⟨rfl,rfl,rfl,rfl⟩,rfl,rfl,fun t ht=>by rw [qa,if_neg (ht d rfl)],fun e he=>?_⟩
   cases he;refine⟨by rw [qa,if_pos rfl],?_⟩
   rcases Nat.lt_or_ge d st.n with h | h
   ·exact h
   ·have:=Nat.ble_eq_true_of_le h;rw [this] at hc;cases hc.2
theorem LW{d:Option Tmp}{v:ae}{st s:St}(h:xI d v st=some s):s.Dc=st.Dc:=by
 cases d with
 |none=>simp only [xI,oA,Option.some.injEq] at h;subst h;rfl
 |some d=>
  simp only [xI,oA] at h;cases hc:((look st.jd d).isSome || Nat.ble st.n d) with
  |true=>simp [hc] at h
  |false=>simp only [hc,cond_false,Option.some.injEq] at h;subst h;rfl
theorem RP{d:Option Tmp}{v:ae}{st s:St}(h:xI d v st=some s){X:mo}{G:Gh}{w:World}(hm:aB X st G w):aB X s G w:=by
 cases d with
 |none=>simp only [xI,oA,Option.some.injEq] at h;subst h;exact hm
 |some d=>
  simp only [xI,oA] at h;cases hc:((look st.jd d).isSome || Nat.ble st.n d) with
  |true=>simp [hc] at h
  |false=>simp only [hc,cond_false,Option.some.injEq] at h;subst h;exact hm.jQ d v
theorem RO{d:Option Tmp}{v:ae}{u:Value}{st s:St}(h:xI d v st=some s){G:Gh}{act:Act}(hr:bI G st act)(hv:aT G v u):bI G s (act.put d u):=by
 cases d with
 |none=>simp only [xI,oA,Option.some.injEq] at h;subst h;exact hr
 |some d=>
  obtain⟨_,_,_,_,h5⟩:=Af h;have hd:=(h5 d rfl).2;simp only [xI,oA] at h;cases hc:((look st.jd d).isSome || Nat.ble st.n d) with
  |true=>simp [hc] at h
  |false=>simp only [hc,cond_false,Option.some.injEq] at h;subst h;exact hr.put hd hv
end Go.Fx
namespace Go.Fx
def uG(st s:St):Prop:=j0 st s∧s.b9=st.b9∧(s.cI=st.cI∧s.Dc=st.Dc)∧∀ t,s.ib t=st.ib t
theorem uG.refl(st:St):uG st st:=⟨.refl _,rfl,⟨rfl,rfl⟩,fun _=>rfl⟩
theorem Hh{st:St}{g:Nat}{v:ae}(h:st.ib g=some v):uG st (st.jQ g v):=
 ⟨⟨rfl,rfl,rfl,rfl⟩,rfl,⟨rfl,rfl⟩,fun t=>by
  rw [qa];by_cases e:g=t
  ·subst e;rw [if_pos rfl,h]
  ·rw [if_neg e]⟩
theorem uG.Ew{st s:St}(h:uG st s){X:mo}{G:Gh}{w:World}(hm:aB X st G w):aB X s G w:=by
 obtain⟨⟨h1,h2,h3,h4⟩,h5,⟨h6,h8⟩,h7⟩:=h;have ho:∀ o,s.dJ o=st.dJ o:=fun o=>by simp only [St.dJ,h5]
 have ha:∀ a,s.arr a=st.arr a:=fun a=>by simp only [St.arr,h6,(Prod.mk.inj h4).1]
 have zO:∀ o j l,s.res o j l=st.res o j l:=fun o j l=>by cases l<;>simp [St.res,h3]
 have jo:∀ x b,eU G s x b→eU G st x b:=fun x b hx=>by
  obtain⟨k,n⟩:=x;cases k with
  |false=>obtain⟨⟨ls,e⟩,e2⟩:=hx;exact⟨⟨ls,by rw [←ho];exact e⟩,e2⟩
  |true=>obtain⟨⟨A,e,e2⟩,e3⟩:=hx;exact⟨⟨A,by rw [←ha];exact e,e2⟩,e3⟩
 exact {
   sl:=hm.sl,sh:=hm.sh,ob:=fun o ls h=>(by
    obtain⟨arr,elem,mid,g1,g2,g3⟩:=hm.ob o ls (by rw [←ho];exact h)
    refine⟨arr,elem,mid,g1,g2,?_⟩;unfold hZ at g3 ⊢;rw [jP (st:=st) (fun j l=>zO o j l)];exact g3)
   ar:=fun a A h=>hm.ar a A (by rw [←ha];exact h),ah:=fun a A h=>hm.ah a A (by rw [←ha];exact h),nd:=fun a A h=>hm.nd a A (by rw [←ha];exact h)
   pO:=fun x y b hx hy=>hm.pO x y b (jo x b hx) (jo y b hy),dS:=fun x b hx=>hm.dS x b (jo x b hx),sD:=fun x b hx=>hm.sD x b (jo x b hx)
   s0:=hm.s0,sn:=hm.sn,fr:=hm.fr,sz:=hm.sz,os:=hm.os,tp:=hm.tp,out:=hm.out
   pin:=fun o p h=>(by obtain⟨⟨ls,e⟩,e2⟩:=hm.pin o p h;exact⟨⟨ls,by rw [ho];exact e⟩,e2⟩)
   bv:=fun o j u h=>(by obtain⟨e1,⟨ls,e2,e3⟩,e4⟩:=hm.bv o j u h;exact⟨by rw [h3];exact e1,⟨ls,by rw [ho];exact e2,e3⟩,e4⟩),ap:=fun a u h=>(by obtain⟨e1,⟨A,e2⟩,e3⟩:=hm.ap a u h;exact⟨by rw [(Prod.mk.inj h4).2];exact e1,⟨A,by rw [ha];exact e2⟩,e3⟩),hv:=fun a=>(by rw [hm.hv a];simp only [St.dy,h8]),ds:=hm.ds,hh:=fun a A h=>hm.hh a A (by rw [←ha];exact h)}
theorem uG.et{st s:St}(h:uG st s){G:Gh}{act:Act}(hr:bI G st act):bI G s act:=
 ⟨hr.1,hr.2.1.trans h.1.1.symm,fun i v hv=>hr.2.2 i v (by rw [←h.2.2.2];exact hv)⟩
section
variable (E:rQ) (all:List Oper)
def Wnt(o:Oper)(s:St):Prop:=o.guard=none∨∃ j rX g,o.guard=some (j,rX)∧pS all j=some g∧s.ib g=some (.one (.eX .bool rX))
def Unw(o:Oper)(s:St):Prop:=∃ j rX g,o.guard=some (j,rX)∧pS all j=some g∧(s.ib g=some (.one .uB)∨s.ib g=some (.one (.eX .bool (!rX))))
def Cf(i:Nat)(log:List (Nat×List pD))(st:St)(next:List (Nat×List pD)→St→Prop)(KPok:ae→St→Prop):Prop:=
 ∃ o,all[i]? = some o∧∃ za,uG st za∧
  ((Unw all o za∧∃ s,xI o.dst (.one .uB) za=some s∧next log s)∨
   (Wnt all o za∧
    (pv all (iG all []) i o=true→log.all (fun p=>eT p.1 ((iG all []).getD i []) || Gc p.2 (tu E o za))=true∧
     ∃ u,FB E o za=some u∧(u.ok=true→∃ s,xI o.dst u.v u.s=some s∧next log s)∧(u.ok=false→KPok u.v u.s))∧
    (pv all (iG all []) i o=false→wV E o za=true∧∃ v,FB E o za=some ⟨v,za,true⟩∧∃ s,xI o.dst v za=some s∧next ((i,uY E o za) :: log) s)))
def uC(Kok:St→Prop)(KPok:ae→St→Prop):Nat→List Nat→List (Nat×List pD)→St→Prop
 |0,_,_,st=>Kok st
 |n + 1,done,log,st=>(match (List.range all.length).filter (rdy all done) with
  |[]=>Kok st
  |i :: r=>(match (i :: r).find? (I7 all (iG all [])) with
   |some k=>Cf E all k log st (uC Kok KPok n (k :: done)) KPok
   |none=>∀ k∈i :: r,Cf E all k log st (uC Kok KPok n (k :: done)) KPok))
theorem Cf.mono{i:Nat}{log:List (Nat×List pD)}{st:St}{next aai:List (Nat×List pD)→St→Prop}{KPok Qf:ae→St→Prop}(h:Cf E all i log st next KPok)(hn:∀ lg s,next lg s→aai lg s)(hp:∀ v s,KPok v s→Qf v s):Cf E all i log st aai Qf:=by
 obtain⟨o,h1,za,h2,h3⟩:=h;refine⟨o,h1,za,h2,?_⟩;rcases h3 with ⟨h3,s1,h4,h5⟩ |⟨h3,h4,h5⟩
 ·exact .inl ⟨h3,s1,h4,hn _ _ h5⟩
 ·refine .inr ⟨h3,fun ht=>?_,fun ht=>?_⟩
  ·obtain⟨g1,u,g2,g3,g4⟩:=h4 ht
   exact⟨g1,u,g2,fun hu=>(by obtain⟨s1,g5,g6⟩:=g3 hu;exact⟨s1,g5,hn _ _ g6⟩),fun hu=>hp _ _ (g4 hu)⟩
  ·obtain⟨g1,v,g2,s1,g3,g4⟩:=h5 ht
   exact⟨g1,v,g2,s1,g3,hn _ _ g4⟩
theorem uC.mono{Kok abW:St→Prop}{KPok Qf:ae→St→Prop}(hk:∀ s,Kok s→abW s)(hp:∀ v s,KPok v s→Qf v s):∀{n:Nat} {done:List Nat} {log:List (Nat×List pD)} {st:St},uC E all Kok KPok n done log st→uC E all abW Qf n done log st
 |0,_,_,_,h=>hk _ h
 |n + 1,done,log,st,h=>by
  unfold uC at h ⊢;split
  ·rename_i hf;rw [hf] at h;exact hk _ h
  ·rename_i i r hf
   rw [hf] at h;simp only at h;split
   ·rename_i k hk';rw [hk'] at h;exact h.mono E all (fun lg s=>uC.mono hk hp) hp
   ·rename_i hk';rw [hk'] at h;exact fun k hkm=>(h k hkm).mono E all (fun lg s=>uC.mono hk hp) hp
inductive Yx(n:Nat)(done:List Nat):Prop where
 |r0:iL all (iG all []) n done = [[]]→(∀ Kok KPok log st,uC E all Kok KPok n done log st→Kok st)→((∀ i,rdy all done i=false)∨n=0)→Yx n done
 |I7 (m k:Nat):n=m + 1→rdy all done k=true→(∀ o,all[k]? = some o→pv all (iG all []) k o=false)→(∀ r∈iL all (iG all []) m (k :: done),k :: r∈iL all (iG all []) n done)→
  (∀ Kok KPok log st,uC E all Kok KPok n done log st→Cf E all k log st (uC E all Kok KPok m (k :: done)) KPok)→Yx n done
 |ads (m:Nat):n=m + 1→(∃ k,rdy all done k=true)→(∀ k,rdy all done k=true→(∀ o,all[k]? = some o→pv all (iG all []) k o=true)∧(∀ r∈iL all (iG all []) m (k :: done),k :: r∈iL all (iG all []) n done)∧
  (∀ Kok KPok log st,uC E all Kok KPok n done log st→Cf E all k log st (uC E all Kok KPok m (k :: done)) KPok))→Yx n done
def kV(n:Nat)(done:List Nat):Prop:=(iL all (iG all []) n done = [[]]∧∀ Kok KPok log st,uC E all Kok KPok n done log st→Kok st)∨
 ∃ m,n=m + 1∧(∃ k,rdy all done k=true)∧∀ k,rdy all done k=true→(∀ o,all[k]? = some o→pv all (iG all []) k o=true)∧(∀ r∈iL all (iG all []) m (k :: done),k :: r∈iL all (iG all []) n done)∧
  (∀ Kok KPok log st,uC E all Kok KPok n done log st→Cf E all k log st (uC E all Kok KPok m (k :: done)) KPok)
theorem ZE(n:Nat)(done:List Nat):Yx E all n done:=by
 cases n with
 |zero=>exact .r0 rfl (fun _ _ _ _ h=>h) (.inr rfl)
 |succ n=>
  cases hf:(List.range all.length).filter (rdy all done) with
  |nil=>
   refine .r0 (by simp only [iL,hf]) (fun _ _ _ _ h=>by unfold uC at h;rw [hf] at h;exact h) (.inl fun i=>?_)
   cases hr:rdy all done i with
   |false=>rfl
   |true=>have:=Kc.2 hr;rw [hf] at this;cases this
  |cons i r=>
   cases hs:(i :: r).find? (Go.Fx.I7 all (iG all [])) with
   |some k=>
    have hm:=List.mem_of_find?_eq_some hs;rw [←hf] at hm;obtain⟨o,h1,h2⟩:=L4.1 (List.find?_some hs);refine .I7 n k rfl (Kc.1 hm) (fun o' ho'=>by rw [h1] at ho';cases ho';exact h2) (fun r' O7=>?_) (fun _ _ _ _ h=>?_)
    ·simp only [iL,hf,hs];exact List.mem_map_of_mem O7
    ·unfold uC at h;rw [hf] at h;simp only [hs] at h;exact h
   |none=>
    refine .ads n rfl ⟨i,Kc.1 (by rw [hf];exact List.mem_cons_self ..)⟩ fun k hk=>?_
    have hm:=Kc.2 hk;rw [hf] at hm;refine⟨fun o ho=>?_,fun r' O7=>?_,fun _ _ _ _ h=>?_⟩
    ·cases ht:pv all (iG all []) k o with
     |true=>rfl
     |false=>exact absurd (L4.2 ⟨o,ho,ht⟩) (by have:=List.find?_eq_none.1 hs k hm;simpa using this)
    ·simp only [iL,hf,hs];exact List.mem_flatMap.2 ⟨k,hm,List.mem_map_of_mem O7⟩
    ·unfold uC at h;rw [hf] at h;simp only [hs] at h;exact h k hm
end
section
variable {E:rQ} {all:List Oper}
theorem sW{A:List (List Nat)}{i:Nat}{o:Oper}(h:pv all A i o=false):uu o.op=true:=by unfold pv at h;simp only [Bool.or_eq_false_iff,Bool.not_eq_false'] at h;exact h.1
variable (hD:∀ f s,E.Ag f=some s→oL s)
include hD
omit hD in
theorem LV{ι:Type}(x0:ι){R:Type}{r:R}{d:Option Tmp}{v:ae}{st:St}{K:ι→St→Option R}(h:∀ x,oA d v st (K x)=some r):∃ s,xI d v st=some s∧∀ x,K x s=some r:=by obtain⟨s,h1,_⟩:=NZ (h x0);refine⟨s,h1,fun x=>?_⟩;obtain⟨s',h3,h4⟩:=NZ (h x);rw [h1] at h3;cases h3;exact h4
theorem Yd{ι:Type}(x0:ι){R:Type}{r:R}{i:Nat}{log:List (Nat×List pD)}{st:St}{K:ι→List (Nat×List pD)→St→Option R}{KP:ae→St→Option R}(h:∀ x,Ux E all (iG all []) i log st (K x) KP=some r):
  Cf E all i log st (fun lg s=>∀ x,K x lg s=some r) (fun v s=>KP v s=some r):=by
 simp only [Ux] at h;split at h
 ·cases h x0
 ·rename_i o ho
  refine⟨o,ho,?_⟩;have BY:∀{za:St},(∀ x,Ez E all (iG all []) i o log za (K x) KP=some r)→
    (pv all (iG all []) i o=true→log.all (fun p=>eT p.1 ((iG all []).getD i []) || Gc p.2 (tu E o za))=true∧
     ∃ u,FB E o za=some u∧(u.ok=true→∃ s,xI o.dst u.v u.s=some s∧∀ x,K x log s=some r)∧(u.ok=false→KP u.v u.s=some r))∧
    (pv all (iG all []) i o=false→wV E o za=true∧∃ v,FB E o za=some ⟨v,za,true⟩∧∃ s,xI o.dst v za=some s∧∀ x,K x ((i,uY E o za) :: log) s=some r):=fun {za} h=>by
   unfold Ez at h;constructor
   ·intro ht
    simp only [ht,cond_true] at h;cases hl:(log.all fun p=>eT p.1 ((iG all []).getD i []) || Gc p.2 (tu E o za)) with
    |false=>simp only [hl,cond_false] at h;cases h x0
    |true=>
     simp only [hl,cond_true] at h;obtain⟨u,h1,_⟩:=zG hD (h x0);have h2:∀ x,r0 (fun v st'=>oA o.dst v st' (K x log)) KP u=some r:=fun x=>by obtain⟨u',h3,h4⟩:=zG hD (h x);rw [h1] at h3;cases h3;exact h4
     refine⟨rfl,u,h1,fun hu=>?_,fun hu=>?_⟩
     ·exact LV x0 (K:=fun x=>K x log) fun x=>by simpa only [r0,hu,cond_true] using h2 x
     ·simpa only [r0,hu,cond_false] using h2 x0
   ·intro ht
    simp only [ht,cond_false] at h;cases hd:wV E o za with
    |false=>simp only [hd,cond_false] at h;cases h x0
    |true=>
     simp only [hd,cond_true] at h;obtain⟨u,h1,_⟩:=zG hD (h x0);have hu:=LS hD (sW ht) hd h1;have h2:∀ x,oA o.dst u.v za (K x ((i,uY E o za) :: log))=some r:=fun x=>by obtain⟨u',h3,h4⟩:=zG hD (h x);rw [h1] at h3;cases h3;rw [hu] at h4;simpa only [r0,cond_true] using h4
     rw [hu] at h1;exact⟨rfl,u.v,h1,LV x0 (K:=fun x=>K x ((i,uY E o za) :: log)) h2⟩
  have skip:∀{za:St},(∀ x,oA o.dst (.one .uB) za (K x log)=some r)→∃ s,xI o.dst (.one .uB) za=some s∧∀ x,K x log s=some r:=fun {za} h=>LV x0 (K:=fun x=>K x log) h;split at h
  ·rename_i hg
   exact⟨st,.refl _,.inr ⟨.inl hg,BY h⟩⟩
  ·rename_i j rX hg
   split at h
   ·cases h x0
   ·rename_i g hgd
    split at h
    ·rename_i c vZ
     cases c with
     |true=>
      simp only [cond_true] at h;have hs:=Hh vZ;have hre:(st.jQ g (.one (.eX .bool true))).ib g=some (.one (.eX .bool true)):=by rw [qa,if_pos rfl]
      cases rX with
      |true=>simp only [cond_true] at h;exact⟨_,hs,.inr ⟨.inr ⟨j,_,g,hg,hgd,hre⟩,BY h⟩⟩
      |false=>simp only [cond_false] at h;exact⟨_,hs,.inl ⟨⟨j,_,g,hg,hgd,.inr hre⟩,skip h⟩⟩
     |false=>
      simp only [cond_false] at h;have hs:=Hh vZ;have hre:(st.jQ g (.one (.eX .bool false))).ib g=some (.one (.eX .bool false)):=by rw [qa,if_pos rfl]
      cases rX with
      |true=>simp only [cond_true] at h;exact⟨_,hs,.inl ⟨⟨j,_,g,hg,hgd,.inr hre⟩,skip h⟩⟩
      |false=>simp only [cond_false] at h;exact⟨_,hs,.inr ⟨.inr ⟨j,_,g,hg,hgd,hre⟩,BY h⟩⟩
    ·rename_i vZ
     exact⟨st,.refl _,.inl ⟨⟨j,_,g,hg,hgd,.inl vZ⟩,skip h⟩⟩
    ·cases h x0
theorem RW{R:Type}{r:R}{K:St→Option R}{KP:ae→St→Option R}:∀{n:Nat} {done:List Nat} {log:List (Nat×List pD)} {st:St},(∀ l∈iL all (iG all []) n done,FF E all (iG all []) l log st K KP=some r)→
  uC E all (fun s=>K s=some r) (fun v s=>KP v s=some r) n done log st
 |0,done,log,st,h=>h [] (List.mem_singleton.2 rfl)
 |n + 1,done,log,st,h=>by
  have one:∀ k,(∀ l∈iL all (iG all []) n (k :: done),k :: l∈iL all (iG all []) (n + 1) done)→Cf E all k log st (uC E all (fun s=>K s=some r) (fun v s=>KP v s=some r) n (k :: done)) (fun v s=>KP v s=some r):=fun k hk=>by obtain⟨l0,hl0⟩:=HT (all:=all) (A:=iG all []) (n:=n) (done:=k :: done);refine(Yd hD (ι:={l // l∈iL all (iG all []) n (k :: done)}) ⟨l0,hl0⟩ (K:=fun x lg s=>FF E all (iG all []) x.1 lg s K KP) (fun x=>h (k :: x.1) (hk x.1 x.2))).mono E all (fun lg s hn=>RW fun l hl=>hn ⟨l,hl⟩) (fun _ _ h=>h)
  unfold uC;split
  ·rename_i hf
   exact h [] (by simp only [iL,hf];exact List.mem_singleton.2 rfl)
  ·rename_i i r hf
   split
   ·rename_i k hs
    exact one k fun l hl=>by simp only [iL,hf,hs];exact List.mem_map_of_mem hl
   ·rename_i hs
    exact fun k hkm=>one k fun l hl=>by simp only [iL,hf,hs];exact List.mem_flatMap.2 ⟨k,hkm,List.mem_map_of_mem hl⟩
end
end Go.Fx
namespace Go.Fx
theorem vp{all:List Oper}{o:Oper}{j g:Nat}{rX:Bool}(h:o.guard=some (j,rX))(hg:pS all j=some g):g∈sj all o:=by simp [sj,h,hg]
theorem Rl{t:Nat}:∀{l:List Operand},Operand.tmp t∈l→t∈PU l
 |x :: r,h=>by
  rcases List.mem_cons.1 h with rfl | h
  ·exact List.mem_cons_self ..
  ·have:=Rl h
   cases x<;>first | exact List.mem_cons_of_mem _ this | exact this
theorem Ep{all:List Oper}{o:Oper}{t:Nat}(h:Operand.tmp t∈o.op.operands):t∈sj all o:=
 List.mem_append_right _ (Rl (by simpa using h))
theorem HY{o:Oper}{l:List Nat}:QH o l=true↔∃ d,o.dst=some d∧d∈l:=by
 unfold QH;cases o.dst with
 |none=>simp
 |some d=>simp [gE]
structure VY(all:List Oper):Prop where
 dst:∀(i j:Nat) (a b:Oper) (d:Nat),all[i]? = some a→all[j]? = some b→a.dst=some d→b.dst=some d→i=j
 adt:∀(i j:Nat) (a b:Oper) (d:Nat),all[i]? = some a→all[j]? = some b→b.dst=some d→d∈sj all a→i≠j→j∈(iG all []).getD i []∨i∈(iG all []).getD j []
 self:∀(i:Nat) (a:Oper) (d:Nat),all[i]? = some a→a.dst=some d→d∉sj all a
 sel:∀(i:Nat) (a:Oper) cs b,all[i]? = some a→a.op≠.select cs b
 low:∀(i:Nat) (a:Oper) (e:Edge),all[i]? = some a→e∈a.after→eb e=true→e.on < i
theorem Nk{all:List Oper}:OO all=true→∀(i j:Nat) (a b:Oper) (d:Nat),i < j→all[i]? = some a→all[j]? = some b→a.dst=some d→b.dst≠some d:=by
 induction all with
 |nil=>intro _ i j a b d _ ha;simp at ha
 |cons o r ih=>
  intro h i j a b d hij ha hb hd hbd;simp only [OO,Bool.and_eq_true,Bool.not_eq_true'] at h;obtain⟨j,rfl⟩:∃ m,j=m + 1:=⟨j - 1,by omega⟩
  rw [List.getElem?_cons_succ] at hb;cases i with
  |zero=>rw [List.getElem?_cons_zero,Option.some.injEq] at ha;subst ha;have h1:=h.1;rw [hd] at h1;have h2:=List.any_eq_false.1 h1 b (List.mem_of_getElem? hb);simp [hbd] at h2
  |succ i=>rw [List.getElem?_cons_succ] at ha;exact ih h.2 i j a b d (by omega) ha hb hd hbd
theorem rj{all:List Oper}{i:Nat}{a:Oper}(h:all[i]? = some a):(a,i)∈all.zipIdx:=by rw [List.mem_zipIdx_iff_getElem?];simpa using h
theorem Zv{all:List Oper}(h:Cr all (iG all [])=true):VY all:=by
 simp only [Cr,Bool.and_eq_true] at h;obtain⟨⟨⟨h1,h2⟩,h3⟩,h4⟩:=h;refine⟨fun i j a b d ha hb hd hd'=>?_,fun i j a b d ha hb hd hl gU=>?_,fun i a d ha hd hl=>?_,fun i a cs b ha=>?_,fun i a e ha he hb=>?_⟩
 ·rcases Nat.lt_trichotomy i j with hij | hij | hij
  ·exact absurd hd' (Nk h1 i j a b d hij ha hb hd)
  ·exact hij
  ·exact absurd hd (Nk h1 j i b a d hij hb ha hd')
 ·have:=List.all_eq_true.1 (List.all_eq_true.1 h2 _ (rj ha)) _ (rj hb)
  simp only [Bool.or_eq_true,Bool.not_eq_true'] at this;rcases this with ((e | e) | e) | e
  ·exact absurd (Nat.eq_of_beq_eq_true e) gU
  ·rw [HY.2 ⟨d,hd,hl⟩] at e;cases e
  ·exact .inl (gE.1 e)
  ·exact .inr (gE.1 e)
 ·have:=List.all_eq_true.1 h4 _ (rj ha)
  simp only [Bool.and_eq_true,Bool.not_eq_true'] at this;rw [HY.2 ⟨d,hd,hl⟩] at this;cases this.1
 ·have:=List.all_eq_true.1 h3 a (List.mem_of_getElem? ha)
  intro e;simp [e] at this
 ·have:=List.all_eq_true.1 h4 _ (rj ha)
  simp only [Bool.and_eq_true,List.all_eq_true,Bool.or_eq_true,Bool.not_eq_true'] at this;rcases this.2 e (by simpa using he) with h | h
  ·rw [hb] at h;cases h
  ·simpa [Nat.blt_eq] using h
theorem IV{all:List Oper}{i j:Nat}{a b:Oper}{d:Nat}(ha:all[i]? = some a)(hb:all[j]? = some b)(hd:b.dst=some d)(hl:d∈sj all a)(hn:j∉(iG all []).getD i []):pv all (iG all []) j b=true:=by
 unfold pv;simp only [Bool.or_eq_true];refine .inr (List.any_eq_true.2 ⟨(a,i),rj ha,?_⟩);simp only [Bool.and_eq_true,Bool.not_eq_true'];refine⟨HY.2 ⟨d,hd,hl⟩,?_⟩;cases hm:eT j ((iG all []).getD i []) with
 |false=>rfl
 |true=>exact absurd (gE.1 hm) hn
section act
variable {all:List Oper} {a b:Act}
def Ow(T:Nat→Prop)(a b:Act):Prop:=∀ t,T t→a.tmps[t]? = b.tmps[t]?
theorem U4{o:Oper}(h:Ow (fun t=>t∈sj all o) a b):∀ x∈o.op.operands,a.eval x=b.eval x:=fun x hx=>by
 cases x with
 |tmp t=>have:=h t (Ep hx);simp only [Act.eval,Array.getD_eq_getD_getElem?,this]
 |_=>rfl
theorem QL{o:Oper}(hs:∀ cs b,o.op≠.select cs b)(h:Ow (fun t=>t∈sj all o) a b):execOp a.eval o=execOp b.eval o:=execOp_congr o hs (U4 h)
theorem Sj{ops:Array Oper}{o:Oper}(h:Ow (fun t=>t∈sj ops.toList o) a b):Region.wanted o (yielded ops a.tmps)=Region.wanted o (yielded ops b.tmps):=by
 unfold Region.wanted;cases hg:o.guard with
 |none=>rfl
 |some p=>
  obtain⟨j,rX⟩:=p;have:yielded ops a.tmps j=yielded ops b.tmps j:=by
   show(match (((ops[j]?).bind (·.dst)).bind (a.tmps[·]?)) with | some (.bool b)=>some b | _=>none)=(match (((ops[j]?).bind (·.dst)).bind (b.tmps[·]?)) with | some (.bool b)=>some b | _=>none)
   cases hd:(ops[j]?).bind (·.dst) with
   |none=>rfl
   |some g=>
    have hg':pS ops.toList j=some g:=by simpa [pS] using hd
    simp only [Option.bind_some,h g (vp hg hg')]
  simp only [this]
end act
theorem Mh{ops:Array Oper}{o:Oper}{s:St}{G:Gh}{a:Act}(hr:bI G s a)(h:Wnt ops.toList o s):Region.wanted o (yielded ops a.tmps)=true:=by
 rcases h with h |⟨j,rX,g,h1,h2,h3⟩
 ·simp [Region.wanted,h]
 ·have hv:=ve (v:=.one (.eX .bool rX)) rfl (hr.2.2 g _ h3)
  have J6:(ops[j]?).bind (·.dst)=some g:=by simpa [pS] using h2
  have Ld:a.tmps[g]? = some (.bool rX):=by
   rw [Array.getD_eq_getD_getElem?] at hv;cases hq:a.tmps[g]? with
   |none=>rw [hq] at hv;cases hv
   |some u=>rw [hq] at hv;simpa using hv
  simp [Region.wanted,h1,yielded,J6,Ld]
theorem Mg{ops:Array Oper}{o:Oper}{s:St}{G:Gh}{a:Act}(hr:bI G s a)(h:Unw ops.toList o s):Region.wanted o (yielded ops a.tmps)=false:=by
 obtain⟨j,rX,g,h1,h2,h3⟩:=h;have J6:(ops[j]?).bind (·.dst)=some g:=by simpa [pS] using h2
 rcases h3 with h3 | h3
 ·have hv:a.tmps.getD g undef=undef:=hr.2.2 g _ h3
  rw [Array.getD_eq_getD_getElem?] at hv;cases hq:a.tmps[g]? with
  |none=>simp [Region.wanted,h1,yielded,J6,hq]
  |some u=>rw [hq] at hv;simp only [Option.getD_some] at hv;subst hv;simp [Region.wanted,h1,yielded,J6,hq,undef]
 ·have hv:=ve (v:=.one (.eX .bool (!rX))) rfl (hr.2.2 g _ h3)
  have Ld:a.tmps[g]? = some (.bool (!rX)):=by
   rw [Array.getD_eq_getD_getElem?] at hv;cases hq:a.tmps[g]? with
   |none=>rw [hq] at hv;cases hv
   |some u=>rw [hq] at hv;simpa using hv
  cases rX<;>simp [Region.wanted,h1,yielded,J6,Ld]
end Go.Fx
namespace Go.Fx
theorem Nh{α:Type}{p q:α→Bool}:∀{l:List α},(∀ x∈l,q x=true→p x=true)→(∃ x∈l,p x=true∧q x=false)→l.countP q < l.countP p
 |[],_,⟨x,hx,_⟩=>by cases hx
 |a :: l,h,⟨x,hx,h1,h2⟩=>by
  have AI:l.countP q≤l.countP p:=List.countP_mono_left fun y hy hq=>h y (List.mem_cons_of_mem _ hy) hq;rw [List.countP_cons,List.countP_cons];rcases List.mem_cons.1 hx with rfl | hx
  ·simp only [h1,h2,if_true,Bool.false_eq_true,if_false];omega
  ·have:=Nh (fun y hy=>h y (List.mem_cons_of_mem _ hy)) ⟨x,hx,h1,h2⟩
   have ha:=h a (List.mem_cons_self ..);by_cases hq:q a=true
   ·simp only [hq,ha hq,if_true];omega
   ·rw [if_neg hq];split<;>omega
theorem PI{a:Act}{d:Option Tmp}{v:Value}{t:Nat}(h:d≠some t):(a.put d v).tmps[t]? = a.tmps[t]?:=by
 cases d with
 |none=>rfl
 |some d=>
  have:d≠t:=fun e=>h (by rw [e])
  simp [Act.put,Array.getElem?_setIfInBounds_ne this]
theorem rV(a:Act)(d:Option Tmp)(v:Value):(a.put d v).defers=a.defers:=by cases d<;>rfl
theorem CY(a:Act)(d:Option Tmp)(v:Value):(a.put d v).tmps.size=a.tmps.size:=by cases d<;>simp [Act.put]
theorem XP{a b:Act}{d:Option Tmp}{v:Value}{t:Nat}(hs:a.tmps.size=b.tmps.size)(h:d=some t):(a.put d v).tmps[t]? = (b.put d v).tmps[t]?:=by subst h;simp [Act.put,Array.getElem?_setIfInBounds,hs]
section
variable {E:rQ} {all:List Oper}
theorem LZ{o:Oper}{s st:St}(he:∀ x∈o.op.operands,ev E s x=ev E st x):uY E o s=uY E o st:=by
 unfold uY;split<;>rename_i mb
 ·rw [he _ (by simp [mb,Op.operands])]
 ·rw [he _ (by simp [mb,Op.operands])]
 ·rw [he _ (by simp [mb,Op.operands])]
 ·rw [he _ (by simp [mb,Op.operands])]
 ·rename_i c
  have:c.args.toList.map (ev E s)=c.args.toList.map (ev E st):=List.map_congr_left fun x hx=>he x (by simp [mb,Op.operands,Call.operands];exact .inr (by simpa using hx))
  rw [this]
 ·rfl
theorem TT{o:Oper}{s st:St}(h:∀ t∈sj all o,s.ib t=st.ib t):∀ x∈o.op.operands,ev E s x=ev E st x:=fun x hx=>by
 cases x with
 |tmp t=>simp only [ev,h t (Ep hx)]
 |_=>rfl
theorem Sk{o:Oper}{s st:St}(h:∀ t∈sj all o,s.ib t=st.ib t)(hw:Wnt all o st):Wnt all o s:=by
 rcases hw with hw |⟨j,rX,g,h1,h2,h3⟩
 ·exact .inl hw
 ·exact .inr ⟨j,rX,g,h1,h2,by rw [h g (vp h1 h2)];exact h3⟩
theorem Sf{o:Oper}{s st:St}(h:∀ t∈sj all o,s.ib t=st.ib t)(hw:Unw all o st):Unw all o s:=by obtain⟨j,rX,g,h1,h2,h3⟩:=hw;exact⟨j,rX,g,h1,h2,by rw [h g (vp h1 h2)];exact h3⟩
variable (hD:∀ f s,E.Ag f=some s→oL s)
include hD
theorem ac2{o:Oper}{s st:St}{v:ae}(ho:uu o.op=true)(hd:wV E o st=true)(h:FB E o st=some ⟨v,st,true⟩)(hb:j0 st s)(he:∀ x∈o.op.operands,ev E s x=ev E st x)(hk:∀ p∈uY E o st,rY st s p):
  wV E o s=true∧FB E o s=some ⟨v,s,true⟩:=by
 obtain⟨h1,h2⟩:=To ho hd hb he hk;refine⟨h1,?_⟩;have h3:=h2 (K:=some) (r:=v) (by rw [Wn hD h])
 obtain⟨u,h4,h5⟩:=zG hD h3;have h6:=LS hD ho h1 h4;rw [h6] at h5 h4;simp only [r0,cond_true,Option.some.injEq] at h5;rw [h4,h5]
where
 Wn {o:Oper} {st:St} {v:ae} (hD:∀ f s,E.Ag f=some s→oL s) (h:FB E o st=some ⟨v,st,true⟩):lP E o st (fun v _=>some v) (fun _ _=>none)=some v:=by rw [AF hD h];rfl
def Sq(E:rQ)(all:List Oper)(i:Nat)(log:List (Nat×List pD))(s:St):Prop:=∃ o,all[i]? = some o∧pv all (iG all []) i o=false∧
 ((Unw all o s∧∀ d,o.dst=some d→s.ib d=some (.one .uB)∧d < s.n)∨
  (Wnt all o s∧wV E o s=true∧(i,uY E o s)∈log∧∃ v,FB E o s=some ⟨v,s,true⟩∧∀ d,o.dst=some d→s.ib d=some v∧d < s.n))
theorem Sq.kW{k:Nat}{log Lu:List (Nat×List pD)}{s s1:St}(hp:Sq E all k log s)(hb:j0 s s1)(vZ:∀ o,all[k]? = some o→∀ t,t∈sj all o∨o.dst=some t→s1.ib t=s.ib t)
  (hk:∀ rd,(k,rd)∈log→∀ p∈rd,rY s s1 p) (hl:∀ x∈log,x∈Lu):Sq E all k Lu s1:=by
 obtain⟨o,h1,h2,h3⟩:=hp;have hr:∀ t∈sj all o,s1.ib t=s.ib t:=fun t ht=>vZ o h1 t (.inl ht);refine⟨o,h1,h2,?_⟩;rcases h3 with ⟨h3,h4⟩ |⟨h3,h4,h5,v,h6,h7⟩
 ·exact .inl ⟨Sf hr h3,fun d hd=>by rw [vZ o h1 d (.inr hd),hb.1];exact h4 d hd⟩
 ·have he:=TT (E:=E) hr
  obtain⟨g1,g2⟩:=ac2 hD (sW h2) h4 h6 hb he (hk _ h5);exact .inr ⟨Sk hr h3,g1,by rw [LZ he];exact hl _ h5,v,g2,fun d hd=>by rw [vZ o h1 d (.inr hd),hb.1];exact h7 d hd⟩
end
end Go.Fx
namespace Go.Fx
structure Inv(E:rQ)(X:mo)(ops:Array Oper)(Kok:St→Prop)(KPok:ae→St→Prop)(n:Nat)(done:List Nat)(log:List (Nat×List pD))(s:St)(G:Gh)(as:Act)(eq:Array Bool)(act:Act)(w:World):Prop where
 can:uC E ops.toList Kok KPok n done log s
 cov:∀ l∈iL ops.toList (iG ops.toList []) n done,∀ i,i < ops.size→i∈done∨i∈l
 clo:Clo ops.toList (·∈done)
 SM:Clo ops.toList (fun i=>eq.getD i false=true)
 Lx:∀ i,eq.getD i false=true→i∈done
 lsz:eq.size=ops.size
 Ew:aB X s G w
 ib:bI G s as
 PC:∀ i,i∈done→eq.getD i false=false→Sq E ops.toList i log s
 dfs:act.defers=as.defers
 sz:act.tmps.size=as.tmps.size
 kX:∀ t,(∀ i o,i∈done→eq.getD i false=false→ops.toList[i]? = some o→o.dst≠some t)→act.tmps[t]? = as.tmps[t]?
section
variable {P:Program} {E:rQ} (hE:iy P E.ir) (hS:∀ f s,E.Ag f=some s→zy P E.gt f s) (hC:∀ f s,E.Ag f=some s→mO s) (hD:∀ f s,E.Ag f=some s→oL s)
 {X:mo} (ye:mX E.gt X.S0) {ops:Array Oper} (wa:VY ops.toList) {Q:Exit→Act→World→Prop} {Kok:St→Prop} {KPok:ae→St→Prop}
 (hK:∀ st G w act,aB X st G w→bI G st act→Kok st→Q .normal act w)
 (hP:∀ av v st G w act,aB X st G w→act.defers=G.ds→aT G av v→KPok av st→Q (.panic [{v,recovered:=false}]) act w)
theorem OT{eq:Array Bool}{i:Nat}(h:i < eq.size):eq.getD i true=eq.getD i false:=by simp [h]
theorem zJ{eq:Array Bool}{i:Nat}(h:i < eq.size)(j:Nat):(eq.setIfInBounds i true).getD j false=if i=j then true else eq.getD j false:=by
 by_cases e:i=j
 ·subst e;simp [h]
 ·rw [getD_set_ne false e,if_neg e]
theorem NX{s s1:St}{log Lu:List (Nat×List pD)}{done:List Nat}{eq:Array Bool}{i:Nat}{o:Oper}(hD:∀ f s,E.Ag f=some s→oL s)(wa:VY ops.toList)(acn:Clo ops.toList (·∈done))(hi:i∉done)(ho:ops.toList[i]? = some o)
  (acG:∀ k,k∈done→eq.getD k false=false→Sq E ops.toList k log s)
  (hb:j0 s s1) (vZ:∀ t,o.dst≠some t→s1.ib t=s.ib t)
  (hk:∀ k rd,k∈done→eq.getD k false=false→(k,rd)∈log→∀ p∈rd,rY s s1 p) (hl:∀ x∈log,x∈Lu)
  (WT:pv ops.toList (iG ops.toList []) i o=false∨∀ k,Reach ops.toList i k→eq.getD k false=true):
  ∀ k,k∈done→eq.getD k false=false→Sq E ops.toList k Lu s1:=by
 intro k hkd y0;refine(acG k hkd y0).kW hD hb (fun ok hok t ht=>vZ t fun hd=>?_) (fun rd zg=>hk k rd hkd y0 zg) hl;have gU:k≠i:=fun e=>hi (e ▸ hkd);rcases ht with ht | ht
 ·rcases wa.adt k i ok o t hok ho hd ht gU with h | h
  ·exact hi (acn.RS (Df h) hkd)
  ·rcases WT with h' | h'
   ·by_cases hA:i∈(iG ops.toList []).getD k []
    ·exact hi (acn.RS (Df hA) hkd)
    ·rw [IV hok ho hd ht hA] at h';cases h'
   ·rw [h' k (Df h)] at y0;cases y0
 ·exact gU (wa.dst k i ok o t hok ho ht hd)
include hE hD ye wa in
theorem Th{eq:Array Bool}{act:Act}{w:World}:∀{n:Nat} {done:List Nat} {log:List (Nat×List pD)} {s:St} {G:Gh} {as:Act},Inv E X ops Kok KPok n done log s G as eq act w→
  ∃ n' KR Xb s' G' as',Inv E X ops Kok KPok n' KR Xb s' G' as' eq act w∧kV E ops.toList n' KR
 |n,done,log,s,G,as,h=>by
  cases ZE E (all:=ops.toList) n done with
  |r0 h1 h2 _=>exact⟨n,done,log,s,G,as,h,.inl ⟨h1,h2⟩⟩
  |ads m h1 h2 h3=>exact⟨n,done,log,s,G,as,h,.inr ⟨m,h1,h2,h3⟩⟩
  |I7 m i hnm hr fj Fm Ll=>
   subst hnm;obtain⟨hid,o',ho',OV⟩:=Kj.1 hr;obtain⟨o,ho,za,AM,hc⟩:=Ll _ _ _ _ h.can;obtain rfl:o=o':=by rw [ho] at ho';exact Option.some.inj ho'
   have ht:=fj o ho;have D0:eq.getD i false=false:=by
    cases hl:eq.getD i false with
    |false=>rfl
    |true=>exact absurd (h.Lx i hl) hid
   have WB:Clo ops.toList (·∈i :: done):=fun a k ha hak=>by
    rcases List.mem_cons.1 ha with rfl | ha
    ·obtain⟨o2,h1,e,h2,h3,rfl⟩:=hak
     rw [ho] at h1;cases h1;exact List.mem_cons_of_mem _ (OV e h2 h3)
    ·exact List.mem_cons_of_mem _ (h.clo a k ha hak)
   have aaU:∀ l∈iL ops.toList (iG ops.toList []) m (i :: done),∀ k,k < ops.size→k∈i :: done∨k∈l:=fun l hl k hk=>by
    rcases h.cov _ (Fm l hl) k hk with h1 | h1
    ·exact .inl (List.mem_cons_of_mem _ h1)
    ·rcases List.mem_cons.1 h1 with rfl | h1
     ·exact .inl (List.mem_cons_self ..)
     ·exact .inr h1
   have Z7:∀ t∈sj ops.toList o,o.dst≠some t:=fun t ht hd=>wa.self i o t ho hd ht;have go:∀{v:ae} {u:Value} {s1:St} {Lu:List (Nat×List pD)} {G1:Gh},xI o.dst v za=some s1→aB X za G1 w→bI G1 za as→aT G1 v u→uC E ops.toList Kok KPok m (i :: done) Lu s1→
     (∀ x∈log,x∈Lu)→Sq E ops.toList i Lu s1→∃ n' KR Xb s' G' as',Inv E X ops Kok KPok n' KR Xb s' G' as' eq act w∧kV E ops.toList n' KR:=
    fun {v u s1 Lu G1} zM hm hr hv Ia aa1 hpi=>by
     obtain⟨p1,p2,p3,p4,p5⟩:=Af zM;have hb:j0 s s1:=AM.1.trans p1;refine Th (n:=m) (done:=i :: done) (log:=Lu) (s:=s1) (G:=G1) (as:=as.put o.dst u)
      {
       can:=Ia,cov:=aaU,clo:=WB,SM:=h.SM,Lx:=fun k hk=>List.mem_cons_of_mem _ (h.Lx k hk),lsz:=h.lsz
       Ew:=RP zM hm,ib:=RO zM hr hv,PC:=fun k hk y0=>?_,dfs:=by rw [rV];exact h.dfs,sz:=by rw [CY];exact h.sz,kX:=fun t ht=>?_}
     ·rcases List.mem_cons.1 hk with rfl | hk
      ·exact hpi
      ·exact NX hD wa h.clo hid ho h.PC hb (fun t ht=>by rw [p4 t (fun e he e2=>ht (by rw [he,e2])),AM.2.2.2]) (fun k rd _ _ _ p _=>zR (by rw [p2,AM.2.1]) (by rw [p3,AM.2.2.1.1]) (by rw [(Prod.mk.inj p1.2.2.2).1,(Prod.mk.inj AM.1.2.2.2).1]) (by rw [LW zM,AM.2.2.1.2]) p) aa1 (.inl ht) k hk y0
     ·rw [PI (ht i o (List.mem_cons_self ..) D0 ho)]
      exact h.kX t fun k ok hk=>ht k ok (List.mem_cons_of_mem _ hk)
   rcases hc with ⟨hu,s1,zM,Ia⟩ |⟨hw,_,aa9⟩
   ·obtain⟨p1,p2,p3,p4,p5⟩:=Af zM
    exact go zM (AM.Ew h.Ew) (AM.et h.ib) (show aT G (.one .uB) undef from rfl) Ia (fun _ h=>h)
     ⟨o,ho,ht,.inl ⟨Sf (fun t ht'=>p4 t fun e he e2=>Z7 t ht' (by rw [he,e2])) hu,fun d hd=>⟨(p5 d hd).1,by rw [p1.1];exact(p5 d hd).2⟩⟩⟩
   ·obtain⟨hd,v,xa,s1,zM,Ia⟩:=aa9 ht
    obtain⟨p1,p2,p3,p4,p5⟩:=Af zM;obtain⟨u,G1,_,JH,hr1,hv1⟩:=R6 hE (sW ht) hd xa ye (AM.Ew h.Ew) (AM.et h.ib);have Z5:∀ t∈sj ops.toList o,s1.ib t=za.ib t:=fun t ht'=>p4 t fun e he e2=>Z7 t ht' (by rw [he,e2])
    have he:=TT (E:=E) Z5;obtain⟨g1,g2⟩:=ac2 hD (sW ht) hd xa p1 he (fun p _=>zR p2 p3 (Prod.mk.inj p1.2.2.2).1 (LW zM) p);exact go zM JH (hr1 _ (AM.et h.ib)) hv1 Ia (fun _ h=>List.mem_cons_of_mem _ h)
     ⟨o,ho,ht,.inr ⟨Sk Z5 hw,g1,by rw [LZ he];exact List.mem_cons_self ..,v,g2,fun d hd=>⟨(p5 d hd).1,by rw [p1.1];exact(p5 d hd).2⟩⟩⟩
end
end Go.Fx
namespace Go.Fx
theorem bI.RQ{G:Gh}{s:St}{a:Act}{d:Option Tmp}{v:ae}{u:Value}(hr:bI G s a)(hd:∀ e,d=some e→s.ib e=some v∧e < s.n)(hv:aT G v u):bI G s (a.put d u):=by
 cases d with
 |none=>exact hr
 |some d=>
  obtain⟨h1,h2⟩:=hd d rfl;have:=hr.put (av:=v) h2 hv;exact⟨this.1,this.2.1,fun i x hx=>this.2.2 i x (by
   rw [qa];by_cases e:d=i
   ·subst e;rw [if_pos rfl,←h1,hx]
   ·rw [if_neg e];exact hx)⟩
theorem Yp{P:Program}{o:Oper}{a b:Act}{N1 N2:Act→World→Prop}{Q1 Q2:Exit→Act→World→Prop}{res:Result Next}(hb:∀ a' w,N1 a' w→∃ v,a' = b.put o.dst v∧N2 (a.put o.dst v) w)(hdd:a.defers=b.defers)
  (hp:∀ c w,Q1 (.panic c) b w→Q2 (.panic c) a w) (ho:LetsOut Q1→LetsOut Q2) (adV:∀ v v',b.put o.dst v=b.put o.dst v'→a.put o.dst v=a.put o.dst v') (h:o.upon P b N1 Q1 res):o.upon P a N2 Q2 res:=by
 have nx:∀ v w,N1 (b.put o.dst v) w→N2 (a.put o.dst v) w:=fun v w hn=>by obtain⟨v',h1,h2⟩:=hb _ _ hn;rw [adV v v' h1];exact h2
 cases res with
 |ok n w'=>
  cases n<;>simp only [Oper.upon] at h ⊢
  case value u=>exact nx _ _ h
  case skip=>exact nx _ _ h
  case defer d=>
   obtain⟨v',h1,h2⟩:=hb _ _ h;have:d :: b.defers=b.defers:=by have:=congrArg Act.defers h1;rw [rV,rV] at this;exact this
   exact absurd this (by simp)
  case enter f args=>
   refine Calls.mono h fun e w'' he=>?_;cases e with
   |returned u=>exact nx _ _ he
   |panicked c=>exact hp _ _ he
   |outgrown=>exact ho he
  case row row args=>exact Rows.mono h fun u w'' he=>nx _ _ he
 |halt x w'=>
  cases x<;>simp only [Oper.upon] at h ⊢
  case panic u=>exact hp _ _ h
section
variable {P:Program} {E:rQ} (hE:iy P E.ir) (hS:∀ f s,E.Ag f=some s→zy P E.gt f s) (hC:∀ f s,E.Ag f=some s→mO s) (hD:∀ f s,E.Ag f=some s→oL s)
 {X:mo} (ye:mX E.gt X.S0) {ops:Array Oper} (wa:VY ops.toList) {Q:Exit→Act→World→Prop} {Kok:St→Prop} {KPok:ae→St→Prop}
 (hK:∀ st G w act,aB X st G w→bI G st act→Kok st→Q .normal act w)
 (hP:∀ av v st G w act,aB X st G w→act.defers=G.ds→aT G av v→KPok av st→Q (.panic [{v,recovered:=false}]) act w)
include hK in
theorem Kx{n:Nat}{done:List Nat}{log:List (Nat×List pD)}{s:St}{G:Gh}{as act:Act}{eq:Array Bool}{w:World}(h:Inv E X ops Kok KPok n done log s G as eq act w)(hh:kV E ops.toList n done)(fj:∀ i,i < ops.size→eq.getD i false=true):Q .normal act w:=by
 have Ia:Kok s:=by
  rcases hh with ⟨_,h2⟩ |⟨m,_,⟨i,hr⟩,_⟩
  ·exact h2 _ _ _ _ h.can
  ·obtain⟨h1,o,h2,_⟩:=Kj.1 hr
   exact absurd (h.Lx i (fj i (by simpa using (List.getElem?_eq_some_iff.1 h2).1))) h1
 have OU:act=as:=by
  have htm:act.tmps=as.tmps:=by
   apply Array.ext h.sz;intro i h1 h2;have:=h.kX i (fun k o hk y0 hko=>by
    have bq:k < ops.size:=by simpa using (List.getElem?_eq_some_iff.1 hko).1
    rw [fj k bq] at y0;cases y0)
   simpa [h1,h2] using this
  cases act;cases as;simp only at htm;have:=h.dfs;simp only at this;rw [htm,this]
 rw [OU];exact hK _ _ _ _ h.Ew h.ib Ia
theorem Vy(wa:VY ops.toList){eq:Array Bool}(mw:eq.size=ops.size)(h:Region.ready .any ops eq = []):∀ i,i < ops.size→eq.getD i false=true:=by
 intro i;induction i using Nat.strongRecOn with
 |ind i ih=>
  intro hi;cases hl:eq.getD i false with
  |true=>rfl
  |false=>
   have:i∈Region.ready .any ops eq:=mem_ready.2 ⟨by rw [OT (by omega)];exact hl,ops[i],by simp [hi],fun e he hb=>by
    have ME:=wa.low i ops[i] e (by simp [hi]) he (by rw [KS];exact hb)
    exact ih e.on ME (by omega)⟩
   rw [h] at this;cases this
include hE hS hC hD ye wa hK hP in
theorem Mf:∀(Fd:Nat) {eq:Array Bool} {act:Act} {w:World} {n:Nat} {done:List Nat} {log:List (Nat×List pD)} {s:St} {G:Gh} {as:Act},Inv E X ops Kok KPok n done log s G as eq act w→
  kV E ops.toList n done→(List.range ops.size).countP (fun i=>!eq.getD i false)≤Fd→wpAny P .any ops Q Fd eq act w
 |0,eq,act,w,n,done,log,s,G,as,h,Lf,hf=>by
  have fj:∀ i,i < ops.size→eq.getD i false=true:=fun i hi=>by
   have h0:(List.range ops.size).countP (fun i=>!eq.getD i false)=0:=by omega
   have:=List.countP_eq_zero.1 h0 i (List.mem_range.2 hi);simpa using this
  refine⟨List.eq_nil_iff_forall_not_mem.2 fun i hi=>?_,Kx hK h Lf fj⟩;obtain⟨h1,o,h2,_⟩:=mem_ready.1 hi;have bq:i < ops.size:=(Array.getElem?_eq_some_iff.1 h2).1;rw [OT (by rw [h.lsz];exact bq),fj i bq] at h1;cases h1
 |Fd + 1,eq,act,w,n,done,log,s,G,as,h,Lf,hf=>by
  refine⟨fun hr=>Kx hK h Lf (Vy wa h.lsz hr),fun i hi=>?_⟩;obtain⟨hl1,o,hoa,ZV⟩:=mem_ready.1 hi;have bq:i < ops.size:=(Array.getElem?_eq_some_iff.1 hoa).1;have Fp:i < eq.size:=by rw [h.lsz];exact bq
  have D0:eq.getD i false=false:=by rw [←OT Fp];exact hl1
  have ho:ops.toList[i]? = some o:=by simpa using hoa
  have OV:∀ k,M6 ops.toList i k→eq.getD k false=true:=fun k ⟨o2,h1,e,h2,h3,h4⟩=>by rw [ho] at h1;cases h1;rw [←h4];exact ZV e h2 (by rw [←KS];exact h3)
  have O8:∀ k,Reach ops.toList i k→eq.getD k false=true:=fun k hk=>h.SM.ready OV hk;let mS:=eq.setIfInBounds i true;have hlc:Clo ops.toList (fun k=>mS.getD k false=true):=fun a k ha hak=>by
   show(eq.setIfInBounds i true).getD k false=true;rw [zJ Fp];by_cases e:i=k
   ·simp [e]
   ·rw [if_neg e]
    by_cases e2:i=a
    ·subst e2;exact OV k hak
    ·have ha':eq.getD a false=true:=by
      have:=ha;simp only [mS,zJ Fp,if_neg e2] at this;exact this
     exact h.SM a k ha' hak
  have hlz:mS.size=ops.size:=by simp [mS,h.lsz]
  have hun:∀ k,mS.getD k false=false→k≠i∧eq.getD k false=false:=fun k hk=>by
   simp only [mS,zJ Fp] at hk;by_cases e:i=k
   ·simp [e] at hk
   ·rw [if_neg e] at hk;exact⟨fun h=>e h.symm,hk⟩
  have aco:(List.range ops.size).countP (fun k=>!mS.getD k false)≤Fd:=by
   have:=Nh (p:=fun k=>!eq.getD k false) (q:=fun k=>!mS.getD k false) (l:=List.range ops.size) (fun k _ hk=>by
    have:=hun k (by simpa using hk)
    simpa using this.2) ⟨i,List.mem_range.2 bq,by simpa using D0,by simp [mS,Fp]⟩
   omega
  have Z1:Ow (fun t=>t∈sj ops.toList o) act as:=fun t ht=>by
   refine h.kX t fun k ok hk y0 hko hd=>?_;by_cases e:k=i
   ·subst e
    rw [ho] at hko;cases hko;exact wa.self _ _ t ho hd ht
   ·rcases wa.adt i k o ok t ho hko hd ht (Ne.symm e) with h1 | h1
    ·rw [O8 k (Df h1)] at y0;cases y0
    ·obtain⟨o2,g1,g2,_⟩:=h.PC k hk y0
     rw [hko] at g1;cases g1;by_cases hA:k∈(iG ops.toList []).getD i []
     ·rw [O8 k (Df hA)] at y0;cases y0
     ·rw [IV ho hko hd ht hA] at g2;cases g2
  have acr:execOp act.eval o=execOp as.eval o:=QL (fun cs b=>wa.sel i o cs b ho) Z1;have YX:Region.wanted o (yielded ops act.tmps)=Region.wanted o (yielded ops as.tmps):=Sj Z1;have WQ:∀(v:Value) t,(∀ k ok,k∈done→mS.getD k false=false→ops.toList[k]? = some ok→ok.dst≠some t)→(act.put o.dst v).tmps[t]? = (as.put o.dst v).tmps[t]?:=fun v t ht=>by
   by_cases e:o.dst=some t
   ·exact XP h.sz e
   ·rw [PI e,PI e]
    refine h.kX t fun k ok hk y0 hko hd=>?_;by_cases e2:k=i
    ·subst e2
     rw [ho] at hko;cases hko;exact e hd
    ·exact ht k ok hk (by simp only [mS,zJ Fp,if_neg (Ne.symm e2)];exact y0) hko hd
  unfold wpOp;simp only [hoa];by_cases hid:i∈done
  ·
   have go:∀{G1:Gh} {v:Value},aB X s G1 w→bI G1 s (as.put o.dst v)→wpAny P .any ops Q Fd mS (act.put o.dst v) w:=fun {G1 v} hm hr=>
    Mf Fd (n:=n) (done:=done) (log:=log) (s:=s) (G:=G1) (as:=as.put o.dst v)
     {
      can:=h.can,cov:=h.cov,clo:=h.clo,SM:=hlc,lsz:=hlz,Ew:=hm,ib:=hr
      Lx:=fun k hk=>(by
       by_cases e:i=k
       ·rw [←e];exact hid
       ·simp only [mS,zJ Fp,if_neg e] at hk;exact h.Lx k hk)
      PC:=fun k hk y0=>h.PC k hk (hun k y0).2,dfs:=by rw [rV,rV];exact h.dfs,sz:=by rw [CY,CY];exact h.sz
      kX:=WQ v} Lf aco
   obtain⟨o2,g1,g2,g3⟩:=h.PC i hid D0;rw [ho] at g1;cases g1;rcases g3 with ⟨hu,hd⟩ |⟨hw,hdy,_,v,xa,hd⟩
   ·rw [YX,Mg h.ib hu]
    simp only [Bool.false_eq_true,if_false];exact go h.Ew (h.ib.RQ hd (show aT G (.one .uB) undef from rfl))
   ·rw [YX,Mh h.ib hw]
    simp only [if_true];obtain⟨u,G1,it,JH,hr1,hv1⟩:=R6 hE (sW g2) hdy xa ye h.Ew h.ib;refine .inl ?_;unfold Oper.wp;rw [acr,it];exact go JH ((hr1 _ h.ib).RQ hd hv1)
  ·
   have ad7:rdy ops.toList done i=true:=Kj.2 ⟨hid,o,ho,fun e he hb=>h.Lx _ (ZV e he (by rw [←KS];exact hb))⟩
   obtain⟨m,hnm,htn,Fm,Ll⟩:∃ m,n=m + 1∧pv ops.toList (iG ops.toList []) i o=true∧(∀ r∈iL ops.toList (iG ops.toList []) m (i :: done),i :: r∈iL ops.toList (iG ops.toList []) n done)∧
     Cf E ops.toList i log s (uC E ops.toList Kok KPok m (i :: done)) KPok:=by
    rcases Lf with ⟨h1,_⟩ |⟨m,h1,_,h3⟩
    ·rcases h.cov [] (by rw [h1];exact List.mem_singleton.2 rfl) i bq with h2 | h2
     ·exact absurd h2 hid
     ·cases h2
    ·obtain⟨g1,g2,g3⟩:=h3 i ad7
     exact⟨m,h1,g1 o ho,g2,g3 _ _ _ _ h.can⟩
   subst hnm;have WB:Clo ops.toList (·∈i :: done):=fun a k ha hak=>by
    rcases List.mem_cons.1 ha with rfl | ha
    ·exact List.mem_cons_of_mem _ (h.Lx k (OV k hak))
    ·exact List.mem_cons_of_mem _ (h.clo a k ha hak)
   have aaU:∀ l∈iL ops.toList (iG ops.toList []) m (i :: done),∀ k,k < ops.size→k∈i :: done∨k∈l:=fun l hl k hk=>by
    rcases h.cov _ (Fm l hl) k hk with h1 | h1
    ·exact .inl (List.mem_cons_of_mem _ h1)
    ·rcases List.mem_cons.1 h1 with rfl | h1
     ·exact .inl (List.mem_cons_self ..)
     ·exact .inr h1
   have go:∀{v:ae} {u:Value} {st' s1:St} {G1:Gh} {w1:World},xI o.dst v st' = some s1→aB X st' G1 w1→bI G1 st' as→aT G1 v u→uC E ops.toList Kok KPok m (i :: done) log s1→j0 s st'→(∀ t,st'.ib t=s.ib t)→
     (∀ k rd,k∈done→eq.getD k false=false→(k,rd)∈log→∀ p∈rd,rY s st' p)→wpAny P .any ops Q Fd mS (act.put o.dst u) w1:=fun {v u st' s1 G1 w1} zM hm hr hv Ia hbs hrg GB=>by
    obtain⟨p1,p2,p3,p4,p5⟩:=Af zM;have aaZ:Inv E X ops Kok KPok m (i :: done) log s1 G1 (as.put o.dst u) mS (act.put o.dst u) w1:=
     {
      can:=Ia,cov:=aaU,clo:=WB,SM:=hlc,lsz:=hlz,Ew:=RP zM hm,ib:=RO zM hr hv
      Lx:=fun k hk=>(by
       by_cases e:i=k
       ·rw [←e];exact List.mem_cons_self ..
       ·simp only [mS,zJ Fp,if_neg e] at hk;exact List.mem_cons_of_mem _ (h.Lx k hk))
      PC:=fun k hk y0=>(by
       obtain⟨hki,y0⟩:=hun k y0;rcases List.mem_cons.1 hk with e | hk
       ·exact absurd e hki
       ·exact NX hD wa h.clo hid ho h.PC (hbs.trans p1) (fun t ht=>by rw [p4 t (fun e he e2=>ht (by rw [he,e2])),hrg]) (fun k rd a b c p hp=>(GB k rd a b c p hp).trans (zR p2 p3 (Prod.mk.inj p1.2.2.2).1 (LW zM) p)) (fun _ h=>h) (.inr O8) k hk y0)
      dfs:=by rw [rV,rV];exact h.dfs,sz:=by rw [CY,CY];exact h.sz
      kX:=fun t ht=>WQ u t fun k ok hk=>ht k ok (List.mem_cons_of_mem _ hk)}
    obtain⟨n',KR,Xb,s',G',as',WF,hh'⟩:=Th hE hD ye wa aaZ;exact Mf Fd WF hh' aco
   obtain⟨o2,g1,za,AM,hc⟩:=Ll;rw [ho] at g1;cases g1;have hr0:=AM.et h.ib;rcases hc with ⟨hu,s1,zM,Ia⟩ |⟨hw,WT,_⟩
   ·rw [YX,Mg hr0 hu]
    simp only [Bool.false_eq_true,if_false];exact go zM (AM.Ew h.Ew) hr0 (show aT G (.one .uB) undef from rfl) Ia AM.1 AM.2.2.2 (fun k rd _ _ _ p _=>zR AM.2.1 AM.2.2.1.1 (Prod.mk.inj AM.1.2.2.2).1 AM.2.2.1.2 p)
   ·rw [YX,Mh hr0 hw]
    simp only [if_true];obtain⟨aa1,u,xa,hok,vg⟩:=WT htn;refine .inl ?_;let Q1:Exit→Act→World→Prop:=fun e a w=>match e with
     |.panic c=>a=as→Q (.panic c) act w
     |e=>Q e a w
    have hwp:o.wp P as w (fun a' w'=>∃ v,a' = as.put o.dst v∧wpAny P .any ops Q Fd mS (act.put o.dst v) w') Q1:=
     Gs hE hS (K:=nT) (KP:=MZ) (r:=u) xa ye (AM.Ew h.Ew) hr0
      (fun av v st' G' w' hm hr hv hu=>by
       simp only [nT,Option.some.injEq] at hu;subst hu;obtain⟨s1,zM,Ia⟩:=hok rfl;obtain⟨hb,YW⟩:=Xx hD hC xa;have YW:=YW rfl;refine⟨v,rfl,go zM hm hr hv Ia (AM.1.trans hb) (fun t=>?_) (fun k rd hk y0 hkr p hp=>?_)⟩
       ·show st'.ib t=s.ib t
        rw [←AM.2.2.2 t];have e1:st'.et=za.et:=YW.et;have e2:st'.jd=za.jd:=hb.2.1;simp only [St.ib,e1,e2]
       ·have h1:=List.all_eq_true.1 aa1 _ hkr
        simp only [Bool.or_eq_true] at h1;rcases h1 with h1 | h1
        ·rw [O8 k (Df (gE.1 h1))] at y0;cases y0
        ·refine(zR AM.2.1 AM.2.2.1.1 (Prod.mk.inj AM.1.2.2.2).1 AM.2.2.1.2 p).trans (YW.kW fun q hq=>?_)
         exact List.all_eq_true.1 (List.all_eq_true.1 h1 p hp) q hq)
      (fun av v st' G' w' hm hv hu=>by
       simp only [MZ,Option.some.injEq] at hu;subst hu;intro _;exact hP av v st' G' w' act hm (by rw [h.dfs];exact hr0.1.trans (h.Ew.ds.trans hm.ds.symm)) hv (vg rfl))
    unfold Oper.wp at hwp ⊢;rw [acr];refine Yp (Q1:=Q1) (Q2:=Q) (N2:=wpAny P .any ops Q Fd mS) (fun a' w' h=>h) h.dfs (fun c w' hq=>hq rfl) (fun⟨a,w',hq⟩=>⟨a,w',hq⟩) (fun v v' e=>?_) hwp;cases hd:o.dst with
    |none=>rfl
    |some d=>
     rw [hd] at e;have e1:=congrArg Act.tmps e;simp only [Act.put] at e1 ⊢
     congr 1
     by_cases mq:d < act.tmps.size
     ·have:v=v':=by
       have h2:(as.tmps.setIfInBounds d v)[d]? = (as.tmps.setIfInBounds d v')[d]?:=by rw [e1]
       have adN:d < as.tmps.size:=by rw [←h.sz];exact mq
       simpa [adN] using h2
      rw [this]
     ·rw [Array.setIfInBounds_eq_of_size_le (Nat.le_of_not_lt mq),Array.setIfInBounds_eq_of_size_le (Nat.le_of_not_lt mq)]
include hE hS hC hD ye hK hP in
theorem Uy(WH:P.follows .mixedOrders=true){id:Nat}{R:Type}{r:R}{K:St→Option R}{KP:ae→St→Option R}{st:St}{G:Gh}{w:World}{act:Act}(hd:Cr ops.toList (iG ops.toList [])=true)
  (h:∀ l∈iL ops.toList (iG ops.toList []) ops.toList.length [],HX ops.toList l=true∧FF E ops.toList (iG ops.toList []) l [] st K KP=some r)
  (aaS:∀ s,K s=some r→Kok s) (Wx:∀ av s,KP av s=some r→KPok av s) (hm:aB X st G w) (hr:bI G st act):(Code.region id ops true).wp P Q act w:=by
 have wa:=Zv hd;have ack:=RW hD fun l hl=>(h l hl).2;refine wp_region_any WH ?_;have hz:∀ i d,(Array.replicate ops.size false).getD i d=true→d=true:=fun i d hi=>by
  rcases Nat.lt_or_ge i ops.size with h' | h'
  ·simp [h'] at hi
  ·simpa [Array.getElem?_eq_none,h'] using hi
 have hf:∀ i,(Array.replicate ops.size false).getD i false=false:=fun i=>by
  cases hq:(Array.replicate ops.size false).getD i false with
  |false=>rfl
  |true=>have:=hz i false hq;cases this
 have aaZ:Inv E X ops Kok KPok ops.toList.length [] [] st G act (Array.replicate ops.size false) act {w with drawn:=w.drawn + 1}:=
  {
   can:=ack.mono E ops.toList aaS Wx,cov:=fun l hl i hi=>.inr (gE.1 (List.all_eq_true.1 (h l hl).1 i (List.mem_range.2 (by simpa using hi))))
   clo:=fun a k ha=>by cases ha
   SM:=fun a k ha=>by have ha':(Array.replicate ops.size false).getD a false=true:=ha;rw [hf] at ha';cases ha'
   Lx:=fun i hi=>by rw [hf] at hi;cases hi
   lsz:=by simp,Ew:=hm.drew,ib:=hr,PC:=fun i hi=>by cases hi
   dfs:=rfl,sz:=rfl,kX:=fun t _=>rfl}
 obtain⟨n',KR,Xb,s',G',as',WF,hh'⟩:=Th hE hD ye wa aaZ;exact Mf hE hS hC hD ye wa hK hP ops.size WF hh' (by
  refine Nat.le_trans List.countP_le_length ?_;simp)
include hE hS hC hD ye hK hP in
theorem Zp(WH:P.follows .mixedOrders=true){id:Nat}{R:Type}{r:R}{K:St→Option R}{KP:ae→St→Option R}{st:St}{G:Gh}{w:World}{act:Act}(h:Tf E ops.toList st K KP=some r)
  (aaS:∀ s,K s=some r→Kok s) (Wx:∀ av s,KP av s=some r→KPok av s) (hm:aB X st G w) (hr:bI G st act):(Code.region id ops true).wp P Q act w:=by
 unfold Tf at h;cases hd:Cr ops.toList (iG ops.toList []) with
 |false=>simp [hd] at h
 |true=>
  simp only [hd,cond_true] at h;split at h
  ·rename_i l hl
   cases hc:HX ops.toList l with
   |false=>rw [hc] at h;cases h
   |true=>rw [hc,cond_true] at h;exact Uy hE hS hC hD ye hK hP WH hd (fun l' J7=>by rw [hl] at J7;obtain rfl:=List.mem_singleton.1 J7;exact⟨hc,h⟩) aaS Wx hm hr
  ·cases h
end
end Go.Fx
namespace Go.Fx
structure Ee(P:Program)(E:rQ):Prop where
 ir:iy P E.ir
 mix:P.follows .mixedOrders=true
 Ag:∀ f s,E.Ag f=some s→zy P E.gt f s
 det:∀ f s,E.Ag f=some s→oL s
 OJ:∀ f s,E.Ag f=some s→mO s
 aad:∀ i L,E.nU i=some L→zt L
theorem Ki{X:mo}{st:St}{G:Gh}{w:World}{R:Type}{r:R}{act:Act}{d:Option Tmp}{av:ae}{v:Value}{K:St→Option R}(h:oA d av st K=some r)(hm:aB X st G w)(hr:bI G st act)(hv:aT G av v):
  ∃ st',aB X st' G w∧bI G st' (act.put d v)∧K st' = some r:=by
 cases d with
 |none=>exact⟨st,hm,hr,h⟩
 |some d=>
  simp only [oA] at h;cases hc:((look st.jd d).isSome || Nat.ble st.n d) with
  |true=>simp [hc] at h
  |false=>
   simp only [hc,cond_false] at h;simp only [Bool.or_eq_false_iff] at hc;have hd:d < st.n:=by
    rcases Nat.lt_or_ge d st.n with h' | h'
    ·exact h'
    ·have:=Nat.ble_eq_true_of_le h';rw [this] at hc;cases hc.2
   exact⟨_,hm.jQ d av,hr.put hd hv,h⟩
section
variable {P:Program} {E:rQ} (hE:Ee P E) {X:mo} {R:Type} {r:R} (ye:mX E.gt X.S0)
include hE ye
theorem IB{ops:Array Oper}{KP:ae→St→Option R}{K:St→Option R}{Q:Exit→Act→World→Prop}
  (hK:∀ st G w act,aB X st G w→bI G st act→K st=some r→Q .normal act w)
  (hP:∀ av v st G w act,aB X st G w→act.defers=G.ds→aT G av v→KP av st=some r→Q (.panic [{v,recovered:=false}]) act w):
  ∀{l:List Oper} {st:St} {G:Gh} {w:World} {act:Act},px E ops.toList l st K KP=some r→aB X st G w→bI G st act→wpList P ops Q l act w
 |[],st,G,w,act,h,hm,hr=>hK _ _ _ _ hm hr h
 |o :: rest,st,G,w,act,h,hm,hr=>by
  have BY:∀{q:St},aB X q G w→bI G q act→lP E o q (fun v st'=>oA o.dst v st' fun s=>px E ops.toList rest s K KP) KP=some r→Region.wanted o (yielded ops act.tmps)=true→wpList P ops Q (o :: rest) act w:=fun {q} hm hr hx hw=>by
   simp only [wpList,hw,if_true];exact .inl (Gs hE.ir hE.Ag hx ye hm hr (fun av v st' G' w' m' r' v' k'=>by
    obtain⟨s,m2,r2,k2⟩:=Ki k' m' r' v';exact IB hK hP k2 m2 r2) (fun av v st' G' w' m' v' k'=>hP av v st' G' w' act m' (hr.1.trans (hm.ds.trans m'.ds.symm)) v' k'))
  have skip:∀{q:St},aB X q G w→bI G q act→oA o.dst (.one .uB) q (fun s=>px E ops.toList rest s K KP)=some r→Region.wanted o (yielded ops act.tmps)=false→wpList P ops Q (o :: rest) act w:=fun {q} hm hr hx hw=>by
   simp only [wpList,hw,Bool.false_eq_true,if_false];obtain⟨s,m2,r2,k2⟩:=Ki hx hm hr (show aT G (.one .uB) undef from rfl)
   exact IB hK hP k2 m2 r2
  simp only [px] at h;split at h
  ·rename_i hg;exact BY hm hr h (by simp [Region.wanted,hg])
  ·rename_i j rX hg
   split at h
   ·cases h
   ·rename_i g hgd
    have hy:∀ j',yielded ops act.tmps j' = (match (((ops[j']?).bind (·.dst)).bind (act.tmps[·]?)) with | some (.bool b)=>some b | _=>none):=fun j'=>rfl
    have J6:(ops[j]?).bind (·.dst)=some g:=by simpa [pS] using hgd
    split at h
    ·rename_i c vZ
     have hv:=ve (v:=.one (.eX .bool c)) rfl (hr.2.2 g _ vZ);have Ld:act.tmps[g]? = some (.bool c):=by
      rw [Array.getD_eq_getD_getElem?] at hv;cases hq:act.tmps[g]? with
      |none=>rw [hq] at hv;cases hv
      |some u=>rw [hq] at hv;simpa using hv
     have hyj:yielded ops act.tmps j=some c:=by rw [hy,J6];simp [Ld]
     have Ew:∀ b,c=b→bI G (st.jQ g (.one (.eX .bool b))) act:=fun b e=>hr.refine (by rw [hv,e];exact oa b)
     cases c with
     |true=>
      simp only [cond_true] at h;cases rX with
      |true=>simp only [cond_true] at h;exact BY (hm.jQ _ _) (Ew _ rfl) h (by simp [Region.wanted,hg,hyj])
      |false=>simp only [cond_false] at h;exact skip (hm.jQ _ _) (Ew _ rfl) h (by simp [Region.wanted,hg,hyj])
     |false=>
      simp only [cond_false] at h;cases rX with
      |true=>simp only [cond_true] at h;exact skip (hm.jQ _ _) (Ew _ rfl) h (by simp [Region.wanted,hg,hyj])
      |false=>simp only [cond_false] at h;exact BY (hm.jQ _ _) (Ew _ rfl) h (by simp [Region.wanted,hg,hyj])
    ·rename_i vZ
     have hv:act.tmps.getD g undef=undef:=hr.2.2 g _ vZ;have hyj:yielded ops act.tmps j=none:=by
      rw [hy,J6];rw [Array.getD_eq_getD_getElem?] at hv;cases hq:act.tmps[g]? with
      |none=>simp [hq]
      |some u=>rw [hq] at hv;simp only [Option.getD_some] at hv;subst hv;simp [hq,undef]
     exact skip hm hr h (by simp [Region.wanted,hg,hyj])
    ·cases h
omit hE ye in
def tY(P:Program)(gt:Nat→Option GA)(c:Code)(L:kZ):Prop:=
 ∀{R:Type} {r:R} {X:mo} {st:St} {G:Gh} {w:World} {act:Act} {K:Exit→St→Option R} {KP:ae→St→Option R} {Q:Exit→Act→World→Prop},
  L.run st K KP=some r→mX gt X.S0→aB X st G w→bI G st act→
  (∀ e st G w act,aB X st G w→bI G st act→K e st=some r→Q e act w)→
  (∀ av v st G w act,aB X st G w→act.defers=G.ds→aT G av v→KP av st=some r→Q (.panic [{v,recovered:=false}]) act w)→c.wp P Q act w
abbrev Ou(P:Program)(gt:Nat→Option GA)(id:Nat)(body:Code)(L:kZ):Prop:=tY P gt (.block id body) L
noncomputable def rH(P:Program)(E:rQ)(c:Code):Prop:=
 Code.rec (motive:=fun _=>Prop) True (fun id ops draw=>match draw,E.nU (id + 1000000) with | true,some L=>tY P E.gt (.region id ops true) L | _,_=>True) (fun _ _ x y=>x∧y) (fun _ _ _ x y=>x∧y)
  (fun id b x=>match E.nU id with | some L=>Ou P E.gt id b L | none=>x) (fun _ _=>True) (fun _ _ _ _ _ _=>True)
  (fun _=>True) (fun _ _=>True) (fun _=>True) (fun _=>True) True (fun _=>True) c
theorem yK(c:Code):rH P E c→∀{st:St} {G:Gh} {w:World} {act:Act} {K:Exit→St→Option R} {KP:ae→St→Option R} {Q:Exit→Act→World→Prop},rW E c st K KP=some r→aB X st G w→bI G st act→
  (∀ e st G w act,aB X st G w→bI G st act→K e st=some r→Q e act w)→
  (∀ av v st G w act,aB X st G w→act.defers=G.ds→aT G av v→KP av st=some r→Q (.panic [{v,recovered:=false}]) act w)→c.wp P Q act w:=by
 induction c with
 |skip=>intro _ st G w act K KP Q h hm hr hK hP;exact wp_skip (hK _ _ _ _ _ hm hr h)
 |region id ops draw=>
  intro hL st G w act K KP Q h hm hr hK hP;cases draw with
  |true=>
   have h:(match E.nU (id + 1000000) with | some L=>L.run st K KP | none=>Tf E ops.toList st (fun s=>K .normal s) KP)=some r:=h
   have hL:(match true,E.nU (id + 1000000) with | true,some L=>tY P E.gt (.region id ops true) L | _,_=>True):=hL
   cases hl:E.nU (id + 1000000) with
   |some L=>simp only [hl] at h hL;exact hL h ye hm hr hK hP
   |none=>simp only [hl] at h;exact Zp hE.ir hE.Ag hE.OJ hE.det ye (fun st G w act m' r' k'=>hK .normal st G w act m' r' k') (Kok:=fun s=>K .normal s=some r) (KPok:=fun av s=>KP av s=some r) hP hE.mix h (fun _ h=>h) (fun _ _ h=>h) hm hr
  |false=>exact wp_region_list (IB hE ye (fun st G w act=>hK .normal st G w act) hP h hm hr)
 |seq a b Ln Pa=>
  intro hL st G w act K KP Q h hm hr hK hP;refine wp_seq (Ln hL.1 h hm hr (fun e s G w act m r' k=>?_) (fun av v s G w act m r' v' k=>hP av v s G w act m r' v' k));cases e with
  |normal=>exact Pa hL.2 k m r' hK hP
  |_=>exact hK _ _ _ _ _ m r' k
 |cond c t e iht ihe=>
  intro hL st G w act K KP Q h hm hr hK hP;have h:(match (ev E st c).Eg with | some b=>bif b then rW E t st K KP else rW E e st K KP | none=>none)=some r:=h
  cases hb:(ev E st c).Eg with
  |none=>simp [hb] at h
  |some b=>
   simp only [hb] at h;have hv:=ve hb (fy (ye.mono hm.s0) hr c);cases b with
   |true=>exact wp_cond_true hv (iht hL.1 h hm hr hK hP)
   |false=>exact wp_cond_false hv (ihe hL.2 h hm hr hK hP)
 |block id b ih=>
  intro hL st G w act K KP Q h hm hr hK hP;have h:(match E.nU id with
   |some L=>L.run st K KP
   |none=>rW E b st (fun e s=>match e with | .exit i=>(bif Nat.beq i id then K .normal s else K (.exit i) s) | e=>K e s) KP)=some r:=h
  have hL:(match E.nU id with | some L=>Ou P E.gt id b L | none=>rH P E b):=hL
  cases hl:E.nU id with
  |some L=>simp only [hl] at h hL;exact hL h ye hm hr hK hP
  |none=>
   simp only [hl] at h hL;refine wp_block (ih hL h hm hr (fun e s G w act m r' k=>?_) (fun av v s G w act m r' v' k=>hP av v s G w act m r' v' k));cases e with
   |exit i=>
    simp only [Exit.inBlock];by_cases e:i=id
    ·subst e
     simp only [Nat.beq_refl,cond_true] at k;simp only [if_true];exact hK _ _ _ _ _ m r' k
    ·simp only [ug e,cond_false] at k
     simp only [e,if_false];exact hK _ _ _ _ _ m r' k
   |_=>exact hK _ _ _ _ _ m r' k
 |exit id=>intro _ st G w act K KP Q h hm hr hK hP;exact wp_exit (hK _ _ _ _ _ hm hr h)
 |ret=>intro _ st G w act K KP Q h hm hr hK hP;exact wp_ret (hK _ _ _ _ _ hm hr h)
 |_=>intro _ st G w act K KP Q h;cases h
end
end Go.Fx
namespace Go.Fx
abbrev AL:=List (Nat×Option Nat×jB)
def Gh.tC(G:Gh)(al:AL):Gh:={G with
 ψ:=fun nm=>match look al nm with | some (some a,_)=>G.ψ a | _=>.slice none 0 0
 HA:=fun nm=>match look al nm with | some (some a,_)=>G.HA a | _=>[]
 vn:=fun _=>0
 HV:=fun nm _=>match look al nm with | some (some a,_)=>kh (G.HA a) | _=>[]}
def St.tB(st:St)(i:Nat):ae:=(match st.ib i with | some v=>v | none=>.one .any)
structure II(st t:St)(al:AL):Prop where
 n:t.n=st.n
 vr:t.Dc = []
 arr:∀ nm A,t.arr nm=some A→∃ jH,look al nm=some (jH,A)
 jH:∀ nm a A,look al nm=some (some a,A)→A.sh=false∧st.arr a=some A
 nil:∀ nm A,look al nm=some (none,A)→A.sh=false∧A.l = []∧A.oW=true
 inj:∀ nm nm' a A A',look al nm=some (some a,A)→look al nm' = some (some a,A')→nm=nm'
 ib:∀ i tv,t.ib i=some tv→∀ X G w v,aB X st G w→aT G (st.tB i) v→aT (G.tC al) tv v
 dJ:∀ o tl,t.dJ o=some tl→∃ sl,st.dJ o=some sl∧All2 (fun a b=>∀ X G w v,aB X st G w→aX G a v→aX (G.tC al) b v) (st.jO o 0 sl) (t.jO o 0 tl)
structure aav(st t:St)(al:AL):Prop extends II st t al where
 pn:t.pin=st.pin
 pa:∀ a,eT a st.pin=true→(∃ A,look al a=some (some a,A))∧∃ B,t.arr a=some B
 pin:∀ o sl,o < 10000→st.dJ o=some sl→∃ tl,t.dJ o=some tl
 t6:∀ o j lf sl,o < 10000→dV st.cz o j=some lf→st.dJ o=some sl→sl[j]? = some .t6→(∃ lf',dV t.cz o j=some lf')∧∃ tl,t.dJ o=some tl∧tl[j]? = some .t6
theorem All2.aaH{α β γ:Type}{R:α→γ→Prop}{T:β→γ→Prop}:∀{xs:List α} {ys:List β} {vs:List γ},All2 (fun a b=>∀ v,R a v→T b v) xs ys→All2 R xs vs→All2 T ys vs
 |[],[],[],_,_=>trivial
 |_ :: _,_ :: _,_ :: _,h,k=>⟨h.1 _ k.1,All2.aaH h.2 k.2⟩
 |[],[],_ :: _,_,k=>k.elim
 |[],_ :: _,_,h,_=>h.elim
 |_ :: _,[],_,h,_=>h.elim
 |_ :: _,_ :: _,[],_,k=>k.elim
theorem II.oW{st t:St}{al:AL}(h:II st t al){G:Gh}:∀ x b,eU (G.tC al) t x b→∃ x',eU G st x' b∧((∃ o,x=(false,o)∧x' = (false,o))∨∃ nm a A,x=(true,nm)∧x' = (true,a)∧look al nm=some (some a,A)):=fun x b hx=>by
 obtain⟨k,n⟩:=x;cases k with
 |false=>obtain⟨⟨tl,ht⟩,rfl⟩:=hx;obtain⟨sl,hs,_⟩:=h.dJ n tl ht;exact⟨(false,n),⟨⟨sl,hs⟩,rfl⟩,.inl ⟨n,rfl,rfl⟩⟩
 |true=>
  obtain⟨⟨A,hA,hs⟩,p,hp,rfl⟩:=hx;obtain⟨jH,hl⟩:=h.arr n A hA;cases jH with
  |none=>simp [Gh.tC,hl] at hp
  |some a=>simp only [Gh.tC,hl] at hp;exact⟨(true,a),⟨⟨A,(h.jH n a A hl).2,hs⟩,p,hp,rfl⟩,.inr ⟨n,a,A,rfl,rfl,hl⟩⟩
theorem II.ok{st t:St}{al:AL}(h:II st t al){X:mo}{G:Gh}{w:World}(hm:aB X st G w)(Vd:∀ o p,X.pin o=some p→∃ tl,t.dJ o=some tl)
  (hbv:∀ o j u,X.bv o j=some u→(∃ lf',dV t.cz o j=some lf')∧∃ tl,t.dJ o=some tl∧tl[j]? = some .t6)
  (hap:∀ a u,X.Yy a=some u→eT a t.pin=true∧(∃ A,t.arr a=some A)∧(G.tC al).ψ a=u):aB X t (G.tC al) w:=by
 have oW:=h.oW (G:=G);refine {sl:=fun a=>?_,sh:=hm.sh,ob:=fun o tl ho=>?_,ar:=fun nm A hA=>?_,ah:=fun nm A hA hs=>?_,nd:=fun nm A hA hs=>?_,pO:=fun x y b hx hy=>?_,dS:=fun x b hx=>?_,sD:=fun x b hx=>?_,s0:=hm.s0,sn:=hm.sn,fr:=hm.fr,sz:=hm.sz,os:=hm.os,tp:=hm.tp,out:=hm.out,pin:=fun o p hp=>?_,bv:=fun o j u hv=>(by obtain⟨_,_,r⟩:=hm.bv o j u hv;obtain⟨q1,q2⟩:=hbv o j u hv;exact⟨q1,q2,r⟩),ap:=hap,hv:=fun a=>(by simp only [St.dy,h.vr,look];rfl),ds:=hm.ds,hh:=fun nm A hA hs hn=>?_}
 ·show SlV (match look al a with | some (some a,_)=>G.ψ a | _=>.slice none 0 0)
  split
  ·exact hm.sl _
  ·exact .inl ⟨_,_,_,rfl⟩
 ·obtain⟨sl,hs,ha⟩:=h.dJ o tl ho
  obtain⟨arr,elem,mid,g1,g2,g3⟩:=hm.ob o sl hs;exact⟨arr,elem,mid,g1,g2,(ha.imp fun a b hab v hv=>hab X G w v hm hv).aaH g3⟩
 ·obtain⟨jH,hl⟩:=h.arr nm A hA
  cases jH with
  |none=>obtain⟨h1,h2,h3⟩:=h.nil nm A hl;refine(gS h1 h3).2 ?_;exact .inl ⟨h2,by simp [Gh.tC,hl],by simp [Gh.tC,hl]⟩
  |some a=>obtain⟨h1,h2⟩:=h.jH nm a A hl;exact(hm.ar a A h2).mono (G:=G) (a:=a) (G':=G.tC al) (a':=nm) (fun _ _ h=>h) (by simp [Gh.tC,hl]) (by simp [Gh.tC,hl]) (fun _ _ _=>⟨rfl,rfl,rfl⟩)
 ·obtain⟨jH,hl⟩:=h.arr nm A hA
  cases jH with
  |none=>intro p hp;simp [Gh.tC,hl] at hp
  |some a=>simpa [Gh.tC,hl] using hm.ah a A (h.jH nm a A hl).2 hs
 ·obtain⟨jH,hl⟩:=h.arr nm A hA
  cases jH with
  |none=>simp [Gh.tC,hl]
  |some a=>simpa [Gh.tC,hl] using hm.nd a A (h.jH nm a A hl).2 hs
 ·obtain⟨x',Dl,cx⟩:=oW x b hx
  obtain⟨y',Eo,cy⟩:=oW y b hy;have e:=hm.pO x' y' b Dl Eo;rcases cx with ⟨o,rfl,rfl⟩ |⟨nm,a,A,rfl,rfl,hl⟩<;>rcases cy with ⟨o',rfl,rfl⟩ |⟨nm',a',A',rfl,rfl,J7⟩
  ·exact e
  ·simp at e
  ·simp at e
  ·simp only [Prod.mk.injEq,true_and] at e
   subst e;rw [h.inj nm nm' a A A' hl J7]
 ·obtain⟨x',Dl,_⟩:=oW x b hx;exact hm.dS x' b Dl
 ·obtain⟨x',Dl,_⟩:=oW x b hx;exact hm.sD x' b Dl
 ·exact⟨Vd o p hp,(hm.pin o p hp).2⟩
 ·obtain⟨jH,hl⟩:=h.arr nm A hA
  cases jH with
  |none=>simp [Gh.tC,hl,kh]
  |some a=>simp [Gh.tC,hl]
theorem aav.ok{st t:St}{al:AL}(h:aav st t al){X:mo}{G:Gh}{w:World}(hm:aB X st G w):aB X t (G.tC al) w:=
 h.toII.ok hm (fun o p hp=>(by obtain⟨⟨sl,hs⟩,_⟩:=hm.pin o p hp;exact h.pin o sl (X.pl o p hp) hs))
  (fun o j u hv=>(by obtain⟨⟨lf,h1⟩,⟨sl,h2,h3⟩,_⟩:=hm.bv o j u hv;exact h.t6 o j lf sl (X.bl o j u hv) h1 h2 h3))
  (fun a u hu=>(by
   obtain⟨h1,_,h3⟩:=hm.ap a u hu;obtain⟨⟨A,h4⟩,B,h5⟩:=h.pa a h1;exact⟨(by rw [h.pn];exact h1),⟨B,h5⟩,by simp [Gh.tC,h4,h3]⟩))
theorem II.et{st t:St}{al:AL}(h:II st t al){X:mo}{G:Gh}{w:World}(hm:aB X st G w){act:Act}(hr:bI G st act):bI (G.tC al) t act:=
 ⟨hr.1,hr.2.1.trans h.n.symm,fun i tv ht=>by
  refine h.ib i tv ht X G w _ hm ?_;unfold St.tB;cases hs:st.ib i with
  |none=>trivial
  |some sv=>exact hr.2.2 i sv hs⟩
structure V1(st t:St):Prop where
 vr:t.Dc=st.Dc
 pn:t.pin=st.pin
 ap:∀ a A,eT a st.pin=true→st.arr a=some A→∃ B,t.arr a=some B
 n:t.n=st.n
 arr:∀ nm A,t.arr nm=some A→st.arr nm=some A
 ib:∀ i tv,t.ib i=some tv→∀ G v,aT G (st.tB i) v→aT G tv v
 dJ:∀ o tl,t.dJ o=some tl→∃ sl,st.dJ o=some sl∧All2 (fun a b=>∀ G v,aX G a v→aX G b v) (st.jO o 0 sl) (t.jO o 0 tl)
 pin:∀ o sl,o < 10000→st.dJ o=some sl→∃ tl,t.dJ o=some tl
 t6:∀ o j lf sl,dV t.cz o j=some lf→st.dJ o=some sl→sl[j]? = some .t6→∃ tl,t.dJ o=some tl∧tl[j]? = some .t6
theorem V1.ok{st t:St}(h:V1 st t){X:mo}{G:Gh}{w:World}(hm:aB X st G w)(hbv:∀ o j u,X.bv o j=some u→∃ lf,dV t.cz o j=some lf):aB X t G w:=by
 have oW:∀ x b,eU G t x b→eU G st x b:=fun x b hx=>by
  obtain⟨k,n⟩:=x;cases k with
  |false=>obtain⟨⟨tl,ht⟩,rfl⟩:=hx;obtain⟨sl,hs,_⟩:=h.dJ n tl ht;exact⟨⟨sl,hs⟩,rfl⟩
  |true=>obtain⟨⟨A,hA,hs⟩,p,hp,rfl⟩:=hx;exact⟨⟨A,h.arr n A hA,hs⟩,p,hp,rfl⟩
 refine {sl:=hm.sl,sh:=hm.sh,ob:=fun o tl ho=>?_,ar:=fun nm A hA=>hm.ar nm A (h.arr nm A hA),ah:=fun nm A hA hs=>hm.ah nm A (h.arr nm A hA) hs,nd:=fun nm A hA hs=>hm.nd nm A (h.arr nm A hA) hs,pO:=fun x y b hx hy=>hm.pO x y b (oW x b hx) (oW y b hy),dS:=fun x b hx=>hm.dS x b (oW x b hx),sD:=fun x b hx=>hm.sD x b (oW x b hx),s0:=hm.s0,sn:=hm.sn,fr:=hm.fr,sz:=hm.sz,os:=hm.os,tp:=hm.tp,out:=hm.out,pin:=fun o p hp=>?_,bv:=fun o j u hv=>(by obtain⟨_,⟨sl,h2,h3⟩,r⟩:=hm.bv o j u hv;obtain⟨lf,h1⟩:=hbv o j u hv;exact⟨⟨lf,h1⟩,h.t6 o j lf sl h1 h2 h3,r⟩),ap:=fun a u hu=>(by obtain⟨h1,⟨A,h2⟩,h3⟩:=hm.ap a u hu;exact⟨by rw [h.pn];exact h1,h.ap a A h1 h2,h3⟩),hv:=fun a=>(by rw [hm.hv a];simp only [St.dy,h.vr]),ds:=hm.ds,hh:=fun nm A hA hs hn=>hm.hh nm A (h.arr nm A hA) hs hn}
 ·obtain⟨sl,hs,ha⟩:=h.dJ o tl ho
  obtain⟨arr,elem,mid,g1,g2,g3⟩:=hm.ob o sl hs;exact⟨arr,elem,mid,g1,g2,(ha.imp fun a b hab v hv=>hab G v hv).aaH g3⟩
 ·obtain⟨⟨sl,hs⟩,e⟩:=hm.pin o p hp
  exact⟨h.pin o sl (X.pl o p hp) hs,e⟩
theorem V1.et{st t:St}(h:V1 st t){G:Gh}{act:Act}(hr:bI G st act):bI G t act:=
 ⟨hr.1,hr.2.1.trans h.n.symm,fun i tv ht=>by
  refine h.ib i tv ht G _ ?_;unfold St.tB;cases hs:st.ib i with
  |none=>trivial
  |some sv=>exact hr.2.2 i sv hs⟩
end Go.Fx
namespace Go.Fx
inductive Pl where
 |r (i:Nat) | l (o j:Nat) | q (i j:Nat)
def Pl.key:Pl→Nat
 |.r i=>1000000 + i
 |.l o j=>2000000 + o * 1000 + j
 |.q i j=>20000000 + i * 1000 + j
def Md.PB:Md→Bool
 |.ez=>true
 |.bP=>true
 |_=>false
inductive ml where
 |any | d (t:Ty) | h (m:Md) (t:Ty) | lit (l:af)
@[reducible] def ml.V:ml→Type
 |.any=>Unit | .d t=>t.mZ | .h _ t=>List t.mZ | .lit _=>Unit
abbrev kI:=List (Pl×ml)
@[reducible] def PV:kI→Type
 |[]=>Unit
 |p :: r=>p.2.V×PV r
def ml.bJ(nm:Nat):(s:ml)→s.V→af
 |.any,_=>.any
 |.d t,x=>.eX t x
 |.h _ _,_=>.mq nm
 |.lit l,_=>l
def ml.arr:(s:ml)→s.V→Option jB
 |.h m t,x=>some ⟨t,m,false,x⟩
 |_,_=>none
def lr:(ps:kI)→PV ps→List (Nat×ae)
 |[],_=>[]
 |(.r i,s) :: r,v=>(i,.one (s.bJ (Pl.r i).key v.1)) :: lr r v.2
 |(.l _ _,_) :: r,v=>lr r v.2
 |(.q _ _,_) :: r,v=>lr r v.2
def Hd:(ps:kI)→PV ps→List (Nat×Nat×af)
 |[],_=>[]
 |(.q i j,s) :: r,v=>(i,j,s.bJ (Pl.q i j).key v.1) :: Hd r v.2
 |(.r _,_) :: r,v=>Hd r v.2
 |(.l _ _,_) :: r,v=>Hd r v.2
def PJ(i:Nat):kI→Nat
 |[]=>0
 |(.q i' _,_) :: r=>bif Nat.beq i' i then PJ i r + 1 else PJ i r
 |_ :: r=>PJ i r
def Vx(full:kI):kI→List (Nat×Nat)
 |[]=>[]
 |(.q i 0,_) :: r=>(i,PJ i full) :: Vx full r
 |_ :: r=>Vx full r
def qsh(l:List (Nat×Nat×af))(i:Nat):Nat→Nat→List af
 |_,0=>[]
 |j,n + 1=>(match dV l i j with | some l=>l | none=>.any) :: qsh l i (j + 1) n
def Qm(ps:kI)(v:PV ps):List (Nat×ae):=(Vx ps ps).map fun p=>(p.1,.agg (qsh (Hd ps v) p.1 0 p.2))
def bY:(ps:kI)→PV ps→List (Nat×Nat×af)
 |[],_=>[]
 |(.l o j,s) :: r,v=>(o,j,s.bJ (Pl.l o j).key v.1) :: bY r v.2
 |(.r _,_) :: r,v=>bY r v.2
 |(.q _ _,_) :: r,v=>bY r v.2
def eF:(ps:kI)→PV ps→List (Nat×jB)
 |[],_=>[]
 |(p,s) :: r,v=>(match s.arr v.1 with | some A=>(p.key,A) :: eF r v.2 | none=>eF r v.2)
structure pN where
 n:Nat
 b9:List (Nat×Nat)
 cs:kI
 vs:kI
 pin:List Nat
def oZ(cl vl:List (Nat×Nat×af))(o:Nat):Nat→Nat→List af
 |_,0=>[]
 |j,k + 1=>(match dV cl o j with | some _=>.t6 | none=>match dV vl o j with | some l=>l | none=>.any) :: oZ cl vl o (j + 1) k
def pN.st(L:pN)(c:PV L.cs)(v:PV L.vs):St:=
 ⟨L.n,lr L.vs v ++ Qm L.vs v,L.b9.map fun p=>(p.1,oZ (bY L.cs c) (bY L.vs v) p.1 0 p.2),eF L.vs v,lr L.cs c,bY L.cs c,eF L.cs c,L.pin,[]⟩
def uW:af→af→Bool
 |.nil,.nil=>true
 |.Ir,.Ir=>true
 |.uB,.uB=>true
 |.mT o f,.mT o' f'=>Nat.beq o o' && Nat.beq f f'
 |.fn f,.fn f'=>Nat.beq f f'
 |_,_=>false
def ae.qls(v:ae):Option (List af):=bif v.isAgg then v.pw else none
def qOk(ps:kI)(s:St):Bool:=(Vx ps ps).all fun p=>match (s.tB p.1).qls with | some ls=>Nat.beq ls.length p.2 | none=>false
def St.at(st:St):Pl→ae
 |.r i=>st.tB i
 |.q i j=>(match (st.tB i).qls with | some ls=>(match ls[j]? with | some l=>.one l | none=>.one .any) | none=>.one .any)
 |.l o j=>(match st.dJ o with | some ls=>(match ls[j]? with | some l=>.one (st.res o j l) | none=>.one .any) | none=>.one .any)
def yJ(st:St)(p:Pl):(s:ml)→Option (s.V×AL)
 |.any=>some ((),[])
 |.d t=>(match (st.at p).vE st t with | some x=>some (x,[]) | none=>none)
 |.h m t=>(match st.at p with
  |.one .nil=>(bif m.PB then some ([],[(p.key,none,⟨t,m,false,[]⟩)]) else none)
  |.one (.mq a)=>(match st.arr a with
   |some A=>(bif A.sh || !m.kX A.md then none else match uJ (.slice A.t) (.slice t) A.l with | some x=>some (x,[(p.key,some a,⟨t,m,false,x⟩)]) | none=>none)
   |none=>none)
  |_=>none)
 |.lit l=>(match st.at p with | .one l'=>(bif uW l l' then some ((),[]) else none) | _=>none)
def kT(st:St):(ps:kI)→Option (PV ps×AL)
 |[]=>some ((),[])
 |p :: r=>(match yJ st p.1 p.2 with
  |some (x,a)=>(match kT st r with | some (xs,b)=>some ((x,xs),a ++ b) | none=>none)
  |none=>none)
def iB:kI→St→Option St
 |[],st=>some st
 |(p,.d _) :: r,st=>(match (st.at p).qd st with | some st'=>iB r st' | none=>none)
 |_ :: r,st=>iB r st
def yU(al:AL):Bool:=nN (al.map (·.1)) && nN (al.filterMap (·.2.1))
def CT(b9:List (Nat×Nat))(st:St):Bool:=
 b9.all (fun p=>match st.dJ p.1 with | some ls=>Nat.beq ls.length p.2 | none=>false) && st.b9.all fun p=>Nat.ble 10000 p.1 || eT p.1 (b9.map (·.1))
def GL(st:St):Pl→ml→Bool
 |.r i,s=>(look st.et i).isNone && (match s with | .h _ _=>(look st.cI (Pl.r i).key).isNone | .lit l=>uW l l | _=>true)
 |.l o j,s=>(match st.dJ o with | some ls=>(match ls[j]? with | some .t6=>true | _=>false) | none=>false) && (match s with | .h _ _=>(look st.cI (Pl.l o j).key).isNone | .lit l=>uW l l | _=>true)
 |.q _ _,_=>false
def uv(st:St)(cs:kI):Bool:=nN (cs.map fun p=>p.1.key) && cs.all fun p=>GL st p.1 p.2
def fR:(cs:kI)→PV cs→AL
 |[],_=>[]
 |(p,s) :: r,v=>(match s.arr v.1 with | some A=>(p.key,some p.key,A) :: fR r v.2 | none=>fR r v.2)
def U3:List Nat→List Nat→Bool
 |[],[]=>true
 |x :: r,y :: s=>Nat.beq x y && U3 r s
 |_,_=>false
def Et(pin:List Nat)(al:AL):Bool:=pin.all fun q=>match look al q with | some (some b,_)=>Nat.beq q b | _=>false
def ent(L:pN)(st:St):Option (PV L.cs×PV L.vs×St):=
 match iB L.cs st with
 |none=>none
 |some s=>(match iB L.vs s with
  |none=>none
  |some s=>(match kT s L.cs with
   |none=>none
   |some (c,a)=>(match kT s L.vs with
    |none=>none
    |some (v,b)=>(bif Nat.beq L.n s.n && yU (a ++ b) && CT L.b9 s && qOk L.vs s && (U3 L.pin s.pin && Et L.pin (a ++ b)) then some (c,v,s) else none))))
def rnd(L:pN)(al:AL)(s:St):Option (PV L.vs):=
 match iB L.vs s with
 |none=>none
 |some s=>(match kT s L.vs with
  |none=>none
  |some (v,b)=>(bif uv s L.cs && yU (al ++ b) && CT L.b9 s && qOk L.vs s && Et L.pin (al ++ b) then some v else none))
end Go.Fx
namespace Go.Fx
theorem eB:∀{l:List Nat},nN l=true→l.Nodup
 |[],_=>List.nodup_nil
 |x :: r,h=>by simp only [nN,Bool.and_eq_true,Bool.not_eq_true'] at h;rw [List.nodup_cons];exact⟨(fun hx=>(by rw [gE.2 hx] at h;cases h.1)),eB h.2⟩
theorem kS{α:Type}:∀{l:List (Nat×α)} {k:Nat} {v:α},(l.map (·.1)).Nodup→(k,v)∈l→look l k=some v
 |(k',v') :: r,k,v,hn,h=>by
  rw [aw];rw [List.map_cons,List.nodup_cons] at hn;by_cases e:k' = k
  ·subst e
   rcases List.mem_cons.1 h with h | h
   ·cases h;simp
   ·exact absurd (List.mem_map_of_mem (f:=(·.1)) h) hn.1
  ·rw [if_neg e]
   rcases List.mem_cons.1 h with h | h
   ·cases h;exact absurd rfl e
   ·exact kS hn.2 h
theorem Hm:∀{al:AL} {n n' a:Nat} {A A':jB},(al.filterMap (·.2.1)).Nodup→(n,some a,A)∈al→(n',some a,A')∈al→n=n'
 |(k,jH,B) :: r,n,n',a,A,A',hn,h,h'=>by
  have gT:∀{m:Nat} {C:jB},(m,some a,C)∈r→a∈r.filterMap (·.2.1):=fun {m C} hm=>List.mem_filterMap.2 ⟨_,hm,rfl⟩
  rcases List.mem_cons.1 h with h1 | h1<;>rcases List.mem_cons.1 h' with h2 | h2
  ·cases h1;cases h2;rfl
  ·cases h1
   simp only [List.filterMap_cons,List.nodup_cons] at hn;exact absurd (gT h2) hn.1
  ·cases h2
   simp only [List.filterMap_cons,List.nodup_cons] at hn;exact absurd (gT h1) hn.1
  ·refine Hm (al:=r) ?_ h1 h2
   cases jH with
   |none=>simpa using hn
   |some _=>simp only [List.filterMap_cons,List.nodup_cons] at hn;exact hn.2
def Km(s:St)(al:AL):Prop:=∀ nm jH A,(nm,jH,A)∈al→A.sh=false∧(match jH with | some a=>s.arr a=some A | none=>A.l = []∧A.oW=true)
structure Src(s:St)(al:AL)(p:Pl)(sp:ml)(x:sp.V):Prop where
 Ew:∀ X G w v,aB X s G w→aT G (s.at p) v→aT (G.tC al) (.one (sp.bJ p.key x)) v
 arr:∀ A,sp.arr x=some A→∃ jH,look al p.key=some (jH,A)
def rR(s:St)(al:AL):(ps:kI)→PV ps→Prop
 |[],_=>True
 |(p,sp) :: r,v=>Src s al p sp v.1∧rR s al r v.2
theorem Lt{l l':af}(h:uW l l' = true):l=l':=by cases l<;>cases l'<;>simp_all [uW]
theorem T9{G:Gh}{al:AL}{l l':af}{v:Value}(h:uW l l' = true)(r:aX G l' v):aX (G.tC al) l v:=by rw [Lt h];cases l'<;>first | exact r |(cases l<;>simp [uW] at h)
theorem XU{s:St}{p:Pl}{sp:ml}{x:sp.V}{a:AL}(h:yJ s p sp=some (x,a)):Km s a:=by
 cases sp with
 |any=>simp only [yJ,Option.some.injEq,Prod.mk.injEq] at h;obtain⟨_,rfl⟩:=h;intro _ _ _ hm;cases hm
 |d t=>
  simp only [yJ] at h;split at h
  ·simp only [Option.some.injEq,Prod.mk.injEq] at h;obtain⟨_,rfl⟩:=h;intro _ _ _ hm;cases hm
  ·cases h
 |lit l=>
  simp only [yJ] at h;split at h
  ·rename_i l' _
   cases he:uW l l'<;>simp [he] at h;subst h;intro _ _ _ hm;cases hm
  ·cases h
 |h m t=>
  simp only [yJ] at h;split at h
  ·cases hw:m.PB with
   |false=>simp [hw] at h
   |true=>
   simp only [hw,cond_true,Option.some.injEq,Prod.mk.injEq] at h;obtain⟨_,rfl⟩:=h;intro nm jH A hm;simp only [List.mem_singleton,Prod.mk.injEq] at hm;obtain⟨_,rfl,rfl⟩:=hm;exact⟨rfl,rfl,hw⟩
  ·rename_i b _
   split at h
   ·rename_i A hA
    cases hs:(A.sh || !m.kX A.md) with
    |true=>simp [hs] at h
    |false=>
     simp only [hs,cond_false] at h;simp only [Bool.or_eq_false_iff,Bool.not_eq_false'] at hs;split at h
     ·rename_i y hy
      simp only [Option.some.injEq,Prod.mk.injEq] at h;obtain⟨rfl,rfl⟩:=h;intro nm jH B hm;simp only [List.mem_singleton,Prod.mk.injEq] at hm;obtain⟨_,rfl,rfl⟩:=hm;obtain⟨ec,el⟩:=lk hy;have uc:=Md.vV hs.2;obtain⟨t',dp,sh,ll⟩:=A;simp only [Ty.slice.injEq] at ec;subst ec;simp only at el hs uc;obtain⟨rfl,_⟩:=hs;subst el uc;exact⟨rfl,hA⟩
     ·cases h
   ·cases h
  ·cases h
theorem Zj{s:St}{p:Pl}{sp:ml}{x:sp.V}{a al:AL}(h:yJ s p sp=some (x,a))(pV:∀ e∈a,e∈al)(hn:(al.map (·.1)).Nodup):Src s al p sp x:=by
 cases sp with
 |any=>exact⟨fun _ _ _ _ _ _=>trivial,fun A hA=>by cases hA⟩
 |d t=>
  simp only [yJ] at h;split at h
  ·rename_i y hy
   simp only [Option.some.injEq,Prod.mk.injEq] at h;obtain⟨rfl,_⟩:=h;exact⟨fun X G w v hm hv=>Cj hm hy hv,fun A hA=>by cases hA⟩
  ·cases h
 |lit l=>
  simp only [yJ] at h;split at h
  ·rename_i l' J7
   cases he:uW l l'<;>simp [he] at h;refine⟨fun X G w v hm hv=>?_,fun A hA=>by cases hA⟩
   rw [J7] at hv;exact T9 he hv
  ·cases h
 |h m t=>
  simp only [yJ] at h;split at h
  ·rename_i ub
   cases hw:m.PB with
   |false=>simp [hw] at h
   |true=>
   simp only [hw,cond_true,Option.some.injEq,Prod.mk.injEq] at h;obtain⟨rfl,rfl⟩:=h;have hl:=kS hn (pV _ (List.mem_singleton.2 rfl));refine⟨fun X G w v hm hv=>?_,fun A hA=>⟨none,by rw [hl];simp [ml.arr] at hA;rw [hA]⟩⟩
   rw [ub] at hv;show v=(G.tC al).ψ p.key;simp only [Gh.tC,hl];exact hv
  ·rename_i b ub
   split at h
   ·rename_i A hA
    cases hs:(A.sh || !m.kX A.md) with
    |true=>simp [hs] at h
    |false=>
     simp only [hs,cond_false] at h;split at h
     ·rename_i y hy
      simp only [Option.some.injEq,Prod.mk.injEq] at h;obtain⟨rfl,rfl⟩:=h;have hl:=kS hn (pV _ (List.mem_singleton.2 rfl));refine⟨fun X G w v hm hv=>?_,fun A hA=>⟨some b,by rw [hl];simp [ml.arr] at hA;rw [hA]⟩⟩
      rw [ub] at hv;show v=(G.tC al).ψ p.key;simp only [Gh.tC,hl];exact hv
     ·cases h
   ·cases h
  ·cases h
theorem oY{s:St}:∀{ps:kI} {v:PV ps} {a:AL},kT s ps=some (v,a)→Km s a
 |[],v,a,h=>by simp only [kT,Option.some.injEq,Prod.mk.injEq] at h;obtain⟨_,rfl⟩:=h;intro _ _ _ hm;cases hm
 |(p,sp) :: r,v,a,h=>by
  simp only [kT] at h;split at h
  ·rename_i x a1 h1
   split at h
   ·rename_i xs b h2
    simp only [Option.some.injEq,Prod.mk.injEq] at h;obtain⟨_,rfl⟩:=h;intro nm jH A hm;rcases List.mem_append.1 hm with hm | hm
    ·exact XU h1 nm jH A hm
    ·exact oY h2 nm jH A hm
   ·cases h
  ·cases h
theorem uj{s:St}{al:AL}(hn:(al.map (·.1)).Nodup):∀{ps:kI} {v:PV ps} {a:AL},kT s ps=some (v,a)→(∀ e∈a,e∈al)→rR s al ps v
 |[],v,a,h,_=>trivial
 |(p,sp) :: r,v,a,h,pV=>by
  simp only [kT] at h;split at h
  ·rename_i x a1 h1
   split at h
   ·rename_i xs b h2
    simp only [Option.some.injEq,Prod.mk.injEq] at h;obtain⟨rfl,rfl⟩:=h;exact⟨Zj h1 (fun e he=>pV e (List.mem_append_left _ he)) hn,uj hn h2 (fun e he=>pV e (List.mem_append_right _ he))⟩
   ·cases h
  ·cases h
theorem AA{s:St}{al:AL}:∀{ps:kI} {v:PV ps} {nm:Nat} {A:jB},rR s al ps v→look (eF ps v) nm=some A→∃ jH,look al nm=some (jH,A)
 |[],v,nm,A,_,h=>by cases h
 |(p,sp) :: r,v,nm,A,hs,h=>by
  simp only [eF] at h;split at h
  ·rename_i B hB
   rw [aw] at h;by_cases e:p.key=nm
   ·simp only [e,if_true,Option.some.injEq] at h
    subst h;subst e;exact hs.1.arr _ hB
   ·simp only [e,if_false] at h;exact AA hs.2 h
  ·exact AA hs.2 h
theorem ij{α:Type}:∀(l m:List (Nat×α)) (k:Nat),look (l ++ m) k=(match look l k with | some v=>some v | none=>look m k)
 |[],m,k=>rfl
 |(k',v) :: r,m,k=>by
  simp only [List.cons_append,aw];by_cases e:k' = k
  ·simp [e]
  ·simp only [e,if_false];exact ij r m k
theorem wx{s:St}:∀{ps:kI} {v:PV ps} {a:AL},kT s ps=some (v,a)→∀ nm jH A,(nm,jH,A)∈a→∃ B,look (eF ps v) nm=some B
 |[],v,a,h,nm,jH,A,hm=>by simp only [kT,Option.some.injEq,Prod.mk.injEq] at h;obtain⟨_,rfl⟩:=h;cases hm
 |(p,sp) :: r,v,a,h,nm,jH,A,hm=>by
  simp only [kT] at h;split at h
  ·rename_i x a1 h1
   split at h
   ·rename_i xs b h2
    simp only [Option.some.injEq,Prod.mk.injEq] at h;obtain⟨rfl,rfl⟩:=h;have key:(∃ B,look (eF r xs) nm=some B)→∃ B,look (eF ((p,sp) :: r) (x,xs)) nm=some B:=fun⟨B,hB⟩=>by
     simp only [eF];split
     ·rw [aw];split
      ·exact⟨_,rfl⟩
      ·exact⟨B,hB⟩
     ·exact⟨B,hB⟩
    rcases List.mem_append.1 hm with hm | hm
    ·have hs:nm=p.key∧sp.arr x=some A:=by
      cases sp with
      |any=>simp only [yJ,Option.some.injEq,Prod.mk.injEq] at h1;obtain⟨_,rfl⟩:=h1;cases hm
      |d t=>simp only [yJ] at h1;split at h1<;>simp at h1;obtain⟨_,rfl⟩:=h1;cases hm
      |lit l=>
       simp only [yJ] at h1;split at h1
       ·rename_i l' _;cases he:uW l l'<;>simp [he] at h1;subst h1;cases hm
       ·cases h1
      |h m t=>
       simp only [yJ] at h1;split at h1
       ·cases hw:m.PB with
        |false=>simp [hw] at h1
        |true=>simp only [hw,cond_true,Option.some.injEq,Prod.mk.injEq] at h1;obtain⟨rfl,rfl⟩:=h1;simp only [List.mem_singleton,Prod.mk.injEq] at hm;obtain⟨rfl,_,rfl⟩:=hm;exact⟨rfl,rfl⟩
       ·split at h1
        ·rename_i A' _
         cases hs:(A'.sh || !m.kX A'.md) with
         |true=>simp [hs] at h1
         |false=>
          simp only [hs,cond_false] at h1;split at h1
          ·simp only [Option.some.injEq,Prod.mk.injEq] at h1
           obtain⟨rfl,rfl⟩:=h1;simp only [List.mem_singleton,Prod.mk.injEq] at hm;obtain⟨rfl,_,rfl⟩:=hm;exact⟨rfl,rfl⟩
          ·cases h1
        ·cases h1
       ·cases h1
     obtain⟨rfl,e⟩:=hs;exact⟨A,by simp [eF,e,aw]⟩
    ·exact key (wx h2 nm jH A hm)
   ·cases h
  ·cases h
theorem PO{L:pN}{c:PV L.cs}{v:PV L.vs}{nm:Nat}(h:(∃ B,look (eF L.cs c) nm=some B)∨∃ B,look (eF L.vs v) nm=some B):∃ B,(L.st c v).arr nm=some B:=by
 have e:(L.st c v).arr nm=(match look (eF L.vs v) nm with | some v=>some v | none=>look (eF L.cs c) nm):=rfl
 rw [e];cases hv:look (eF L.vs v) nm with
 |some B=>exact⟨B,rfl⟩
 |none=>
  rcases h with h |⟨B,h⟩
  ·exact h
  ·rw [hv] at h;cases h
theorem xK{s:St}{al:AL}:∀{ps:kI} {v:PV ps} {i:Nat} {tv:ae},rR s al ps v→look (lr ps v) i=some tv→∀ X G w u,aB X s G w→aT G (s.tB i) u→aT (G.tC al) tv u
 |[],v,i,tv,_,h=>by cases h
 |(.r j,sp) :: r,v,i,tv,hs,h=>by
  simp only [lr] at h;rw [aw] at h;by_cases e:j=i
  ·simp only [e,if_true,Option.some.injEq] at h
   subst h;subst e;exact hs.1.Ew
  ·simp only [e,if_false] at h;exact xK hs.2 h
 |(.l o j,sp) :: r,v,i,tv,hs,h=>xK (ps:=r) hs.2 h
 |(.q _ _,sp) :: r,v,i,tv,hs,h=>xK (ps:=r) hs.2 h
theorem Dw{s:St}{al:AL}:∀{ps:kI} {v:PV ps} {o j:Nat} {lf:af},rR s al ps v→dV (Hd ps v) o j=some lf→∀ X G w u,aB X s G w→aT G (s.at (.q o j)) u→aX (G.tC al) lf u
 |[],v,o,j,lf,_,h=>by cases h
 |(.r _,sp) :: r,v,o,j,lf,hs,h=>Dw (ps:=r) hs.2 h
 |(.l _ _,sp) :: r,v,o,j,lf,hs,h=>Dw (ps:=r) hs.2 h
 |(.q o' j',sp) :: r,v,o,j,lf,hs,h=>by
  simp only [Hd,dV] at h;cases hb:(Nat.beq o' o && Nat.beq j' j) with
  |true=>simp only [hb,cond_true,Option.some.injEq] at h;simp only [Bool.and_eq_true] at hb;have e1:=Nat.eq_of_beq_eq_true hb.1;have e2:=Nat.eq_of_beq_eq_true hb.2;subst h;subst e1;subst e2;exact fun X G w u hm hu=>hs.1.Ew X G w u hm hu
  |false=>simp only [hb,cond_false] at h;exact Dw hs.2 h
theorem XR{X:mo}{st:St}{G:Gh}{w:World}{v:ae}{ls:List af}{u:Value}(hm:aB X st G w)(h:v.qls=some ls)(hu:aT G v u):∃ cs:List Value,u = .agg cs.toArray∧All2 (aX G) ls cs:=by
 unfold ae.qls at h;cases hi:v.isAgg with
 |false=>rw [hi] at h;cases h
 |true=>rw [hi,cond_true] at h;have h1:=mm hm h hu;obtain⟨cs,e⟩:=CF hi hu;subst e;exact⟨cs.toList,by simp,h1⟩
theorem Ut{s:St}{al:AL}{ps:kI}{v:PV ps}(hs:rR s al ps v){i:Nat}{X:mo}{G:Gh}{w:World}(hm:aB X s G w){sl:List af}(hq:(s.tB i).qls=some sl):∀(n j:Nat) (l:List af) (cs:List Value),l.length=n→(∀ k,sl[j + k]? = l[k]?)→All2 (aX G) l cs→All2 (aX (G.tC al)) (qsh (Hd ps v) i j n) cs
 |0,j,[],[],_,_,_=>trivial
 |n + 1,j,a :: l,c :: cs,hl,hi,ha=>by
  refine⟨?_,Ut hs hm hq n (j + 1) l cs (by simpa using hl) (fun k=>by have:=hi (k + 1);rw [show j + (k + 1)=j + 1 + k by omega] at this;simpa using this) ha.2⟩
  cases hc:dV (Hd ps v) i j with
  |none=>trivial
  |some lf=>
   refine Dw hs hc X G w c hm ?_;have h0:sl[j]? = some a:=by simpa using hi 0
   simp only [St.at,hq,h0];exact ha.1
 |0,j,[],_ :: _,_,_,ha=>ha.elim
 |n + 1,j,_ :: _,[],_,_,ha=>ha.elim
theorem V2{s:St}{al:AL}{ps:kI}{v:PV ps}(hs:rR s al ps v)(hq:qOk ps s=true){i:Nat}{tv:ae}(h:look (Qm ps v) i=some tv):∀ X G w u,aB X s G w→aT G (s.tB i) u→aT (G.tC al) tv u:=by
 intro X G w u hm hu;obtain⟨n,hin,rfl⟩:∃ n,(i,n)∈Vx ps ps∧tv = .agg (qsh (Hd ps v) i 0 n):=by unfold Qm at h;have gT:=dT h;obtain⟨⟨k,n⟩,h1,h2⟩:=List.mem_map.1 gT;simp only [Prod.mk.injEq] at h2;obtain⟨rfl,rfl⟩:=h2;exact⟨n,h1,rfl⟩
 have h2:=List.all_eq_true.1 hq _ hin;split at h2
 ·rename_i ls Mj
  obtain⟨cs,e1,e2⟩:=XR hm Mj hu;exact⟨cs,e1,Ut hs hm Mj n 0 ls cs (Nat.eq_of_beq_eq_true h2) (fun k=>by rw [Nat.zero_add]) e2⟩
 ·cases h2
theorem tc{s:St}{al:AL}:∀{ps:kI} {v:PV ps} {o j:Nat} {lf:af},rR s al ps v→dV (bY ps v) o j=some lf→∀ X G w u,aB X s G w→aT G (s.at (.l o j)) u→aX (G.tC al) lf u
 |[],v,o,j,lf,_,h=>by cases h
 |(.r _,sp) :: r,v,o,j,lf,hs,h=>tc (ps:=r) hs.2 h
 |(.q _ _,sp) :: r,v,o,j,lf,hs,h=>tc (ps:=r) hs.2 h
 |(.l o' j',sp) :: r,v,o,j,lf,hs,h=>by
  simp only [bY,dV] at h;cases hb:(Nat.beq o' o && Nat.beq j' j) with
  |true=>simp only [hb,cond_true,Option.some.injEq] at h;simp only [Bool.and_eq_true] at hb;have e1:=Nat.eq_of_beq_eq_true hb.1;have e2:=Nat.eq_of_beq_eq_true hb.2;subst h;subst e1;subst e2;exact fun X G w u hm hu=>hs.1.Ew X G w u hm hu
  |false=>simp only [hb,cond_false] at h;exact tc hs.2 h
theorem wv{cl vl:List (Nat×Nat×af)}:∀{b9:List (Nat×Nat)} {o:Nat} {tl:List af},look (b9.map fun p=>(p.1,oZ cl vl p.1 0 p.2)) o=some tl→∃ len,(o,len)∈b9∧tl=oZ cl vl o 0 len
 |[],o,tl,h=>by cases h
 |(q,len) :: r,o,tl,h=>by
  simp only [List.map_cons,aw] at h;by_cases e:q=o
  ·simp only [e,if_true,Option.some.injEq] at h
   subst h;subst e;exact⟨len,by simp,rfl⟩
  ·simp only [e,if_false] at h
   obtain⟨len,h1,h2⟩:=wv h;exact⟨len,List.mem_cons_of_mem _ h1,h2⟩
theorem ux{α β:Type}{f:Nat×α→β}:∀{l:List (Nat×α)} {o:Nat},o∈l.map (·.1)→∃ b,look (l.map fun p=>(p.1,f p)) o=some b
 |[],o,h=>by cases h
 |p :: r,o,h=>by
  simp only [List.map_cons,aw];by_cases e:p.1=o
  ·simp [e]
  ·simp only [e,if_false]
   rcases List.mem_cons.1 h with h | h
   ·exact absurd h.symm e
   ·exact ux h
theorem Ob{s:St}{al:AL}{L:pN}{c:PV L.cs}{v:PV L.vs}(hc:rR s al L.cs c)(hv:rR s al L.vs v){o:Nat}{sl:List af}(ho:s.dJ o=some sl):∀(k j:Nat) (l:List af),l.length=k→(∀ i,sl[j + i]? = l[i]?)→
  All2 (fun a b=>∀ X G w u,aB X s G w→aX G a u→aX (G.tC al) b u) (s.jO o j l) ((L.st c v).jO o j (oZ (bY L.cs c) (bY L.vs v) o j k))
 |0,j,[],_,_=>trivial
 |k + 1,j,a :: l,hl,hi=>by
  refine⟨fun X G w u hm hu=>?_,Ob hc hv ho k (j + 1) l (by simpa using hl) (fun i=>by have:=hi (i + 1);rw [show j + (i + 1)=j + 1 + i by omega] at this;simpa using this)⟩
  have ub:s.at (.l o j) = .one (s.res o j a):=by
   have h0:sl[j]? = some a:=by simpa using hi 0
   simp [St.at,ho,h0]
  have hu':aT G (s.at (.l o j)) u:=by rw [ub];exact hu
  cases l7:dV (bY L.cs c) o j with
  |some lf=>simp only [l7,St.res];have:(L.st c v).cz=bY L.cs c:=rfl;rw [this,l7];exact tc hc l7 X G w u hm hu'
  |none=>
   simp only [l7];cases hvl:dV (bY L.vs v) o j with
   |none=>exact trivial
   |some lf=>
    simp only;have h1:=tc hv hvl X G w u hm hu';cases lf with
    |t6=>simp only [St.res];have:(L.st c v).cz=bY L.cs c:=rfl;rw [this,l7];trivial
    |_=>exact h1
theorem xM{cl vl:List (Nat×Nat×af)}{o:Nat}:∀{k i j:Nat} {lf:af},j < k→dV cl o (i + j)=some lf→(oZ cl vl o i k)[j]? = some .t6
 |k + 1,i,0,lf,_,h=>by simp only [oZ];rw [Nat.add_zero] at h;simp [h]
 |k + 1,i,j + 1,lf,hj,h=>by simp only [oZ,List.getElem?_cons_succ];exact xM (by omega) (by rw [show i + 1 + j=i + (j + 1) by omega];exact h)
theorem Rp{s:St}{al:AL}{L:pN}{c:PV L.cs}{v:PV L.vs}(hc:rR s al L.cs c)(hv:rR s al L.vs v)(hg:Km s al)(El:yU al=true)(ho:(L.b9.all fun p=>match s.dJ p.1 with | some ls=>Nat.beq ls.length p.2 | none=>false)=true)(hn:L.n=s.n)(hq:qOk L.vs s=true):II s (L.st c v) al:=by
 simp only [yU,Bool.and_eq_true] at El;refine {n:=hn,vr:=rfl,arr:=fun nm A h=>?_,jH:=fun nm a A h=>?_,nil:=fun nm A h=>?_,inj:=fun nm nm' a A A' h h'=>?_,ib:=fun i tv h=>?_,dJ:=fun o tl h=>?_}
 ·unfold St.arr at h
  split at h
  ·rename_i B hB;cases h;exact AA hv hB
  ·exact AA hc h
 ·exact hg nm (some a) A (dT h)
 ·exact hg nm none A (dT h)
 ·exact Hm (eB El.2) (dT h) (dT h')
 ·unfold St.ib at h
  split at h
  ·rename_i B hB
   cases h;have hB:look (lr L.vs v ++ Qm L.vs v) i=some tv:=hB;rw [ij] at hB;cases hr:look (lr L.vs v) i with
   |some x=>rw [hr] at hB;cases hB;exact xK hv hr
   |none=>rw [hr] at hB;exact V2 hv hq hB
  ·exact xK hc h
 ·obtain⟨len,h1,rfl⟩:=wv h
  have h2:=List.all_eq_true.1 ho _ h1;split at h2
  ·rename_i sl J9
   exact⟨sl,J9,Ob hc hv J9 len 0 sl (Nat.eq_of_beq_eq_true h2) (fun i=>by rw [Nat.zero_add])⟩
  ·cases h2
theorem Pn{s:St}{al:AL}{L:pN}{c:PV L.cs}{v:PV L.vs}(hc:rR s al L.cs c)(hv:rR s al L.vs v)(hg:Km s al)(El:yU al=true)(ho:CT L.b9 s=true)(hn:L.n=s.n)(hbl:∀ o j lf,dV s.cz o j=some lf→∃ lf',dV (bY L.cs c) o j=some lf')(hq:qOk L.vs s=true)(Mk:L.pin=s.pin)(Ht:Et L.pin al=true)
  (sb:∀ nm jH A,(nm,jH,A)∈al→∃ B,(L.st c v).arr nm=some B):aav s (L.st c v) al:=by
 simp only [CT,Bool.and_eq_true] at ho
 refine {toII:=Rp hc hv hg El ho.1 hn hq,pn:=Mk,pa:=fun a ha=>(by
  rw [←Mk] at ha;have h1:=List.all_eq_true.1 Ht a (gE.1 ha);split at h1
  ·rename_i b A hl
   obtain rfl:=Nat.eq_of_beq_eq_true h1;exact⟨⟨A,hl⟩,sb _ _ _ (dT hl)⟩
  ·cases h1),pin:=fun o sl bq h=>?_,t6:=fun o j lf sl bq hl h hj=>?_}
 ·have h2:=List.all_eq_true.1 ho.2 _ (dT h)
  simp only [Bool.or_eq_true] at h2;rcases h2 with h2 | h2
  ·have:=Nat.le_of_ble_eq_true h2;omega
  ·exact ux (f:=fun p=>oZ (bY L.cs c) (bY L.vs v) p.1 0 p.2) (gE.1 h2)
 ·have h2:=List.all_eq_true.1 ho.2 _ (dT h)
  simp only [Bool.or_eq_true] at h2;obtain⟨lf',O4⟩:=hbl o j lf hl;refine⟨⟨lf',O4⟩,?_⟩;rcases h2 with h2 | h2
  ·have:=Nat.le_of_ble_eq_true h2;omega
  ·obtain⟨tl,htl⟩:=ux (f:=fun p=>oZ (bY L.cs c) (bY L.vs v) p.1 0 p.2) (gE.1 h2)
   refine⟨tl,htl,?_⟩;obtain⟨len,h1,rfl⟩:=wv htl;have h3:=List.all_eq_true.1 ho.1 _ h1;simp only [h] at h3;have h3:sl.length=len:=Nat.eq_of_beq_eq_true h3;have hjl:j < sl.length:=(List.getElem?_eq_some_iff.1 hj).1;exact xM (by omega) (by rw [Nat.zero_add];exact O4)
end Go.Fx
namespace Go.Fx
theorem nE{X:mo}{w:World}:∀{ps:kI} {st st':St} {G:Gh},iB ps st=some st'→aB X st G w→∃ G',aB X st' G' w∧G.Ku G'∧qI st st'
 |[],st,st',G,h,hm=>by simp only [iB,Option.some.injEq] at h;subst h;exact⟨G,hm,.refl G,.refl _⟩
 |(p,sp) :: r,st,st',G,h,hm=>by
  cases sp with
  |d t=>
   simp only [iB] at h;split at h
   ·rename_i s1 h1
    obtain⟨G1,m1,a1,k1⟩:=DA h1 hm;obtain⟨G2,m2,a2,k2⟩:=nE h m1;exact⟨G2,m2,a1.trans a2,k1.trans k2⟩
   ·cases h
  |_=>exact nE (ps:=r) h hm
theorem nP:∀{ps:kI} {st st':St},iB ps st=some st'→j0 st st'
 |[],st,st',h=>by simp only [iB,Option.some.injEq] at h;subst h;exact .refl _
 |(p,sp) :: r,st,st',h=>by
  cases sp with
  |d t=>
   simp only [iB] at h;split at h
   ·rename_i s1 h1;exact(I6 h1).trans (nP h)
   ·cases h
  |_=>exact nP (ps:=r) h
theorem zS{G G':Gh}{st st':St}(k:qI st st')(h:G.Ku G'){act:Act}(r:bI G st act):bI G' st' act:=r.sub h k.n k.ib
theorem OR:∀{l m:List Nat},U3 l m=true→l=m
 |[],[],_=>rfl
 |x :: r,y :: s,h=>by simp only [U3,Bool.and_eq_true] at h;rw [Nat.eq_of_beq_eq_true h.1,OR h.2]
 |[],_ :: _,h=>by cases h
 |_ :: _,[],h=>by cases h
theorem Wm{L:pN}{st s:St}{c:PV L.cs}{v:PV L.vs}(h:ent L st=some (c,v,s))(hbl:∀ o j lf,dV s.cz o j=some lf→∃ lf',dV (bY L.cs c) o j=some lf'){X:mo}{G:Gh}{w:World}{act:Act}(hm:aB X st G w)(hr:bI G st act):
  ∃ G',aB X (L.st c v) G' w∧bI G' (L.st c v) act:=by
 unfold ent at h;split at h
 ·cases h
 ·rename_i s1 h1
  split at h
  ·cases h
  ·rename_i s2 h2
   split at h
   ·cases h
   ·rename_i c' a hc
    split at h
    ·cases h
    ·rename_i v' b hv
     cases hk:(Nat.beq L.n s2.n && yU (a ++ b) && CT L.b9 s2 && qOk L.vs s2 && (U3 L.pin s2.pin && Et L.pin (a ++ b))) with
     |false=>simp [hk] at h
     |true=>
      simp only [hk,cond_true,Option.some.injEq,Prod.mk.injEq] at h;obtain⟨rfl,rfl,rfl⟩:=h;simp only [Bool.and_eq_true] at hk;obtain⟨⟨⟨⟨k1,k2⟩,k3⟩,k4⟩,k5,k6⟩:=hk;obtain⟨G1,m1,a1,q1⟩:=nE h1 hm;obtain⟨G2,m2,a2,q2⟩:=nE h2 m1;have hn:((a ++ b).map (·.1)).Nodup:=by have:=k2;simp only [yU,Bool.and_eq_true] at this;exact eB this.1
      have N:=Pn (L:=L) (uj hn hc (fun e he=>List.mem_append_left _ he)) (uj hn hv (fun e he=>List.mem_append_right _ he))
       (fun nm jH A gT=>by
        rcases List.mem_append.1 gT with gT | gT
        ·exact oY hc nm jH A gT
        ·exact oY hv nm jH A gT) k2 k3 (Nat.eq_of_beq_eq_true k1) hbl k4 (OR k5) k6
       (fun nm jH A gT=>PO ((List.mem_append.1 gT).imp (wx hc nm jH A) (wx hv nm jH A)))
      exact⟨_,N.ok m2,N.et m2 (zS q2 a2 (zS q1 a1 hr))⟩
def kH(full:(ps:kI)×PV ps):(ps:kI)→PV ps→Prop
 |[],_=>True
 |(.r i,sp) :: r,v=>look (lr full.1 full.2) i=some (.one (sp.bJ (Pl.r i).key v.1))∧(∀ A,sp.arr v.1=some A→look (eF full.1 full.2) (Pl.r i).key=some A)∧kH full r v.2
 |(.l o j,sp) :: r,v=>dV (bY full.1 full.2) o j=some (sp.bJ (Pl.l o j).key v.1)∧(∀ A,sp.arr v.1=some A→look (eF full.1 full.2) (Pl.l o j).key=some A)∧kH full r v.2
 |(.q i j,sp) :: r,v=>True∧(∀ A,sp.arr v.1=some A→look (eF full.1 full.2) (Pl.q i j).key=some A)∧kH full r v.2
def Nf(p:Pl×ml)(x:p.2.V)(f:(ps:kI)×PV ps):(ps:kI)×PV ps:=⟨p :: f.1,(x,f.2)⟩
theorem kH.cons{p:Pl×ml}{x:p.2.V}{full:(ps:kI)×PV ps}:∀{ps:kI} {v:PV ps},kH full ps v→p.1.key∉ps.map (fun p=>p.1.key)→kH (Nf p x full) ps v
 |[],v,_,_=>trivial
 |(.r i,sp) :: r,v,h,hn=>by
  obtain⟨h1,h2,h3⟩:=h;simp only [List.map_cons,List.mem_cons,not_or] at hn;refine⟨?_,fun A hA=>?_,kH.cons h3 hn.2⟩
  ·obtain⟨q,sq⟩:=p
   cases q with
   |r j=>
    have:j≠i:=fun e=>hn.1 (by rw [e])
    simp only [Nf,lr,aw,if_neg this];exact h1
   |l o j=>exact h1
   |q _ _=>exact h1
  ·have:=h2 A hA
   simp only [Nf,eF];split
   ·rw [aw,if_neg hn.1];exact this
   ·exact this
 |(.l o j,sp) :: r,v,h,hn=>by
  obtain⟨h1,h2,h3⟩:=h;simp only [List.map_cons,List.mem_cons,not_or] at hn;refine⟨?_,fun A hA=>?_,kH.cons h3 hn.2⟩
  ·obtain⟨q,sq⟩:=p
   cases q with
   |r i=>exact h1
   |q _ _=>exact h1
   |l o' j'=>
    have:(Nat.beq o' o && Nat.beq j' j)=false:=by
     cases hb:(Nat.beq o' o && Nat.beq j' j) with
     |false=>rfl
     |true=>simp only [Bool.and_eq_true] at hb;exact absurd (by rw [Nat.eq_of_beq_eq_true hb.1,Nat.eq_of_beq_eq_true hb.2]) hn.1
    simp only [Nf,bY,dV,this,cond_false];exact h1
  ·have:=h2 A hA
   simp only [Nf,eF];split
   ·rw [aw,if_neg hn.1];exact this
   ·exact this
 |(.q i j,sp) :: r,v,h,hn=>by
  obtain⟨h1,h2,h3⟩:=h;simp only [List.map_cons,List.mem_cons,not_or] at hn;refine⟨trivial,fun A hA=>?_,kH.cons h3 hn.2⟩;have:=h2 A hA;simp only [Nf,eF];split
  ·rw [aw,if_neg hn.1];exact this
  ·exact this
theorem zH:∀{ps:kI} {v:PV ps},(ps.map fun p=>p.1.key).Nodup→kH ⟨ps,v⟩ ps v
 |[],v,_=>trivial
 |p :: r,v,hn=>by
  rw [List.map_cons,List.nodup_cons] at hn;have ih:=kH.cons (p:=p) (x:=v.1) (zH (v:=v.2) hn.2) hn.1;obtain⟨q,sq⟩:=p;cases q with
  |r i=>
   refine⟨by simp [lr,aw],fun A hA=>?_,ih⟩
   simp only at hA;simp [eF,hA,aw]
  |l o j=>
   refine⟨by simp [bY,dV],fun A hA=>?_,ih⟩
   simp only at hA;simp [eF,hA,aw]
  |q i j=>refine⟨trivial,fun A hA=>?_,ih⟩;simp only at hA;simp [eF,hA,aw]
def sG(L:pN)(c:PV L.cs)(s:St):Prop:=L.n=s.n∧s.jd=lr L.cs c∧s.cz=bY L.cs c∧(s.fL,s.pin)=(eF L.cs c,L.pin)
theorem Rd{s:St}{al:AL}{p:Pl}{sp:ml}{x:sp.V}(ub:s.at p = .one (sp.bJ p.key x))(hl:∀ l,sp = .lit l→uW l l=true)(ha:∀ A,sp.arr x=some A→look al p.key=some (some p.key,A)):Src s al p sp x:=by
 refine⟨fun X G w u hm hu=>?_,fun A hA=>⟨_,ha A hA⟩⟩;rw [ub] at hu;cases sp with
 |any=>trivial
 |d t=>exact hu
 |lit l=>exact T9 (hl l rfl) hu
 |h m t=>have:=ha _ rfl;show u=(G.tC al).ψ p.key;simp only [Gh.tC,this];exact hu
theorem GM{s:St}{al:AL}{full:(ps:kI)×PV ps}(h1:s.jd=lr full.1 full.2)(h2:s.cz=bY full.1 full.2)(hn:(al.map (·.1)).Nodup):
  ∀{ps:kI} {v:PV ps},kH full ps v→(ps.all fun p=>GL s p.1 p.2)=true→(∀ e∈fR ps v,e∈al)→rR s al ps v
 |[],v,_,_,_=>trivial
 |(.r i,sp) :: r,v,hf,hk,hs=>by
  obtain⟨f1,f2,f3⟩:=hf;simp only [List.all_cons,Bool.and_eq_true] at hk;obtain⟨k12,k3⟩:=hk;simp only [GL,Bool.and_eq_true] at k12;obtain⟨k1,k2⟩:=k12;have hlr:look s.et i=none:=by simpa using k1
  refine⟨Rd (by simp [St.at,St.tB,St.ib,hlr,h1,f1]) (fun l e=>by subst e;exact k2) (fun A hA=>?_),GM h1 h2 hn f3 (by simpa using k3) (fun e he=>hs e ?_)⟩
  ·exact kS hn (hs _ (by simp [fR,hA]))
  ·simp only [fR];split<;>simp [he]
 |(.l o j,sp) :: r,v,hf,hk,hs=>by
  obtain⟨f1,f2,f3⟩:=hf;simp only [List.all_cons,Bool.and_eq_true] at hk;obtain⟨k12,k3⟩:=hk;simp only [GL,Bool.and_eq_true] at k12;obtain⟨k1,k2⟩:=k12;refine⟨Rd ?_ (fun l e=>by subst e;exact k2) (fun A hA=>?_),GM h1 h2 hn f3 (by simpa using k3) (fun e he=>hs e ?_)⟩
  ·split at k1
   ·rename_i ls ho
    split at k1
    ·rename_i hj
     simp [St.at,ho,hj,St.res,h2,f1]
    ·cases k1
   ·cases k1
  ·exact kS hn (hs _ (by simp [fR,hA]))
  ·simp only [fR];split<;>simp [he]
 |(.q i j,sp) :: r,v,hf,hk,hs=>by simp only [List.all_cons,Bool.and_eq_true,GL] at hk;cases hk.1
theorem zA{sp:ml}{x:sp.V}{A:jB}(h:sp.arr x=some A):A.sh=false∧∃ m t,sp = .h m t:=by cases sp<;>simp [ml.arr] at h;subst h;exact⟨rfl,_,_,rfl⟩
theorem zQ{s:St}{full:(ps:kI)×PV ps}(h3:s.fL=eF full.1 full.2):
  ∀{ps:kI} {v:PV ps},kH full ps v→(ps.all fun p=>GL s p.1 p.2)=true→Km s (fR ps v)
 |[],v,_,_=>by intro _ _ _ h;cases h
 |(p,sp) :: r,v,hf,hk=>by
  simp only [List.all_cons,Bool.and_eq_true] at hk;obtain⟨k1,k3⟩:=hk;have f2:∀ A,sp.arr v.1=some A→look (eF full.1 full.2) p.key=some A:=by cases p<;>exact hf.2.1
  have f3:kH full r v.2:=by cases p<;>exact hf.2.2
  intro nm jH A hm;simp only [fR] at hm;split at hm
  ·rename_i B hB
   rcases List.mem_cons.1 hm with hm | hm
   ·simp only [Prod.mk.injEq] at hm
    obtain⟨rfl,rfl,rfl⟩:=hm;obtain⟨e1,m,t,e2⟩:=zA hB;refine⟨e1,?_⟩;have vg:look s.cI p.key=none:=by subst e2;cases p<;>first |(simp only [GL,Bool.and_eq_true] at k1;simpa using k1.2) |(simp only [GL] at k1;cases k1)
    simp [St.arr,vg,h3,f2 _ hB]
   ·exact zQ h3 f3 (by simpa using k3) nm jH A hm
  ·exact zQ h3 f3 (by simpa using k3) nm jH A hm
theorem sG.iH{L:pN}{c:PV L.cs}{s s':St}(h:sG L c s)(b:j0 s s'):sG L c s':=⟨h.1.trans b.1.symm,b.2.1.trans h.2.1,b.2.2.1.trans h.2.2.1,b.2.2.2.trans h.2.2.2⟩
theorem AO:∀{cs:kI} {c:PV cs} (nm:Nat) (jH:Option Nat) (A:jB),(nm,jH,A)∈fR cs c→∃ B,look (eF cs c) nm=some B
 |[],_,nm,jH,A,h=>by cases h
 |(p,s) :: r,c,nm,jH,A,h=>by
  simp only [fR] at h;simp only [eF];split
  ·rename_i B hB
   rw [hB] at h;rw [aw];by_cases e:p.key=nm
   ·exact⟨B,by rw [if_pos e]⟩
   ·rw [if_neg e]
    rcases List.mem_cons.1 h with h | h
    ·cases h;exact absurd rfl e
    ·exact AO nm jH A h
  ·rename_i hB
   rw [hB] at h;exact AO nm jH A h
theorem Te{L:pN}{c:PV L.cs}{s:St}{v:PV L.vs}(hb:sG L c s)(h:rnd L (fR L.cs c) s=some v){X:mo}{G:Gh}{w:World}{act:Act}(hm:aB X s G w)(hr:bI G s act):
  ∃ G',aB X (L.st c v) G' w∧bI G' (L.st c v) act:=by
 unfold rnd at h;split at h
 ·cases h
 ·rename_i s1 h1
  split at h
  ·cases h
  ·rename_i v' b hv
   cases hk:(uv s1 L.cs && yU (fR L.cs c ++ b) && CT L.b9 s1 && qOk L.vs s1 && Et L.pin (fR L.cs c ++ b)) with
   |false=>simp [hk] at h
   |true=>
    simp only [hk,cond_true,Option.some.injEq] at h;subst h;simp only [Bool.and_eq_true,uv] at hk;obtain⟨⟨⟨⟨⟨k0,k1⟩,k2⟩,k3⟩,k4⟩,k6⟩:=hk;have BZ:=hb.iH (nP h1);obtain⟨G1,m1,a1,q1⟩:=nE h1 hm;have hn:((fR L.cs c ++ b).map (·.1)).Nodup:=by have:=k2;simp only [yU,Bool.and_eq_true] at this;exact eB this.1
    have hf:=zH (v:=c) (eB k0);have N:=Pn (L:=L) (GM (full:=⟨L.cs,c⟩) BZ.2.1 BZ.2.2.1 hn hf k1 (fun e he=>List.mem_append_left _ he)) (uj hn hv (fun e he=>List.mem_append_right _ he))
     (fun nm jH A gT=>by
      rcases List.mem_append.1 gT with gT | gT
      ·exact zQ (full:=⟨L.cs,c⟩) (Prod.mk.inj BZ.2.2.2).1 hf k1 nm jH A gT
      ·exact oY hv nm jH A gT) k2 k3 BZ.1 (fun o j lf hl=>⟨lf,by rw [←BZ.2.2.1];exact hl⟩) k4 (Prod.mk.inj BZ.2.2.2).2.symm k6
     (fun nm jH A gT=>PO ((List.mem_append.1 gT).imp (AO nm jH A) (wx hv nm jH A)))
    exact⟨_,N.ok m1,N.et m1 (zS q1 a1 hr)⟩
end Go.Fx
namespace Go.Fx
def p8(st:St)(k:Nat):ml→ae→Bool
 |.d _,.one (.eX _ _)=>true
 |.h _ _,.one (.mq a)=>Nat.beq a k && (look st.cI k).isNone
 |.lit l,.one l'=>uW l l'
 |.any,.one .any=>true
 |_,_=>false
def M8(st:St):Pl→ml→Bool
 |.r i,s=>(match look st.jd i with | none=>true | some tv=>(look st.et i).isNone && p8 st (Pl.r i).key s tv)
 |.q _ _,_=>true
 |.l o j,s=>(match dV st.cz o j with | none=>true | some lf=>(match st.dJ o with | some ls=>(match ls[j]? with | some .t6=>true | _=>false) | none=>false) && p8 st (Pl.l o j).key s (.one lf))
def Wz(i:Nat):kI→Bool
 |[]=>false
 |(.r j,_) :: r=>Nat.beq j i || Wz i r
 |_ :: r=>Wz i r
def yd(o j:Nat):kI→Bool
 |[]=>false
 |(.l o' j',_) :: r=>(Nat.beq o' o && Nat.beq j' j) || yd o j r
 |_ :: r=>yd o j r
def Wy(st:St)(nm:Nat):kI→Bool
 |[]=>false
 |(p,.h _ _) :: r=>(Nat.beq p.key nm && (match p with | .r i=>(look st.jd i).isSome | .l o j=>(dV st.cz o j).isSome | .q _ _=>false)) || Wy st nm r
 |_ :: r=>Wy st nm r
def Ky(cs:kI)(st:St):Bool:=
 nN (cs.map fun p=>p.1.key) && cs.all (fun p=>M8 st p.1 p.2) && st.jd.all (fun p=>Wz p.1 cs) && st.cz.all (fun p=>yd p.1 p.2.1 cs) && st.fL.all (fun p=>Wy st p.1 cs)
def Gt(cl bl:List (Nat×Nat×af))(o:Nat):Nat→List af→List af
 |_,[]=>[]
 |j,l :: r=>(match l with | .t6=>(match dV bl o j with | some _=>.t6 | none=>match dV cl o j with | some l=>l | none=>.any) | l=>l) :: Gt cl bl o (j + 1) r
def aft(L:pN)(c:PV L.cs)(v:PV L.vs)(st:St):St:=
 ⟨L.n,lr L.vs v ++ (Qm L.vs v ++ (lr L.cs c).filter (fun p=>(look st.jd p.1).isNone)),(L.st c v).b9.map (fun p=>(p.1,Gt (bY L.cs c) st.cz p.1 0 p.2)),
  eF L.vs v ++ (eF L.cs c).filter (fun p=>(look st.fL p.1).isNone),st.jd,st.cz,st.fL,st.pin,[]⟩
theorem yH{α:Type}(f:Nat→Bool):∀(l:List (Nat×α)) (k:Nat),look (l.filter fun p=>f p.1) k=if f k=true then look l k else none
 |[],k=>by simp [look]
 |(k',v) :: r,k=>by
  have ih:=yH f r k;by_cases hf:f k' = true
  ·simp only [List.filter_cons,hf,if_true,aw]
   by_cases e:k' = k
   ·subst e;simp [hf]
   ·simp only [e,if_false];exact ih
  ·simp only [List.filter_cons,hf,aw]
   by_cases e:k' = k
   ·subst e;simp only [Bool.false_eq_true,if_false];rw [ih];simp [hf]
   ·simp only [e,if_false,Bool.false_eq_true];exact ih
structure Qa(st:St)(L:pN)(c:PV L.cs):Prop where
 ib:∀ i tv,look st.jd i=some tv→look (lr L.cs c) i=some tv
 bJ:∀ o j lf,dV st.cz o j=some lf→dV (bY L.cs c) o j=some lf
 arr:∀ nm A,look st.fL nm=some A→look (eF L.cs c) nm=some A
theorem NS{s:St}{p:Pl}{sp:ml}{x:sp.V}{a:AL}{tv:ae}(h:yJ s p sp=some (x,a))(ub:s.at p=tv)(hk:p8 s p.key sp tv=true):tv = .one (sp.bJ p.key x):=by
 cases sp with
 |any=>
  cases tv with
  |one l=>cases l with
   |any=>rfl
   |_=>simp [p8] at hk
  |_=>simp [p8] at hk
 |d t=>
  cases tv with
  |one l=>
   cases l with
   |eX t' y=>
    simp only [yJ,ub,ae.vE,af.vE] at h;cases hc:uJ t' t y with
    |none=>simp [hc] at h
    |some z=>simp only [hc,Option.some.injEq,Prod.mk.injEq] at h;obtain⟨rfl,_⟩:=h;obtain⟨rfl,rfl⟩:=lk hc;rfl
   |_=>simp [p8] at hk
  |_=>simp [p8] at hk
 |lit l=>
  cases tv with
  |one l'=>simp only [p8] at hk;rw [Lt hk];rfl
  |_=>simp [p8] at hk
 |h m t=>
  cases tv with
  |one l=>
   cases l with
   |mq b=>simp only [p8,Bool.and_eq_true] at hk;rw [Nat.eq_of_beq_eq_true hk.1];rfl
   |_=>simp [p8] at hk
  |_=>simp [p8] at hk
theorem S2{s:St}{p:Pl}{m:Md}{t:Ty}{x:(ml.h m t).V}{a:AL}{tv:ae}(h:yJ s p (.h m t)=some (x,a))(ub:s.at p=tv)(hk:p8 s p.key (.h m t) tv=true){A:jB}(hA:look s.fL p.key=some A):A=⟨t,m,false,x⟩:=by
 cases tv with
 |one l=>
  cases l with
  |mq b=>
   simp only [p8,Bool.and_eq_true] at hk;have e:=Nat.eq_of_beq_eq_true hk.1;subst e;have vg:look s.cI p.key=none:=by simpa using hk.2
   simp only [yJ,ub,St.arr,vg,hA] at h;cases hs:(A.sh || !m.kX A.md) with
   |true=>simp [hs] at h
   |false=>
    simp only [hs,cond_false] at h;simp only [Bool.or_eq_false_iff,Bool.not_eq_false'] at hs;have uc:=Md.vV hs.2;split at h
    ·rename_i y hy
     simp only [Option.some.injEq,Prod.mk.injEq] at h;obtain⟨rfl,_⟩:=h;obtain⟨ec,el⟩:=lk hy;obtain⟨t',dp,sh,ll⟩:=A;simp only [Ty.slice.injEq] at ec;subst ec;simp only at el hs uc;obtain⟨rfl,_⟩:=hs;subst el uc;rfl
    ·cases h
  |_=>simp [p8] at hk
 |_=>simp [p8] at hk
theorem TJ{s:St}{full:(ps:kI)×PV ps}:∀{ps:kI} {v:PV ps} {a:AL},kT s ps=some (v,a)→kH full ps v→(ps.all fun p=>M8 s p.1 p.2)=true→
  (∀ i tv,Wz i ps=true→look s.jd i=some tv→look (lr full.1 full.2) i=some tv)∧
  (∀ o j lf,yd o j ps=true→dV s.cz o j=some lf→dV (bY full.1 full.2) o j=some lf)∧
  (∀ nm A,Wy s nm ps=true→look s.fL nm=some A→look (eF full.1 full.2) nm=some A)
 |[],v,a,_,_,_=>⟨(fun _ _ h _=>(by cases h)),(fun _ _ _ h _=>(by cases h)),(fun _ _ h _=>(by cases h))⟩
 |(p,sp) :: r,v,a,h,hf,hb=>by
  simp only [kT] at h;split at h
  ·rename_i x a1 h1
   split at h
   ·rename_i xs b h2
    simp only [Option.some.injEq,Prod.mk.injEq] at h;obtain⟨rfl,rfl⟩:=h;simp only [List.all_cons,Bool.and_eq_true] at hb;obtain⟨b1,b2⟩:=hb;have f3:kH full r xs:=by cases p<;>exact hf.2.2
    have f2:∀ A,sp.arr x=some A→look (eF full.1 full.2) p.key=some A:=by cases p<;>exact hf.2.1
    obtain⟨g1,g2,g3⟩:=TJ h2 f3 b2;refine⟨fun i tv hh hl=>?_,fun o j lf hh hl=>?_,fun nm A hh hl=>?_⟩
    ·cases p with
     |l o j=>exact g1 i tv hh hl
     |q _ _=>exact g1 i tv hh hl
     |r k=>
      simp only [Wz,Bool.or_eq_true] at hh;rcases hh with hh | hh
      ·obtain rfl:=Nat.eq_of_beq_eq_true hh
       simp only [M8,hl,Bool.and_eq_true] at b1;have vg:look s.et k=none:=by simpa using b1.1
       have:=NS h1 (tv:=tv) (by simp [St.at,St.tB,St.ib,vg,hl]) b1.2
       rw [this];exact hf.1
      ·exact g1 i tv hh hl
    ·cases p with
     |r k=>exact g2 o j lf hh hl
     |q _ _=>exact g2 o j lf hh hl
     |l o' j'=>
      simp only [yd,Bool.or_eq_true] at hh;rcases hh with hh | hh
      ·simp only [Bool.and_eq_true] at hh
       obtain rfl:=Nat.eq_of_beq_eq_true hh.1;obtain rfl:=Nat.eq_of_beq_eq_true hh.2;simp only [M8,hl,Bool.and_eq_true] at b1;obtain⟨b3,b4⟩:=b1;have ub:s.at (.l o' j') = .one lf:=by
        split at b3
        ·rename_i ls ho
         split at b3
         ·rename_i hj;simp [St.at,ho,hj,St.res,hl]
         ·cases b3
        ·cases b3
       have:=NS h1 (tv:=.one lf) ub b4;simp only [ae.one.injEq] at this;rw [this];exact hf.1
      ·exact g2 o j lf hh hl
    ·cases sp with
     |h m t=>
      simp only [Wy,Bool.or_eq_true,Bool.and_eq_true] at hh;rcases hh with ⟨hk,hh⟩ | hh
      ·obtain rfl:=Nat.eq_of_beq_eq_true hk
       rw [f2 _ rfl];have key:∀ tv,s.at p=tv→p8 s p.key (.h m t) tv=true→some (⟨t,m,false,x⟩:jB)=some A:=fun tv ub hk=>by rw [S2 h1 ub hk hl]
       cases p with
       |q _ _=>cases hh
       |r k=>
        obtain⟨tv,htv⟩:=Option.isSome_iff_exists.1 hh;simp only [M8,htv,Bool.and_eq_true] at b1;have vg:look s.et k=none:=by simpa using b1.1
        exact key tv (by simp [St.at,St.tB,St.ib,vg,htv]) b1.2
       |l o j=>
        obtain⟨lf,O4⟩:=Option.isSome_iff_exists.1 hh;simp only [M8,O4,Bool.and_eq_true] at b1;obtain⟨b3,b4⟩:=b1;refine key (.one lf) ?_ b4;split at b3
        ·rename_i ls ho
         split at b3
         ·rename_i hj;simp [St.at,ho,hj,St.res,O4]
         ·cases b3
        ·cases b3
      ·exact g3 nm A hh hl
     |_=>exact g3 nm A hh hl
   ·cases h
  ·cases h
theorem TK{s:St}{L:pN}{c:PV L.cs}{a:AL}(h:kT s L.cs=some (c,a))(hb:Ky L.cs s=true):Qa s L c:=by simp only [Ky,Bool.and_eq_true] at hb;obtain⟨⟨⟨⟨h1,h2⟩,h3⟩,h4⟩,h5⟩:=hb;obtain⟨g1,g2,g3⟩:=TJ (full:=⟨L.cs,c⟩) h (zH (eB h1)) h2;exact⟨fun i tv hl=>g1 i tv (List.all_eq_true.1 h3 _ (dT hl)) hl,fun o j lf hl=>g2 o j lf (List.all_eq_true.1 h4 _ (Io hl)) hl,fun nm A hl=>g3 nm A (List.all_eq_true.1 h5 _ (dT hl)) hl⟩
theorem Qa.iH{s st:St}{L:pN}{c:PV L.cs}(h:Qa s L c)(b:j0 st s):Qa st L c:=
 ⟨fun i tv hl=>h.ib i tv (by rw [b.2.1];exact hl),fun o j lf hl=>h.bJ o j lf (by rw [b.2.2.1];exact hl),fun nm A hl=>h.arr nm A (by rw [(Prod.mk.inj b.2.2.2).1];exact hl)⟩
theorem Nq{L:pN}{c:PV L.cs}{v:PV L.vs}{st:St}(hs:Qa st L c){o:Nat}:∀(ls:List af) (j:Nat),
  All2 (fun a b=>∀ G u,aX G a u→aX G b u) ((L.st c v).jO o j ls) ((aft L c v st).jO o j (Gt (bY L.cs c) st.cz o j ls))
 |[],j=>trivial
 |l :: r,j=>by
  refine⟨fun G u hu=>?_,Nq hs r (j + 1)⟩;have BZ:(L.st c v).cz=bY L.cs c:=rfl;have Nx:(aft L c v st).cz=st.cz:=rfl;have nb:∀ l':af,(match l' with | .t6=>False | _=>True)→(aft L c v st).res o j l' = l':=fun l' h=>by cases l'<;>first | exact h.elim | rfl
  cases l with
  |t6=>
   simp only [St.res,BZ] at hu;simp only;cases hl:dV st.cz o j with
   |some lf=>simp only [St.res,Nx,hl];rw [hs.bJ o j lf hl] at hu;exact hu
   |none=>
    simp only;cases hc:dV (bY L.cs c) o j with
    |none=>trivial
    |some lf=>
     rw [hc] at hu;simp only;cases lf with
     |t6=>simp only [St.res,Nx,hl];trivial
     |_=>exact hu
  |_=>exact hu
theorem GP{f:Nat→List af→List af}:∀{l:List (Nat×List af)} {o:Nat} {tl:List af},look (l.map fun p=>(p.1,f p.1 p.2)) o=some tl→∃ sl,look l o=some sl∧tl=f o sl
 |[],o,tl,h=>by cases h
 |(q,ls) :: r,o,tl,h=>by
  simp only [List.map_cons,aw] at h;rw [aw];by_cases e:q=o
  ·simp only [e,if_true,Option.some.injEq] at h ⊢
   subst h;exact⟨ls,rfl,rfl⟩
  ·simp only [e,if_false] at h ⊢
   exact GP h
theorem y6{f:Nat→List af→List af}:∀{l:List (Nat×List af)} {o:Nat} {sl:List af},look l o=some sl→look (l.map fun p=>(p.1,f p.1 p.2)) o=some (f o sl)
 |(q,ls) :: r,o,sl,h=>by
  rw [aw] at h;simp only [List.map_cons,aw];by_cases e:q=o
  ·simp only [e,if_true,Option.some.injEq] at h ⊢;rw [h]
  ·simp only [e,if_false] at h ⊢
   exact y6 h
theorem Np{cl bl:List (Nat×Nat×af)}{o:Nat}:∀{ls:List af} {i j:Nat} {lf:af},dV bl o (i + j)=some lf→ls[j]? = some .t6→(Gt cl bl o i ls)[j]? = some .t6
 |[],i,j,lf,_,h=>by simp at h
 |l :: r,i,0,lf,hl,h=>by simp only [List.getElem?_cons_zero,Option.some.injEq] at h;subst h;rw [Nat.add_zero] at hl;simp [Gt,hl]
 |l :: r,i,j + 1,lf,hl,h=>by simp only [Gt,List.getElem?_cons_succ] at h ⊢;exact Np (by rw [show i + 1 + j=i + (j + 1) by omega];exact hl) h
theorem Ga{L:pN}{c:PV L.cs}{v:PV L.vs}{st:St}(hs:Qa st L c)(Mk:L.pin=st.pin):V1 (L.st c v) (aft L c v st):=by
 refine {pn:=Mk.symm,vr:=rfl,ap:=fun nm A _ h=>?_,n:=rfl,arr:=fun nm A h=>?_,ib:=fun i tv h G u hu=>?_,dJ:=fun o tl h=>?_,pin:=fun o sl _ h=>⟨_,y6 (f:=fun o ls=>Gt (bY L.cs c) st.cz o 0 ls) h⟩,t6:=fun o j lf sl hl h hj=>⟨_,y6 (f:=fun o ls=>Gt (bY L.cs c) st.cz o 0 ls) h,Np (by rw [Nat.zero_add];exact hl) hj⟩}
 ·have e1:(aft L c v st).arr nm=(match look (eF L.vs v ++ (eF L.cs c).filter fun p=>(look st.fL p.1).isNone) nm with | some v=>some v | none=>look st.fL nm):=rfl
  have e2:(L.st c v).arr nm=(match look (eF L.vs v) nm with | some v=>some v | none=>look (eF L.cs c) nm):=rfl
  rw [e1,ij];rw [e2] at h;cases h1:look (eF L.vs v) nm with
  |some B=>exact⟨B,rfl⟩
  |none=>
   simp only [h1] at h ⊢;rw [yH (fun k=>(look st.fL k).isNone)];cases h2:look st.fL nm with
   |none=>simp only [Option.isNone_none,if_true,h];exact⟨A,rfl⟩
   |some B=>simp only [Option.isNone_some,Bool.false_eq_true,if_false];exact⟨B,rfl⟩
 ·have e1:(aft L c v st).arr nm=(match look (eF L.vs v ++ (eF L.cs c).filter fun p=>(look st.fL p.1).isNone) nm with | some v=>some v | none=>look st.fL nm):=rfl
  have e2:(L.st c v).arr nm=(match look (eF L.vs v) nm with | some v=>some v | none=>look (eF L.cs c) nm):=rfl
  rw [e1,ij] at h;rw [e2];cases h1:look (eF L.vs v) nm with
  |some B=>simp only [h1] at h ⊢;exact h
  |none=>
   simp only [h1] at h ⊢;rw [yH (fun k=>(look st.fL k).isNone)] at h;cases h2:look st.fL nm with
   |none=>
    simp only [h2,Option.isNone_none,if_true] at h;cases h3:look (eF L.cs c) nm with
    |none=>simp [h3] at h
    |some B=>simpa [h3] using h
   |some B=>rw [h2] at h;simp only [Option.isNone_some,Bool.false_eq_true,if_false] at h;rw [hs.arr nm B h2];exact h
 ·have e1:(aft L c v st).ib i=(match look (lr L.vs v ++ (Qm L.vs v ++ (lr L.cs c).filter fun p=>(look st.jd p.1).isNone)) i with | some v=>some v | none=>look st.jd i):=rfl
  have e2:(L.st c v).ib i=(match look (lr L.vs v ++ Qm L.vs v) i with | some v=>some v | none=>look (lr L.cs c) i):=rfl
  have:(L.st c v).ib i=some tv:=by
   rw [e1,ij] at h;rw [e2,ij];cases h1:look (lr L.vs v) i with
   |some B=>simp only [h1] at h ⊢;exact h
   |none=>
    simp only [h1] at h ⊢;rw [ij] at h;cases h0:look (Qm L.vs v) i with
    |some B=>simp only [h0] at h ⊢;exact h
    |none=>
    simp only [h0] at h ⊢;rw [yH (fun k=>(look st.jd k).isNone)] at h;cases h2:look st.jd i with
    |none=>
     simp only [h2,Option.isNone_none,if_true] at h;cases h3:look (lr L.cs c) i with
     |none=>simp [h3] at h
     |some B=>simpa [h3] using h
    |some B=>rw [h2] at h;simp only [Option.isNone_some,Bool.false_eq_true,if_false] at h;rw [hs.ib i B h2];exact h
  simpa [St.tB,this] using hu
 ·obtain⟨sl,h1,rfl⟩:=GP (f:=fun o ls=>Gt (bY L.cs c) st.cz o 0 ls) h
  exact⟨sl,h1,Nq hs sl 0⟩
end Go.Fx
namespace Go.Fx
def vd:List af→Bool
 |[]=>true
 |.eX _ _ :: r=>vd r
 |_=>false
abbrev Dk(W:Type):Type 1:={R:Type}→W→((e:Exit)→(vs:kI)→PV vs→Option R)→(TypeId→List af→Option R)→Option R
def Pg(o:Nat):kI→Nat
 |[]=>0
 |(.l o' _,_) :: r=>bif Nat.beq o' o then Pg o r + 1 else Pg o r
 |_ :: r=>Pg o r
def Y7(b9:List (Nat×Nat))(full:kI):kI→List (Nat×Nat)
 |[]=>[]
 |(.l o 0,_) :: r=>bif eT o (b9.map (·.1)) then Y7 b9 full r else(o,Pg o full) :: Y7 b9 full r
 |_ :: r=>Y7 b9 full r
def pN.with(L:pN)(vs:kI):pN:=⟨L.n,L.b9 ++ Y7 L.b9 vs vs,L.cs,vs,L.pin⟩
def NW(id:Nat):Exit→Exit
 |.exit i=>bif Nat.beq i id then .normal else .exit i
 |e=>e
def wc(id:Nat)(L:pN){W:Type}(l:PV L.cs→PV L.vs→Option W)(dk:Dk W):kZ where
 run st K KP:=(match ent L st with
  |none=>none
  |some (c,v,s)=>(bif Ky L.cs s then(l c v).bind fun x=>dk x (fun e vs o=>K (NW id e) (aft (L.with vs) c o st)) (fun T ls=>KP (.y5 T ls) (aft (L.with []) c () st)) else none))
theorem HZ{L:pN}{st s:St}{c:PV L.cs}{v:PV L.vs}(h:ent L st=some (c,v,s)):j0 st s∧L.n=st.n∧L.pin=st.pin∧∃ a,kT s L.cs=some (c,a):=by
 unfold ent at h;split at h
 ·cases h
 ·rename_i s1 h1
  split at h
  ·cases h
  ·rename_i s2 h2
   split at h
   ·cases h
   ·rename_i c' a hc
    split at h
    ·cases h
    ·rename_i v' b hv
     cases hk:(Nat.beq L.n s2.n && yU (a ++ b) && CT L.b9 s2 && qOk L.vs s2 && (U3 L.pin s2.pin && Et L.pin (a ++ b))) with
     |false=>simp [hk] at h
     |true=>simp only [hk,cond_true,Option.some.injEq,Prod.mk.injEq] at h;obtain⟨rfl,rfl,rfl⟩:=h;simp only [Bool.and_eq_true] at hk;have hb:=(nP h1).trans (nP h2);exact⟨hb,(Nat.eq_of_beq_eq_true hk.1.1.1.1).trans hb.1,(OR hk.2.1).trans (Prod.mk.inj hb.2.2.2).2,a,hc⟩
theorem Ql{L:pN}{c:PV L.cs}{v:PV L.vs}{st:St}(hn:L.n=st.n):j0 st (aft L c v st):=⟨hn,rfl,rfl,rfl⟩
theorem NN(id:Nat)(L:pN){W:Type}(l:PV L.cs→PV L.vs→Option W)(dk:Dk W):zt (wc id L l dk):=by
 intro R st K K' KP KP' hK hP;simp only [wc];split
 ·rfl
 ·rename_i c v s hs
  obtain⟨_,hn,_,_⟩:=HZ hs;have e1:(fun(e:Exit) (vs:kI) (o:PV vs)=>K (NW id e) (aft (L.with vs) c o st))=(fun e vs o=>K' (NW id e) (aft (L.with vs) c o st)):=funext fun e=>funext fun vs=>funext fun o=>hK _ _ (Ql (L:=L.with _) hn)
  have e2:(fun(T:TypeId) (ls:List af)=>KP (.y5 T ls) (aft (L.with []) c () st))=(fun T ls=>KP' (.y5 T ls) (aft (L.with []) c () st)):=funext fun T=>funext fun ls=>hP _ _ (Ql (L:=L.with _) hn)
  rw [e1,e2];rfl
theorem FM{G G':Gh}(h:G.Ku G'):∀{ls:List af} {vs:List Value},All2 (aX G) ls vs→All2 (aX G') ls vs:=fun {ls vs} hr=>hr.imp fun l v h'=>h'.sub h
theorem Uu{G:Gh}{al:AL}:∀{ls:List af} {vs:List Value},vd ls=true→All2 (aX G) ls vs→All2 (aX (G.tC al)) ls vs
 |[],[],_,_=>trivial
 |.eX t d :: r,_ :: _,h,hr=>⟨hr.1,Uu (ls:=r) h hr.2⟩
 |[],_ :: _,_,hr=>hr.elim
 |_ :: _,[],_,hr=>hr.elim
theorem Uw{L:pN}{c:PV L.cs}{s:St}{v:PV L.vs}(hb:sG L c s)(h:rnd L (fR L.cs c) s=some v){X:mo}{G:Gh}{w:World}(hm:aB X s G w):
  ∃ G',aB X (L.st c v) G' w∧∀ T ls u,vd ls=true→aT G (.y5 T ls) u→aT G' (.y5 T ls) u:=by
 unfold rnd at h;split at h
 ·cases h
 ·rename_i s1 h1
  split at h
  ·cases h
  ·rename_i v' b hv
   cases hk:(uv s1 L.cs && yU (fR L.cs c ++ b) && CT L.b9 s1 && qOk L.vs s1 && Et L.pin (fR L.cs c ++ b)) with
   |false=>simp [hk] at h
   |true=>
    simp only [hk,cond_true,Option.some.injEq] at h;subst h;simp only [Bool.and_eq_true,uv] at hk;obtain⟨⟨⟨⟨⟨k0,k1⟩,k2⟩,k3⟩,k4⟩,k6⟩:=hk;have BZ:=hb.iH (nP h1);obtain⟨G1,m1,a1,q1⟩:=nE h1 hm;have hn:((fR L.cs c ++ b).map (·.1)).Nodup:=by have:=k2;simp only [yU,Bool.and_eq_true] at this;exact eB this.1
    have hf:=zH (v:=c) (eB k0);have N:=Pn (L:=L) (GM (full:=⟨L.cs,c⟩) BZ.2.1 BZ.2.2.1 hn hf k1 (fun e he=>List.mem_append_left _ he)) (uj hn hv (fun e he=>List.mem_append_right _ he))
     (fun nm jH A gT=>by
      rcases List.mem_append.1 gT with gT | gT
      ·exact zQ (full:=⟨L.cs,c⟩) (Prod.mk.inj BZ.2.2.2).1 hf k1 nm jH A gT
      ·exact oY hv nm jH A gT) k2 k3 BZ.1 (fun o j lf hl=>⟨lf,by rw [←BZ.2.2.1];exact hl⟩) k4 (Prod.mk.inj BZ.2.2.2).2.symm k6
     (fun nm jH A gT=>PO ((List.mem_append.1 gT).imp (AO nm jH A) (wx hv nm jH A)))
    exact⟨_,N.ok m1,fun T ls u hd hu=>by
     obtain⟨x,cs,e1,e2,e3⟩:=hu;exact⟨x,cs,e1,e2,Uu hd (FM a1 e3)⟩⟩
noncomputable def gd(L:pN)(c:PV L.cs)(s:St){W:Type}(x:Option W):Option W:=@ite _ (sG L c s) (Classical.propDecidable _) x none
theorem H8{L:pN}{c:PV L.cs}{s:St}{W:Type}{x:Option W}(h:sG L c s):gd L c s x=x:=by unfold gd;rw [if_pos h]
theorem Dj{L:pN}{c:PV L.cs}{s:St}{W:Type}{x:Option W}{y:W}(h:gd L c s x=some y):sG L c s∧x=some y:=by
 unfold gd at h;split at h
 ·rename_i hb;exact⟨hb,h⟩
 ·cases h
section
variable {P:Program} {E:rQ} (hE:Ee P E)
include hE
theorem Y2{id:Nat}{body:Code}{L:pN}{W:Type}{l:Nat→PV L.cs→PV L.vs→Option W}{dk:Dk W}{out:PV L.cs→Exit→St→Option W}{pout:PV L.cs→ae→St→Option W}(hb:rH P E body)
  (h0:∀ c v,l 0 c v=none)
  (h1:∀ k c v,l (k + 1) c v=rW E body (L.st c v) (fun e s=>match e with | .normal=>(rnd L (fR L.cs c) s).bind (l k c) | e=>out c e s) (pout c))
  (h2:∀ c e s x,out c e s=some x→∃ vs o,rnd (L.with vs) (fR L.cs c) s=some o∧∀(R:Type) f g,dk (R:=R) x f g=f e vs o)
  (h3:∀ c av s x,pout c av s=some x→∃ T ls,av = .y5 T ls∧vd ls=true∧rnd (L.with []) (fR L.cs c) s=some ()∧∀(R:Type) f g,dk (R:=R) x f g=g T ls) (k:Nat):
  Ou P E.gt id (.loop body) (wc id L (l k) dk):=by
 intro R r X st G w act K KP Q h ye hm hr hK hP;simp only [wc] at h;split at h
 ·cases h
 ·rename_i c v s hs
  obtain⟨hbs,hn,Mk,a,zg⟩:=HZ hs;cases hbi:Ky L.cs s with
  |false=>simp [hbi] at h
  |true=>
   simp only [hbi,cond_true] at h;obtain⟨x,hx,h⟩:=Option.bind_eq_some_iff.1 h;have bs0:=TK zg hbi;have bs:Qa st L c:=bs0.iH hbs;obtain⟨G1,m1,r1⟩:=Wm hs (fun o j lf hl=>⟨lf,bs0.bJ o j lf hl⟩) hm hr;let Q':Exit→Act→World→Prop:=fun e a w=>match e with
    |.panic ch=>Q (.panic ch) a w
    |e=>Q (NW id e) a w
   have hQ:∀ e a w,Q' e a w→Exit.inBlock id Q e a w:=fun e a w hq=>by
    cases e with
    |exit i=>
     simp only [Exit.inBlock];by_cases e:i=id
     ·subst e;simp only [Q',NW,Nat.beq_refl,cond_true] at hq;simpa using hq
     ·simp only [Q',NW,ug e,cond_false] at hq;simpa [e] using hq
    |_=>exact hq
   have xa:∀ e s G w act,e≠.normal→sG L c s→aB X s G w→bI G s act→out c e s=some x→Q' e act w:=fun e s G w act gU hb m r' ho=>by
    obtain⟨vs,o,g1,g2⟩:=h2 c e s x ho;rw [g2] at h;obtain⟨G',m',r''⟩:=Te (L:=L.with vs) (c:=c) (v:=o) hb g1 m r'
    have wk:=Ga (L:=L.with vs) (c:=c) (v:=o) (st:=st) ⟨bs.ib,bs.bJ,bs.arr⟩ Mk
    have:=hK _ _ _ _ _ (wk.ok m' (fun o j u hu=>(hm.bv o j u hu).1)) (wk.et r'') h;cases e with
    |panic ch=>exact this
    |_=>exact this
   have aa5:∀ av u s G w act,sG L c s→aB X s G w→act.defers=G.ds→aT G av u→pout c av s=some x→Q' (.panic [{v:=u,recovered:=false}]) act w:=fun av u s G w act hb m r' hv ho=>by
    obtain⟨T,ls,rfl,hd,g1,g2⟩:=h3 c av s x ho;rw [g2] at h;obtain⟨G',m',hp⟩:=Uw (L:=L.with []) (c:=c) (v:=()) hb g1 m
    have wk:=Ga (L:=L.with []) (c:=c) (v:=()) (st:=st) ⟨bs.ib,bs.bJ,bs.arr⟩ Mk
    exact hP _ _ _ _ _ _ (wk.ok m' (fun o j u hu=>(hm.bv o j u hu).1)) (r'.trans (m.ds.trans m'.ds.symm)) (hp T ls u hd hv) h
   refine wp_block (wp_mono (Q:=Q') ?_ hQ);intro b kk cs;have key:∀ k v G act w,aB X (L.st c v) G w→bI G (L.st c v) act→l k c v=some x→
     ∃ e a' w',Q' e a' w'∧Arrives P (lone (b.at act (.code body :: .inLoop body :: kk)) cs w) b kk cs e a' w':=by
    intro k;induction k with
    |zero=>intro v G act w _ _ hl;rw [h0] at hl;cases hl
    |succ k ih=>
     intro v G act w m r' hl;rw [h1] at hl;have hl:=(N7 hE.OJ hE.aad body (K':=fun e s=>gd L c s (match e with | .normal=>(rnd L (fR L.cs c) s).bind (l k c) | e=>out c e s))
      (KP':=fun av s=>gd L c s (pout c av s)) (fun e s hs=>(H8 ⟨hs.1.symm,hs.2.1,hs.2.2.1,hs.2.2.2⟩).symm) (fun av s hs=>(H8 ⟨hs.1.symm,hs.2.1,hs.2.2.1,hs.2.2.2⟩).symm)).symm.trans hl
     have hwp:=yK hE ye body hb (Q:=Exit.then (fun a w=>∃ e a' w',Q' e a' w'∧Arrives P (lone (b.at a (.code body :: .inLoop body :: kk)) cs w) b kk cs e a' w') Q') hl m r'
      (fun e s G w act m r' hk=>by
       obtain⟨OY,hk⟩:=Dj hk;cases e with
       |normal=>obtain⟨v',g1,g2⟩:=Option.bind_eq_some_iff.1 hk;obtain⟨G',m',r''⟩:=Te OY g1 m r';exact ih v' G' act w m' r'' g2
       |_=>exact xa _ _ _ _ _ (by simp) OY m r' hk)
      (fun av u s G w act m r' hv hk=>by
       obtain⟨OY,hk⟩:=Dj hk;exact aa5 _ _ _ _ _ _ OY m r' hv hk)
     obtain⟨e,a₁,w₁,hq,oP⟩:=hwp b (.inLoop body :: kk) cs;cases e with
     |normal=>obtain⟨e₂,a₂,w₂,hq₂,aci⟩:=hq;exact⟨e₂,a₂,w₂,hq₂,.of_steps (Steps.trans oP (.one step_inLoop)) aci⟩
     |exit id=>exact⟨_,a₁,w₁,hq,.pass (x:=.inLoop body) rfl (fun _ _=>.inl (by simp)) oP⟩
     |goto l=>exact⟨_,a₁,w₁,hq,.pass (x:=.inLoop body) rfl (fun _ _=>.inl (by simp)) oP⟩
     |ret=>exact⟨_,a₁,w₁,hq,.pass (x:=.inLoop body) rfl (fun _ _=>.inl (by simp)) oP⟩
     |panic ch=>exact⟨_,a₁,w₁,hq,.pass (x:=.inLoop body) rfl (fun _ _=>.inl (by simp)) oP⟩
     |outgrown=>exact⟨_,a₁,w₁,hq,.pass (x:=.inLoop body) rfl (fun _ _=>.inl (by simp)) oP⟩
   obtain⟨e,a',w',hq,oP⟩:=key k v G1 act w m1 r1 hx;exact⟨e,a',w',hq,.of_steps (.one step_loop) oP⟩
theorem abv{id:Nat}{ops:Array Oper}{L:pN}{W:Type}{F:PV L.cs→PV L.vs→Option W}{dk:Dk W}{out:PV L.cs→St→Option W}{pout:PV L.cs→ae→St→Option W}{ls:List (List Nat)}
  (hd:Cr ops.toList (iG ops.toList [])=true) (hc:iL ops.toList (iG ops.toList []) ops.toList.length []=ls)
  (h1:∀ l∈ls,HX ops.toList l=true∧∀ c v,F c v=FF E ops.toList (iG ops.toList []) l [] (L.st c v) (out c) (pout c))
  (h2:∀ c s x,out c s=some x→∃ vs o,rnd (L.with vs) (fR L.cs c) s=some o∧∀(R:Type) f g,dk (R:=R) x f g=f .normal vs o)
  (h3:∀ c av s x,pout c av s=some x→∃ T ls,av = .y5 T ls∧vd ls=true∧rnd (L.with []) (fR L.cs c) s=some ()∧∀(R:Type) f g,dk (R:=R) x f g=g T ls):
  tY P E.gt (.region id ops true) (wc (id + 1000000) L F dk):=by
 intro R r X st G w act K KP Q h ye hm hr hK hP;simp only [wc] at h;split at h
 ·cases h
 ·rename_i c v s hs
  obtain⟨hbs,hn,Mk,a,zg⟩:=HZ hs;cases hbi:Ky L.cs s with
  |false=>simp [hbi] at h
  |true=>
   simp only [hbi,cond_true] at h;obtain⟨x,hx,h⟩:=Option.bind_eq_some_iff.1 h;have bs0:=TK zg hbi;have bs:Qa st L c:=bs0.iH hbs;obtain⟨G1,m1,r1⟩:=Wm hs (fun o j lf hl=>⟨lf,bs0.bJ o j lf hl⟩) hm hr;refine Uy hE.ir hE.Ag hE.OJ hE.det ye (K:=fun s=>gd L c s (out c s)) (KP:=fun av s=>gd L c s (pout c av s)) (r:=x) (Kok:=fun s=>gd L c s (out c s)=some x) (KPok:=fun av s=>gd L c s (pout c av s)=some x)
    (fun s G w act m r' ho=>?_) (fun av u s G w act m r' hv ho=>?_) hE.mix hd (fun l hl=>?_) (fun _ h=>h) (fun _ _ h=>h) m1 r1
   ·obtain⟨hb,ho⟩:=Dj ho
    obtain⟨vs,o,g1,g2⟩:=h2 c s x ho;rw [g2] at h;obtain⟨G',m',r''⟩:=Te (L:=L.with vs) (c:=c) (v:=o) hb g1 m r'
    have wk:=Ga (L:=L.with vs) (c:=c) (v:=o) (st:=st) ⟨bs.ib,bs.bJ,bs.arr⟩ Mk
    exact hK _ _ _ _ _ (wk.ok m' (fun o j u hu=>(hm.bv o j u hu).1)) (wk.et r'') h
   ·obtain⟨hb,ho⟩:=Dj ho
    obtain⟨T,wd,rfl,J5,g1,g2⟩:=h3 c av s x ho;rw [g2] at h;obtain⟨G',m',hp⟩:=Uw (L:=L.with []) (c:=c) (v:=()) hb g1 m
    have wk:=Ga (L:=L.with []) (c:=c) (v:=()) (st:=st) ⟨bs.ib,bs.bJ,bs.arr⟩ Mk
    exact hP _ _ _ _ _ _ (wk.ok m' (fun o j u hu=>(hm.bv o j u hu).1)) (r'.trans (m.ds.trans m'.ds.symm)) (hp T wd u J5 hv) h
   ·rw [hc] at hl
    obtain⟨q1,q2⟩:=h1 l hl;refine⟨q1,?_⟩;rw [q2 c v] at hx;exact(Dx hE.OJ (fun s hs=>(H8 ⟨hs.1.symm,hs.2.1,hs.2.2.1,hs.2.2.2⟩).symm) (fun av s hs=>(H8 ⟨hs.1.symm,hs.2.1,hs.2.2.1,hs.2.2.2⟩).symm)).symm.trans hx
end
end Go.Fx
namespace Go.Fx
@[reducible] def DL:List Ty→Type
 |[]=>Unit
 |t :: r=>t.mZ×DL r
def uy:List ae→St→Option St
 |[],st=>some st
 |v :: r,st=>(match v.qd st with | some st'=>uy r st' | none=>none)
def Nu(st:St):(ts:List Ty)→List ae→Option (DL ts)
 |[],[]=>some ()
 |t :: ts,v :: vs=>(match v.vE st t with | some x=>(match Nu st ts vs with | some r=>some (x,r) | none=>none) | none=>none)
 |_,_=>none
def QJ:(ts:List Ty)→Nat→DL ts→List (Nat×ae)
 |[],_,_=>[]
 |t :: r,i,d=>(i,.one (.eX t d.1)) :: QJ r (i + 1) d.2
def stD(n:Nat)(ts:List Ty)(d:DL ts):St:=⟨n,QJ ts 0 d,[],[],[],[],[],[],[]⟩
def JT(E:rQ)(st:St):List ResultVar→Option (List ae)
 |[]=>some []
 |.tmp t :: r=>(match JT E st r with | some l=>some (st.tB t :: l) | none=>none)
 |.cell t T :: r=>(match st.tB t with
  |.one (.mT o off)=>(match xG E T (.one (.mT o off)) st (fun v _=>some v),JT E st r with | some v,some l=>some (v :: l) | _,_=>none)
  |_=>none)
def M3(E:rQ)(rv:List ResultVar)(rs:List Ty)(st:St):Option (DL rs):=
 match JT E st rv with
 |some vs=>(match uy vs st with | some st'=>Nu st' rs vs | none=>none)
 |none=>none
def ZD:(rs:List Ty)→DL rs→List (Bool×List af)
 |[],_=>[]
 |t :: r,d=>(t.agg,jJ t d.1) :: ZD r d.2
def RG(rs:List Ty)(d:DL rs):ae:=
 match rs,d with
 |[t],d=>.one (.eX t d.1)
 |rs,d=>.I8 (ZD rs d)
def Ah(ts rs:List Ty){W:Type}(F:DL ts→Option W)(dec:W→DL rs):iT where
 run _ args st K _:=(match uy args st with
  |some st'=>(match Nu st' ts args with
   |some d=>(F d).bind fun r=>K (RG rs (dec r)) (bif rs.all Ty.xE then st else st')
   |none=>none)
  |none=>none)
 Ju args _:=bif rs.all Ty.xE then [] else mV args
theorem I5:∀{vs:List ae} {st st':St},uy vs st=some st'→qn (mV vs) st st'
 |[],st,st',h=>by cases h;exact .refl _ _
 |v :: r,st,st',h=>by
  simp only [uy] at h;split at h
  ·rename_i s1 h1;exact((un h1).mono fun q hq=>List.mem_append_left _ hq).trans ((I5 h).mono fun q hq=>List.mem_append_right _ hq)
  ·cases h
theorem PL:∀{vs:List ae} {st st':St},uy vs st=some st'→j0 st st'
 |[],st,st',h=>by cases h;exact .refl _
 |v :: r,st,st',h=>by
  simp only [uy] at h;split at h
  ·rename_i s1 h1;exact(I6 h1).trans (PL h)
  ·cases h
theorem wy(ts rs:List Ty){W:Type}(F:DL ts→Option W)(dec:W→DL rs):mO (Ah ts rs F dec):=by
 intro R dst args st K K' KP KP' hK hP;simp only [Ah] at hK ⊢;split
 ·rename_i st' hs
  split
  ·refine dQ fun r=>hK _ _ ?_
   cases rs.all Ty.xE with
   |true=>exact .refl _ _
   |false=>exact I5 hs
  ·rfl
 ·rfl
theorem Ai(ts rs:List Ty){W:Type}(F:DL ts→Option W)(dec:W→DL rs):oL (Ah ts rs F dec):=by
 intro R dst args st K KP;simp only [Ah]
 repeat' (first | rfl | apply fG | intro _ | split)
theorem xP{X:mo}{w:World}:∀{vs:List ae} {st st':St} {G:Gh},uy vs st=some st'→aB X st G w→∃ G',aB X st' G' w∧G.Ku G'∧qI st st'
 |[],st,st',G,h,hm=>by cases h;exact⟨G,hm,.refl G,.refl _⟩
 |v :: r,st,st',G,h,hm=>by
  simp only [uy] at h;split at h
  ·rename_i s1 h1
   obtain⟨G1,m1,a1,k1⟩:=DA h1 hm;obtain⟨G2,m2,a2,k2⟩:=xP h m1;exact⟨G2,m2,a1.trans a2,k1.trans k2⟩
  ·cases h
def yQ(G:Gh):(ts:List Ty)→DL ts→List Value→Prop
 |[],_,[]=>True
 |t :: r,d,v :: vs=>aX G (.eX t d.1) v∧yQ G r d.2 vs
 |_,_,_=>False
theorem Cy{X:mo}{st:St}{G:Gh}{w:World}(hm:aB X st G w):∀{ts:List Ty} {avs:List ae} {d:DL ts} {vs:List Value},Nu st ts avs=some d→All2 (aT G) avs vs→yQ G ts d vs
 |[],[],d,[],_,_=>trivial
 |t :: ts,a :: avs,d,v :: vs,h,hr=>by
  simp only [Nu] at h;split at h
  ·rename_i x hx
   split at h
   ·rename_i r O7
    simp only [Option.some.injEq] at h;subst h;exact⟨Cj hm hx hr.1,Cy hm O7 hr.2⟩
   ·cases h
  ·cases h
 |[],[],d,_ :: _,_,hr=>hr.elim
 |[],_ :: _,d,_,h,_=>by cases h
 |_ :: _,[],d,_,h,_=>by cases h
 |_ :: _,_ :: _,d,[],_,hr=>hr.elim
theorem yQ.et{G:Gh}{n:Nat}:∀{ts:List Ty} {d:DL ts} {vs:List Value} (pre:List Value),yQ G ts d vs→∀ i v,look (QJ ts pre.length d) i=some v→aT G v ((pre ++ vs).getD i undef)
 |[],d,[],pre,_,i,v,h=>by cases h
 |t :: r,d,u :: vs,pre,hd,i,v,h=>by
  simp only [QJ,aw] at h;by_cases e:pre.length=i
  ·simp only [e,if_true,Option.some.injEq] at h
   subst h;subst e;have:(pre ++ u :: vs).getD pre.length undef=u:=by simp [List.getD_eq_getElem?_getD]
   rw [this];exact hd.1
  ·simp only [e,if_false] at h
   have:=yQ.et (n:=n) (pre ++ [u]) hd.2 i v (by simpa using h)
   simpa using this
 |[],d,_ :: _,_,h,_,_,_=>h.elim
 |_ :: _,d,[],_,h,_,_,_=>h.elim
theorem yQ.length{G:Gh}:∀{ts:List Ty} {d:DL ts} {vs:List Value},yQ G ts d vs→vs.length=ts.length
 |[],d,[],_=>rfl
 |t :: r,d,u :: vs,hd=>by simp [yQ.length hd.2]
 |[],d,_ :: _,h=>h.elim
 |_ :: _,d,[],h=>h.elim
def QD(S:Ce)(w:World):mo:=⟨S,fun _=>False,w,fun _=>none,(fun _ _ h=>(by cases h)),fun _ _=>none,(fun _ _ _ h=>(by cases h)),fun _=>none,[]⟩
def ghD(S:Ce):Gh:=⟨S,fun _=>0,fun _=>[],fun _=>[],fun _=>.slice none 0 0,fun _=>[],fun _=>0,fun _ _=>[],[]⟩
theorem Tj{S:Ce}{w:World}(hS:∀ b o,S b=some o→w.heap[b]? = some o)(n:Nat)(ts:List Ty)(d:DL ts):aB (QD S w) (stD n ts d) (ghD S) w:=by
 have no:∀ x b,¬ eU (ghD S) (stD n ts d) x b:=fun x b hx=>by
  obtain⟨k,m⟩:=x;cases k with
  |false=>obtain⟨⟨ls,h⟩,_⟩:=hx;cases h
  |true=>obtain⟨⟨A,h,_⟩,_⟩:=hx;cases h
 refine {sl:=fun _=>.inl ⟨_,_,_,rfl⟩,sh:=hS,ob:=fun o ls h=>(by cases h),ar:=fun a A h=>(by cases h),ah:=fun a A h=>(by cases h),nd:=fun a A h=>(by cases h),pO:=fun x y b h=>(no x b h).elim,dS:=fun x b h=>(no x b h).elim,sD:=fun x b h=>(no x b h).elim,s0:=fun b o h=>h,sn:=fun b o h=>.inl h,fr:=fun b _ _=>rfl,sz:=Nat.le_refl _,os:=rfl,tp:=rfl,out:=rfl,pin:=fun o p h=>(by cases h),bv:=fun o j u h=>(by cases h),ap:=fun a u h=>(by cases h),hv:=fun _=>rfl,ds:=rfl,hh:=fun a A h=>(by cases h)}
theorem aB.ab4{X:mo}{st:St}{G:Gh}{w w':World}(hm:aB X st G w){t:St}{G3:Gh}(h3:aB (QD G.S w) t G3 w'):aB X st {G with S:=G3.S} w'∧G.Ku {G with S:=G3.S}:=by
 have hS:∀ b o,G.S b=some o→G3.S b=some o:=h3.s0;have pV:G.Ku {G with S:=G3.S}:=⟨hS,rfl,rfl,rfl,rfl,rfl,rfl,rfl,rfl⟩
 have su:∀ b,b < w.heap.size→w'.heap[b]? = w.heap[b]?:=fun b hb=>h3.fr b hb (fun h=>h);have oW:∀ x b,eU {G with S:=G3.S} st x b→eU G st x b:=fun x b hx=>by obtain⟨k,m⟩:=x;cases k<;>exact hx
 refine⟨{sl:=hm.sl,sh:=h3.sh,ob:=fun o ls h=>?_,ar:=fun a A h=>?_,ah:=fun a A h hs p hp=>?_,nd:=hm.nd,pO:=fun x y b hx hy=>hm.pO x y b (oW x b hx) (oW y b hy),dS:=fun x b hx=>?_,sD:=fun x b hx=>hm.sD x b (oW x b hx),s0:=fun b o h=>hS b o (hm.s0 b o h),sn:=fun b o h=>?_,fr:=fun b h1 h2=>?_,sz:=Nat.le_trans hm.sz h3.sz,os:=h3.os.trans hm.os,tp:=h3.tp.trans hm.tp,out:=h3.out.trans hm.out,pin:=hm.pin,bv:=fun o j u h=>(by obtain⟨h1,⟨l,h2,h5⟩,wP,qE,h4,h6⟩:=hm.bv o j u h;exact⟨h1,⟨l,h2,h5⟩,wP,qE,by rw [su _ (eU.lt hm (x:=(false,o)) ⟨⟨l,h2⟩,rfl⟩)];exact h4,h6⟩),ap:=hm.ap,hv:=hm.hv,ds:=hm.ds,hh:=hm.hh},pV⟩
 ·obtain⟨arr,elem,mid,g1,g2,g3⟩:=hm.ob o ls h
  exact⟨arr,elem,mid,by rw [su _ (eU.lt hm (x:=(false,o)) ⟨⟨ls,h⟩,rfl⟩)];exact g1,g2,FM pV g3⟩
 ·exact(hm.ar a A h).mono (G:=G) (a:=a) (G':={G with S:=G3.S}) (a':=a) hS rfl rfl (fun _ _ _=>⟨rfl,rfl,rfl⟩)
 ·rw [su p.1 (eU.lt hm (x:=(true,a)) ⟨⟨A,h,hs⟩,p,hp,rfl⟩)];exact hm.ah a A h hs p hp
 ·have Dl:=oW x b hx
  have bq:=eU.lt hm Dl;cases hc:G3.S b with
  |none=>rfl
  |some o=>
   rcases h3.sn b o hc with h | h | h
   ·have:=hm.dS x b Dl;rw [show G.S b=some o from h] at this;cases this
   ·exact h.elim
   ·have h:w.heap.size≤b:=h;omega
 ·rcases h3.sn b o h with h | h | h
  ·exact hm.sn b o h
  ·exact h.elim
  ·have:=hm.sz;have h:w.heap.size≤b:=h;exact .inr (.inr (by omega))
 ·rw [su b (by have:=hm.sz;omega)];exact hm.fr b h1 h2
def FE:List Value→Value
 |[v]=>v
 |vs=>.tuple vs.toArray
theorem Wj{G G':Gh}(hS:G'.S=G.S):∀{ts:List Ty} {d:DL ts} {vs:List Value},yQ G ts d vs→yQ G' ts d vs
 |[],d,[],_=>trivial
 |t :: r,d,v :: vs,h=>by obtain⟨cs,e1,e2⟩:=h.1;exact⟨⟨cs,e1,by rw [hS];exact e2⟩,Wj hS h.2⟩
 |[],d,_ :: _,h=>h.elim
 |_ :: _,d,[],h=>h.elim
theorem Nj{G G':Gh}:∀{ts:List Ty} {d:DL ts} {vs:List Value},ts.all Ty.xE=true→yQ G ts d vs→yQ G' ts d vs
 |[],d,[],_,_=>trivial
 |t :: r,d,v :: vs,hn,h=>by simp only [List.all_cons,Bool.and_eq_true] at hn;obtain⟨cs,e1,e2⟩:=h.1;exact⟨⟨cs,e1,uZ hn.1 e2⟩,Nj hn.2 h.2⟩
 |[],d,_ :: _,_,h=>h.elim
 |_ :: _,d,[],_,h=>h.elim
theorem AP{P:Program}{E:rQ}(hE:iy P E.ir){X:mo}{st:St}{G:Gh}{w:World}{act:Act}(hm:aB X st G w)(hr:bI G st act):∀{rv:List ResultVar} {avs:List ae},JT E st rv=some avs→
  ∃ yg:List Value,(rv.mapM fun(x:ResultVar)=>(match x with
   |.tmp t=>pure (act.tmps.getD t undef)
   |.cell a t=>do loadVar t (←asAddr (act.tmps.getD a undef)):Sem Value)).run P w = .ok yg w∧All2 (aT G) avs yg
 |[],avs,h=>by cases h;exact⟨[],rfl,trivial⟩
 |.tmp t :: r,avs,h=>by
  simp only [JT] at h;split at h
  ·rename_i l hl
   cases h;obtain⟨yg,h1,h2⟩:=AP hE hm hr hl;refine⟨act.tmps.getD t undef :: yg,?_,?_,h2⟩
   ·rw [List.mapM_cons,Sem.run_bind]
    simp only [Sem.run_pure,Result.andThen_ok];rw [Sem.run_bind,h1];rfl
   ·unfold St.tB
    cases hs:st.ib t with
    |none=>trivial
    |some sv=>exact hr.2.2 t sv hs
  ·cases h
 |.cell t T :: r,avs,h=>by
  simp only [JT] at h;split at h
  ·rename_i o off vZ
   split at h
   ·rename_i v l hv hl
    simp only [Option.some.injEq] at h;subst h;obtain⟨yg,h1,h2⟩:=AP hE hm hr hl;have hp:aT G (.one (.mT o off)) (act.tmps.getD t undef):=by
     rw [←vZ];unfold St.tB;cases hs:st.ib t with
     |none=>rw [St.tB,hs] at vZ;cases vZ
     |some sv=>exact hr.2.2 t sv hs
    obtain⟨av,u,h3,h4,h5⟩:=Iv hE hv hm hp;cases h5;have hq:∃ a,act.tmps.getD t undef = .pointer (some a):=⟨_,hp⟩;obtain⟨a,ha⟩:=hq;rw [ha] at h3;refine⟨u :: yg,?_,h4,h2⟩;have h3':(do loadVar T (←asAddr (act.tmps.getD t undef)):Sem Value).run P w = .ok u w:=by rw [ha];have:=h3;simpa [Instr.loadAt,Instr.sureAddr,asAddr] using this
    rw [List.mapM_cons,Sem.run_bind];dsimp only;rw [h3'];simp only [Result.andThen_ok];rw [Sem.run_bind,h1];rfl
   ·cases h
  ·cases h
theorem I2{P:Program}{E:rQ}(hE:iy P E.ir){X:mo}{st:St}{G:Gh}{w:World}{act:Act}{fn:Func}{avs:List ae}(hm:aB X st G w)(hr:bI G st act)(h:JT E st fn.results.toList=some avs):
  ∃ yg:List Value,(results fn act.tmps).run P w = .ok (FE yg) w∧All2 (aT G) avs yg:=by
 obtain⟨yg,h1,h2⟩:=AP hE hm hr h;refine⟨yg,?_,h2⟩;obtain⟨g,g1,g2⟩:∃ g:ResultVar→Sem Value,results fn act.tmps=(do let vs ←fn.results.mapM g;pure (if h:vs.size=1 then vs[0] else .tuple vs))∧g=fun(x:ResultVar)=>(match x with
   |.tmp t=>pure (act.tmps.getD t undef)
   |.cell a t=>do loadVar t (←asAddr (act.tmps.getD a undef)):Sem Value):=⟨_,rfl,by funext x;cases x<;>rfl⟩
 rw [g1,Array.mapM_eq_mapM_toList,g2,Sem.run_bind,Sem.run_map,h1];simp only [Result.andThen_ok,Sem.run_pure]
 congr 1
 match yg with
 |[]=>rfl
 |[v]=>rfl
 |v :: u :: r=>simp [FE]
theorem UL{G:Gh}:∀{rs:List Ty} {d:DL rs} {vs:List Value},yQ G rs d vs→All2 (fun(p:Bool×List af) u=>if p.1=true then ∃ cs:List Value,u = .agg cs.toArray∧All2 (aX G) p.2 cs else ∃ l,p.2 = [l]∧aX G l u) (ZD rs d) vs
 |[],d,[],_=>trivial
 |t :: r,d,v :: vs,h=>by
  refine⟨?_,UL h.2⟩;obtain⟨cs,e1,e2⟩:=h.1;cases ha:t.agg with
  |true=>simp only [ha,if_true] at e1 ⊢;exact⟨cs,e1,lm e2⟩
  |false=>simp only [ha,Bool.false_eq_true,if_false] at e1 ⊢;cases t<;>simp [Ty.agg] at ha<;>exact⟨_,rfl,_,by simp [Ty.agg,e1],e2⟩
 |[],d,_ :: _,h=>h.elim
 |_ :: _,d,[],h=>h.elim
theorem Kh{G:Gh}{rs:List Ty}{x:DL rs}{vs:List Value}(h:yQ G rs x vs):aT G (RG rs x) (FE vs):=by
 cases rs with
 |nil=>
  cases vs with
  |nil=>exact⟨[],rfl,trivial⟩
  |cons _ _=>exact h.elim
 |cons t rs=>
  cases vs with
  |nil=>exact h.elim
  |cons v vs=>
   cases rs with
   |nil=>
    cases vs with
    |nil=>exact h.1
    |cons _ _=>exact h.2.elim
   |cons t2 rs=>
    cases vs with
    |nil=>exact h.2.elim
    |cons v2 vs=>exact⟨v :: v2 :: vs,rfl,UL h⟩
section
variable {P:Program} {E:rQ} (hE:Ee P E)
include hE
omit hE in
theorem aB.aaR{X:mo}{st:St}{G:Gh}{w w':World}(hm:aB X st G w)(su:∀ b,b < w.heap.size→w'.heap[b]? = w.heap[b]?)(mw:w.heap.size≤w'.heap.size)(hos:w'.os=w.os)(htp:w'.tape=w.tape)(xa:w'.output=w.output):aB X st G w':=by
 have old:∀{b:Nat} {o:Obj},w.heap[b]? = some o→w'.heap[b]? = some o:=fun {b o} h=>by rw [su b (fT h)];exact h
 exact {
  sl:=hm.sl,sh:=fun b o h=>old (hm.sh b o h),ob:=fun o ls h=>(by obtain⟨arr,elem,mid,g1,g2,g3⟩:=hm.ob o ls h;exact⟨arr,elem,mid,old g1,g2,g3⟩),ar:=hm.ar,ah:=fun a A h hs p hp=>old (hm.ah a A h hs p hp),nd:=hm.nd,pO:=hm.pO,dS:=hm.dS,sD:=hm.sD,s0:=hm.s0,sn:=hm.sn,fr:=fun b h1 h2=>(by rw [su b (by have:=hm.sz;omega)];exact hm.fr b h1 h2),sz:=Nat.le_trans hm.sz mw,os:=hos.trans hm.os,tp:=htp.trans hm.tp,out:=xa.trans hm.out,pin:=hm.pin
  bv:=fun o j u h=>(by obtain⟨h1,h2,wP,qE,h4,h5⟩:=hm.bv o j u h;exact⟨h1,h2,wP,qE,old h4,h5⟩),ap:=hm.ap,hv:=hm.hv,ds:=hm.ds,hh:=hm.hh}
omit hE in
theorem KU{G1:Gh}{ts:List Ty}{d:DL ts}{vs:List Value}{n:Nat}(hdr:yQ G1 ts d vs)(hn:ts.length≤n):bI (ghD G1.S) (stD n ts d) {tmps:=vs.toArray ++ Array.replicate (n - vs.toArray.size) undef,defers:=[]}:=by
 have hl:=hdr.length;refine⟨rfl,by simp [stD];omega,fun i v hv=>?_⟩
 have adO:yQ (ghD G1.S) ts d vs:=by
  have key:∀{ts:List Ty} {d:DL ts} {vs:List Value},yQ G1 ts d vs→yQ (ghD G1.S) ts d vs:=by
   intro ts;induction ts with
   |nil=>intro d vs h;cases vs<;>exact h
   |cons t r ih=>intro d vs h;cases vs with
    |nil=>exact h
    |cons v vs=>exact⟨h.1,ih h.2⟩
  exact key hdr
 have h1:(stD n ts d).ib i=look (QJ ts 0 d) i:=by simp only [St.ib,stD];cases look (QJ ts 0 d) i<;>rfl
 rw [h1] at hv;have h2:=yQ.et (n:=0) [] adO i v hv;simp only [List.nil_append] at h2;have hi:i < vs.length:=by
  rw [hl];have:∀{ts:List Ty} {d:DL ts} {k i:Nat} {v:ae},look (QJ ts k d) i=some v→i < k + ts.length:=by
   intro ts;induction ts with
   |nil=>intro d k i v h;cases h
   |cons t r ih=>
    intro d k i v h;simp only [QJ,aw] at h;by_cases e:k=i
    ·subst e;simp
    ·simp only [e,if_false] at h
     have:=ih h;simp only [List.length_cons];omega
  have:=this hv;omega
 rw [Array.getD_eq_getD_getElem?,Array.getElem?_append_left (by simpa using hi)]
 simpa [List.getD_eq_getElem?_getD] using h2
theorem RV{X:mo}{st vw:St}{G G1:Gh}{w w':World}(hm:aB X st G w)(m1:aB X vw G1 w)(a1:G.Ku G1)(k1:qI st vw){rs:List Ty}{x:DL rs}{fn:Func}{s:St}{G3:Gh}{act:Act}{R:Type}{r:R}{K:ae→St→Option R}
  (hr:K (RG rs x) (bif rs.all Ty.xE then st else vw)=some r) (m3:aB (QD G1.S w) s G3 w') (r3:bI G3 s act) (Ic:M3 E fn.results.toList rs s=some x):
  ∃ v,(results fn act.tmps).run P w' = .ok v w'∧∃ av st' G',aB X st' G' w'∧(∀ act,bI G st act→bI G' st' act)∧aT G' av v∧K av st' = some r:=by
 unfold M3 at Ic;split at Ic
 ·rename_i avs hav
  split at Ic
  ·rename_i s' AK
   obtain⟨vs',it,h2⟩:=I2 hE.ir m3 r3 hav;obtain⟨G4,m4,a4,k4⟩:=xP AK m3;have acq:=Cy m4 Ic (h2.imp fun a v h=>h.sub a4);cases J9:rs.all Ty.xE with
   |true=>rw [J9] at hr;exact⟨_,it,RG rs x,st,G,hm.aaR (fun b hb=>m4.fr b hb (fun h=>h)) m4.sz m4.os m4.tp m4.out,fun act ra=>ra,Kh (Nj J9 acq),hr⟩
   |false=>rw [J9] at hr;obtain⟨mc,aet⟩:=m1.ab4 m4;exact⟨_,it,RG rs x,vw,_,mc,fun act ra=>(zS k1 a1 ra).sub aet rfl (fun _=>rfl),Kh (Wj (G:=G4) (G':={G1 with S:=G4.S}) rfl acq),hr⟩
  ·cases Ic
 ·cases Ic
theorem YL{f:FuncId}{fn:Func}{c:Code}{ts rs:List Ty}{W:Type}{F:DL ts→Option W}(pack:DL rs→W){dec:W→DL rs}(SF:∀ r,dec (pack r)=r)(hf:P.funcs[f]? = some fn)(hb:fn.body=some c)(zL:∀ args w,(callFunc f args).run P w = .ok (.enter f args) w)(hL:rH P E c)
  (hn:ts.length≤fn.ntmps)
  (h:∀ d,F d=rW E c (stD fn.ntmps ts d) (fun e s=>match e with | .normal=>(M3 E fn.results.toList rs s).map pack | .ret=>(M3 E fn.results.toList rs s).map pack | _=>none) (fun _ _=>none)):zy P E.gt f (Ah ts rs F dec):=by
 intro R r X st G w dst args vs K KP hr ye hm _ ha;simp only [Ah] at hr;split at hr
 ·rename_i vw hs
  split at hr
  ·rename_i d hd
   obtain⟨y,hx,hr⟩:=Option.bind_eq_some_iff.1 hr;obtain⟨G1,m1,a1,k1⟩:=xP hs hm;have Ap:mX E.gt (QD G1.S w).S0:=ye.mono m1.s0;have hdr:=Cy m1 hd (ha.imp fun a v h=>h.sub a1);refine⟨zL _ _,calls_of_wp hf hb ?_⟩;have zO:∀ s G3 w' act,aB (QD G1.S w) s G3 w'→bI G3 s act→(M3 E fn.results.toList rs s).map pack=some y→act.defers = []∧∃ v,(results fn act.tmps).run P w' = .ok v w'∧
     ∃ av st' G',aB X st' G' w'∧(∀ act,bI G st act→bI G' st' act)∧aT G' av v∧K av st' = some r:=fun s G3 w' act m3 r3 Ic=>by
    refine⟨r3.1.trans m3.ds,?_⟩;obtain⟨x,acM,hy⟩:=Option.map_eq_some_iff.1 Ic;rw [←hy,SF] at hr;exact RV hE hm m1 a1 k1 hr m3 r3 acM
   rw [h] at hx;refine yK hE Ap c hL hx (Tj m1.sh _ _ _) (KU hdr hn) (fun e s G3 w' act m3 r3 hk=>?_) (fun av v s G3 w' act m3 r3 hv hk=>by cases hk)
   cases e with
   |normal=>exact zO s G3 w' act m3 r3 hk
   |ret=>exact zO s G3 w' act m3 r3 hk
   |_=>cases hk
  ·cases hr
 ·cases hr
end
end Go.Fx
namespace Go.Fx
noncomputable def vF(t:St)(G:Gh)(w:World):mo where
 S0:=G.S
 Vq:=fun b=>∃ x,eU G t x b
 w0:=w
 pin:=fun o=>if o < 10000 then(match t.dJ o with | some _=>some (G.φ o,G.pre o,G.post o) | none=>none) else none
 pl:=fun o p h=>by
  by_cases bq:o < 10000
  ·exact bq
  ·simp [bq] at h
 bv:=fun o j=>if o < 10000 then(match t.dJ o,dV t.cz o j with
  |some ls,some _=>(match ls[j]?,w.heap[G.φ o]? with
   |some .t6,some (.cells arr elem fz)=>arr.toList[(G.pre o).length + j]?
   |_,_=>none)
  |_,_=>none) else none
 bl:=fun o j u h=>by
  by_cases bq:o < 10000
  ·exact bq
  ·simp [bq] at h
 Yy:=fun a=>if eT a t.pin=true then(match t.arr a with | some _=>some (G.ψ a) | none=>none) else none
theorem Gh.NJ{G:Gh}{ds:List Deferred}{l:af}{v:Value}(r:aX G l v):aX {G with ds:=ds} l v:=by cases l<;>exact r
theorem Gh.abR{G:Gh}{ds:List Deferred}{a:ae}{v:Value}(r:aT G a v):aT {G with ds:=ds} a v:=by
 cases a with
 |one l=>exact NJ r
 |agg ls=>obtain⟨cs,e,hr⟩:=r;exact⟨cs,e,hr.imp fun _ _=>NJ⟩
 |I8 vs=>
  obtain⟨us,e,hr⟩:=r;refine⟨us,e,hr.imp fun p u Lh=>?_⟩;split at Lh
  ·rename_i hc;simp only [hc,if_true];obtain⟨cs,e,hr⟩:=Lh;exact⟨cs,e,hr.imp fun _ _=>NJ⟩
  ·rename_i hc
   obtain⟨l,e,hr⟩:=Lh;simp only [hc,if_false];exact⟨l,e,NJ hr⟩
 |y5 t ls=>obtain⟨u,cs,e1,e2,hr⟩:=r;exact⟨u,cs,e1,e2,hr.imp fun _ _=>NJ⟩
theorem aB.X2{X:mo}{t:St}{G:Gh}{w:World}(hm:aB X t G w)(ds:List Deferred)(p:Nat→Option (Nat×List Value×List Value))(pl:∀ o q,p o=some q→o < 10000)
  (hp:∀ o q,p o=some q→(∃ ls,t.dJ o=some ls)∧q=(G.φ o,G.pre o,G.post o)):aB {X with ds:=ds,pin:=p,pl:=pl} t {G with ds:=ds} w:=
 {
  sl:=hm.sl,sh:=hm.sh,ob:=fun o ls h=>(by obtain⟨a,e,m,h1,h2,h3⟩:=hm.ob o ls h;exact⟨a,e,m,h1,h2,h3.imp fun _ _=>Gh.NJ⟩),ar:=hm.ar,ah:=hm.ah,nd:=hm.nd,pO:=fun x y b h1 h2=>hm.pO x y b (by cases x with | mk k o=>cases k<;>exact h1) (by cases y with | mk k o=>cases k<;>exact h2)
  dS:=fun x b h=>hm.dS x b (by cases x with | mk k o=>cases k<;>exact h),sD:=fun x b h=>hm.sD x b (by cases x with | mk k o=>cases k<;>exact h),s0:=hm.s0,sn:=hm.sn,fr:=hm.fr,sz:=hm.sz,os:=hm.os,tp:=hm.tp,out:=hm.out,pin:=hp,bv:=hm.bv,ap:=hm.ap,hv:=hm.hv,ds:=rfl,hh:=hm.hh}
theorem aB.ds0{X:mo}{t:St}{G:Gh}{w:World}(hm:aB X t G w):aB {X with ds:=[]} t {G with ds:=[]} w:=
 hm.X2 [] X.pin X.pl hm.pin
theorem aB.enter{X:mo}{t:St}{G:Gh}{w:World}(hm:aB X t G w):aB (vF t G w) t {G with ds:=[]} w:=by
 replace hm:=hm.ds0
 refine {sl:=hm.sl,sh:=hm.sh,ob:=hm.ob,ar:=hm.ar,ah:=hm.ah,nd:=hm.nd,pO:=hm.pO,dS:=hm.dS,sD:=fun x b h=>.inl ⟨x,by cases x with | mk k o=>cases k<;>exact h⟩,s0:=fun b o h=>h,sn:=fun b o h=>.inl h,fr:=fun b _ _=>rfl,sz:=Nat.le_refl _,os:=rfl,tp:=rfl,out:=rfl,pin:=fun o p h=>?_,bv:=fun o j u h=>?_,ap:=fun a u h=>?_,hv:=hm.hv,ds:=hm.ds,hh:=hm.hh}
 ·simp only [vF] at h
  split at h
  ·split at h
   ·rename_i ls ho
    simp only [Option.some.injEq] at h;exact⟨⟨ls,ho⟩,h.symm⟩
   ·cases h
  ·cases h
 ·simp only [vF] at h
  split at h
  ·split at h
   ·rename_i ls lf ho hl
    split at h
    ·rename_i arr elem fz hj hh
     obtain⟨wP,qE,mid,g1,g2,g3⟩:=hm.ob o ls ho;rw [g1] at hh;cases hh;exact⟨⟨lf,hl⟩,⟨ls,ho,hj⟩,_,_,g1,h⟩
    ·cases h
   ·cases h
  ·cases h
 ·simp only [vF] at h
  split at h
  ·rename_i hp
   split at h
   ·rename_i A hA;simp only [Option.some.injEq] at h;exact⟨hp,⟨A,hA⟩,h⟩
   ·cases h
  ·cases h
theorem SJ{t:St}{G:Gh}{w:World}{a:Nat}{A:jB}(hp:eT a t.pin=true)(ha:t.arr a=some A):(vF t G w).Yy a=some (G.ψ a):=by simp [vF,hp,ha]
theorem NE{t:St}{G:Gh}{w:World}{o:Nat}{ls:List af}(bq:o < 10000)(ho:t.dJ o=some ls):(vF t G w).pin o=some (G.φ o,G.pre o,G.post o):=by simp [vF,bq,ho]
theorem Lp{X:mo}{t:St}{G:Gh}{w:World}(hm:aB X t G w){o j:Nat}{ls:List af}{lf:af}(bq:o < 10000)(ho:t.dJ o=some ls)(hl:dV t.cz o j=some lf)(hj:ls[j]? = some .t6):
  ∃ arr elem u,w.heap[G.φ o]? = some (.cells arr elem (0,0))∧arr.toList[(G.pre o).length + j]? = some u∧(vF t G w).bv o j=some u:=by
 obtain⟨arr,elem,mid,g1,g2,g3⟩:=hm.ob o ls ho;have hml:mid.length=ls.length:=by have:=All2.length g3;rw [iF] at this;exact this.symm
 have hjl:j < ls.length:=(List.getElem?_eq_some_iff.1 hj).1;have:(G.pre o).length + j < arr.toList.length:=by rw [g2];simp;omega
 refine⟨arr,elem,arr.toList[(G.pre o).length + j],g1,List.getElem?_eq_getElem this,?_⟩;simp only [vF,bq,if_true,ho,hl,hj,g1];exact List.getElem?_eq_getElem this
end Go.Fx
