/- Proved here: laws.FnExactHuntTry returns true at every input (the tied card), no condition beyond the card. -/
import Derived.Test.YtooajghcoijkaaaGreatDoorFa
import Derived.MapKept
import Derived.Laws.BytesString
import Derived.Deep.MidRow
set_option linter.unusedVariables false
set_option linter.unusedSimpArgs false
set_option linter.unusedSectionVars false
set_option maxRecDepth 100000
namespace Go.Fx
section ops
variable {P:Program} {E:sd} (hE:iD P E.iw) {X:mt} {w:World} {R:Type} {r:R}
theorem Pf{st:St}{G:Gh}{T:TypeId}{ti:TI}(hti:zr P T ti)(hm:aB X st G w){o off:Nat}{vs ls c:List ag}{vx vv:Value}(jI:vs.length=ti.size)(sC:vs.all ag.cell=true)(E7:All2 (aY G) vs vv.cells.toList)
  (ho:st.dM o=some ls) (hs:qr ls off ti.size=some c) (hb:c.any ag.py=false) (hx:aY G (.mW o off) vx):
  ∃ w',(Instr.storeAt T vx vv).run P w = .ok () w'∧aB X (st.qn o (ml ls off vs)) G w':=by
 have RT:=DX hm sC E7;have Ga:vv.cells.size=ti.size:=by rw [←jI,E7.length];simp
 have Bi:off + ti.size≤ls.length:=by
  unfold qr at hs;cases hq:Nat.ble (off + ti.size) ls.length with
  |false=>simp [hq] at hs
  |true=>exact Nat.le_of_ble_eq_true hq
 obtain⟨arr,elem,mid,g1,g2,g3⟩:=hm.ob o ls ho;have hml:mid.length=ls.length:=by have:=All2.length g3;rw [iK] at this;exact this.symm
 have Tu:arr.size=(G.pre o).length + (mid.length + (G.post o).length):=by rw [←Array.length_toList,g2];simp
 have D3:vx = .pointer (some ⟨G.φ o,(G.pre o).length + off,none⟩):=hx;have wA:(G.pre o).length + off + vv.cells.size≤arr.size:=by omega
 obtain⟨arr',k1,k2,k3,k4,k5,k6,k7⟩:=nQ (G.φ o) vv.cells.toList ((G.pre o).length + off) w g1 (by simpa using wA)
 refine⟨_,by rw [D3];exact zh hti Ga (AV g1 wA) RT,?_⟩
 refine hm.SV ho (LD sC) (by omega) (by rw [jI];unfold qr at hs;cases hq:Nat.ble (off + ti.size) ls.length<;>simp [hq] at hs;rw [hs];exact hb) E7 g1 g2 g3 k1 ?_ k3 k4 k5 k6 k7
 have Bj:vv.cells.toList.length=ti.size:=by simpa using Ga
 rw [k2,g2,Bj];exact Gy _ _ _ _ _ _ (by omega)
theorem Wu{a v sz:Nat}{ls:List ag}(h:ls.all ag.cell=true):(ls.map (qv a v sz)).all ag.cell=true:=by
 rw [List.all_map,List.all_eq_true];intro l hl;have:=List.all_eq_true.1 h l hl;simp only [Function.comp_apply];cases l with
 |Eb a' v' sz' i' off=>simp only [qv];cases (Nat.beq a' a && Nat.beq v' v && Nat.beq sz' sz && Nat.blt off sz)<;>rfl
 |_=>exact this
theorem S1{G:Gh}{a v sz i:Nat}(ht:∀ off u,off < sz→uZ G a v sz i off u→u=G.ψ (Kz a v off)):∀{ls:List ag} {us:List Value},wq a v sz i ls=true→All2 (aY G) ls us→All2 (aY G) (ls.map (qv a v sz)) us
 |[],[],_,_=>trivial
 |l :: ls,u :: us,h,hr=>by
  refine⟨S2 ht (Js h l (List.mem_cons_self ..)) hr.1,S1 ht ?_ hr.2⟩;cases l with
  |Eb a' v' sz' i' off=>
   simp only [wq] at h;cases hb:(Nat.beq a' a && Nat.beq v' v && Nat.beq sz' sz && Nat.blt off sz) with
   |false=>simp only [hb,cond_false] at h;exact h
   |true=>simp only [hb,cond_true,Bool.and_eq_true] at h;exact h.2
  |_=>exact h
 |[],_ :: _,_,h=>h.elim
 |_ :: _,[],_,h=>h.elim
theorem Ms{X:mt}{st:St}{G:Gh}{w:World}(hm:aB X st G w){o:Nat}(h:st.dM o=none):(∀ p,X.pin o≠some p)∧∀ j u,X.bv o j≠some u:=
 ⟨fun p hp=>(by obtain⟨⟨ls,h1⟩,_⟩:=hm.pin o p hp;rw [h] at h1;cases h1),fun j u hu=>(by obtain⟨_,⟨ls,h1,_⟩,_⟩:=hm.bv o j u hu;rw [h] at h1;cases h1)⟩
include hE
theorem Sp{st:St}{G:Gh}{T:TypeId}{a sz i off:Nat}{v:ae}{vx vv:Value}{K:St→Option R}(h:tH E T a sz i off v st K=some r)(hm:aB X st G w)(hx:aY G (.C6 a sz i off) vx)(hv:aU G v vv)(hw:FL st v):
  ∃ st' G' w',(Instr.storeAt T vx vv).run P w = .ok () w'∧aB X st' G' w'∧(∀ act,bL G st act→bL G' st' act)∧K st' = some r:=by
 unfold tH at h;split at h
 ·rename_i ti vs A hT hl hA
  cases hc:(Nat.beq vs.length ti.size && vs.all ag.cell && Nat.beq sz A.t.size) with
  |false=>simp [hc] at h
  |true=>
   simp only [hc,cond_true] at h;simp only [Bool.and_eq_true] at hc;obtain⟨⟨jI,sC⟩,mA⟩:=hc;have jI:=Nat.eq_of_beq_eq_true jI;have mA:=Nat.eq_of_beq_eq_true mA;subst mA;have hti:=hE T ti hT;split at h
   ·rename_i ux
    obtain⟨s1,G1,O,h⟩:=Qx h hm;obtain⟨b1,b2,b3,b4,b5,b6,b7⟩:=O.ix;have ab7:s1.dA a=st.dA a:=by simp only [St.dA,b7]
    have ht:∀ off u,off < A.t.size→uZ G1 a (st.dA a) A.t.size i off u→u=G1.ψ (Kz a (st.dA a) off):=fun off u ho hu=>O.aau A off u hA ho hu;obtain⟨m2,h⟩:=SY h O.Ff (by rw [ab7];exact ht)
    generalize hs2:({s1 with cf:=(pD s1.cf []).map fun p=>(p.1,p.2.map (qv a (s1.dA a) A.t.size))}:St)=s2 at m2 h
    cases hth:wq a (st.dA a) A.t.size i vs with
    |false=>simp [hth] at h
    |true=>
     simp only [hth,cond_true] at h;split at h
     ·rename_i ls ho
      split at h
      ·rename_i c hs
       cases hb:c.any ag.py with
       |true=>simp [hb] at h
       |false=>
        simp only [hb,cond_false] at h;have E7:=S1 ht hth (mr O.Ff hl (O.val v vv hw hv));have hxp:aY G1 (.mW (obN a (st.dA a)) off) vx:=(O.mW off vx).2 ⟨A,hA,hx⟩;obtain⟨w',iy,m3⟩:=Pf (w:=w) hti m2 (by rw [List.length_map];exact jI) (Wu sC) E7 ho hs hb hxp
        obtain⟨hp1,GE⟩:=Ms hm O.none;obtain⟨s4,G4,m4,r4,_,hK⟩:=PG h m3 hp1 GE;refine⟨s4,G4,w',iy,m4,fun act ra=>r4 act ?_,hK⟩;have r1:=O.ez act ra;rw [←hs2];exact⟨r1.1,r1.2.1,r1.2.2⟩
      ·cases h
     ·cases h
   ·rename_i j o ux
    cases wS:(Nat.beq j i && Nat.ble 10000 o) with
    |false=>simp [wS] at h
    |true=>
     simp only [wS,cond_true] at h;simp only [Bool.and_eq_true] at wS;obtain rfl:=Nat.eq_of_beq_eq_true wS.1;have ZH:=Nat.le_of_ble_eq_true wS.2;split at h
     ·rename_i ls ho
      split at h
      ·rename_i c hs
       cases hb:c.any ag.py with
       |true=>simp [hb] at h
       |false=>
        simp only [hb,cond_false] at h;have jG:=rA hA;cases dn:A.sh with
        |true=>
         have sy:=hm.ar a A jG;exfalso;unfold Af at h;rw [show look (st.qn o (ml ls off vs)).cK a=some A from hA,kC,if_pos rfl] at h
         simp only [ux,dn] at h;simp at h
        |false=>
         have sy:=hm.ar a A jG;unfold oM at sy;simp only [dn,Bool.false_eq_true,if_false,ux] at sy;obtain⟨cap,Hp,Hq,rest,H5,k1,k2,k3,k4,k5,k6,k7,k8,k9⟩:=sy;have hxp:aY G (.mW o off) vx:=by obtain⟨b,len,cap',g1,g2,rfl⟩:=hx;rw [k1] at g1;cases g1;simp only [aY,k7]
         obtain⟨w',iy,m3⟩:=Pf (w:=w) hti hm jI sC (mr hm hl hv) ho hs hb hxp;obtain⟨s4,G4,m4,r4,_,hK⟩:=PG h m3 (fun p hp=>by have:=X.pl o p hp;omega) (fun j u hu=>by have:=X.bl o j u hu;omega)
         exact⟨s4,G4,w',iy,m4,fun act ra=>r4 act ⟨ra.1,ra.2.1,ra.2.2⟩,hK⟩
      ·cases h
     ·cases h
   ·cases h
 ·cases h
omit hE in
theorem aB.afs{X:mt}{st:St}{G:Gh}{w w':World}(hm:aB X st G w){a b:Nat}{A A':jF}{o o':Obj}(hA:st.arr a=some A)(hs:A.sh=false)(Bk:A'.sh=false)(hn:A'.nest=false)(hH:G.HA a = [(b,o)])
  (L9:∀ G':Gh,G'.S=G.S→G'.ψ a=G.ψ a→G'.HA a = [(b,o')]→oM G' a A') (hw:w'.heap[b]? = some o') (hwo:∀ k,k≠b→w'.heap[k]? = w.heap[k]?) (mA:w'.heap.size=w.heap.size) (hos:w'.os=w.os) (htp:w'.tape=w.tape) (xF:w'.output=w.output):
  ∃ G',aB X (st.gJ a A') G' w'∧(∀ act,bL G st act→bL G' (st.gJ a A') act):=by
 let G1:Gh:={G with HA:=fun q=>if q=a then [(b,o')] else G.HA q}
 have NA:eW G st (true,a) b:=⟨⟨A,hA,hs⟩,(b,o),by rw [hH];simp,rfl⟩
 have Nf:vJ X st (st.gJ a A') G G1 w w' (fun y=>y=(true,a)) (fun y=>y=(true,a)) []:=by
  refine {
     n:=rfl,ii:=fun _=>rfl,bl:=rfl,pn:=rfl,S:=rfl,bM:=fun lf v _ hr=>aY.leF (G:=G) (G':=G1) (F:=[]) (fun _ _ h=>h) (fun _ _=>⟨rfl,rfl⟩) (fun q _=>⟨rfl,Nat.le_refl _,fun _ _=>rfl⟩) (by simp) hr,fm:=fun y hy=>(by cases hy),sl:=hm.sl,dM:=fun q ls hq=>.inr ⟨by simp,by simp,hq,rfl,rfl,rfl⟩,arr:=fun q B hq=>?_,
     pe:=fun y c hy hyo=>?_,pX:=fun y z c hy hz _ _=>hy.trans hz.symm,hv:=hm.hv,old:=fun c hc hn=>hwo c fun e=>hn (true,a) rfl (by rw [e];exact NA),sz:=by rw [mA];exact Nat.le_refl _,os:=hos,tp:=htp,out:=xF,TY:=fun q ls hq _=>⟨hq,by simp⟩,TX:=fun q B hp hq=>⟨?_,rfl⟩}
  ·rw [dG] at hq
   by_cases e:a=q
   ·subst e
    simp only [if_true,Option.some.injEq] at hq;subst hq;refine .inl ⟨rfl,L9 G1 rfl rfl (by simp [G1]),fun _=>⟨fun p hp=>?_,by simp [G1],fun gY=>by rw [hn] at gY;cases gY⟩⟩
    simp only [G1,if_true,List.mem_singleton] at hp;rw [hp];exact hw
   ·simp only [e,if_false] at hq
    have gY:q≠a:=fun h=>e h.symm;exact .inr ⟨by simp [gY],hq,rfl,by simp [G1,gY],fun _=>by simp [gY],rfl,fun _ _ _=>⟨rfl,rfl,rfl⟩⟩
  ·subst hy
   obtain⟨_,p,hp,rfl⟩:=hyo;simp only [G1,if_true,List.mem_singleton] at hp;exact .inl ⟨(true,a),rfl,by rw [hp];exact NA⟩
  ·rw [dG]
   by_cases e:a=q
   ·exact⟨_,by rw [if_pos e]⟩
   ·exact⟨B,by rw [if_neg e];exact hq⟩
 exact⟨G1,Nf.ok hm,fun act=>Nf.ez⟩
theorem Sq{st:St}{G:Gh}{T:TypeId}{a k n:Nat}{v:ae}{vx vv:Value}{K:St→Option R}(h:tI E T a k v st K=some r)(hm:aB X st G w)(hx:aY G (.KL a k n) vx)(hv:aU G v vv):
  ∃ st' G' w',(Instr.storeAt T vx vv).run P w = .ok () w'∧aB X st' G' w'∧(∀ act,bL G st act→bL G' st' act)∧K st' = some r:=by
 unfold tI at h;split at h
 ·rename_i ti l A hT hl hA
  cases hc:(Nat.beq ti.size 1 && l.cell && !A.sh && Md.lc A.md .arr && Nat.beq A.t.size 1 && !A.t.agg && A.t.yk) with
  |false=>rw [hc] at h;cases h
  |true=>
   rw [hc,cond_true] at h;simp only [Bool.and_eq_true,Bool.not_eq_true'] at hc;obtain⟨⟨⟨⟨⟨⟨hts,sC⟩,dn⟩,ux⟩,mA⟩,hag⟩,hns⟩:=hc;have hts:=Nat.eq_of_beq_eq_true hts;have mA:=Nat.eq_of_beq_eq_true mA;have ux:=Md.ww ux;split at h
   ·rename_i d hd
    obtain⟨x0,hx0,h⟩:=Option.bind_eq_some_iff.1 h;have hi:A.l[k]? = some x0:=by simpa [bH] using hx0
    have jG:=rA hA;have E7:=mr hm hl hv;obtain⟨b,g1,hvx⟩:=hx;obtain⟨b',arr,elem,e1,e2,e3⟩:=FM dn ux (hm.ar a A jG);rw [g1] at e1;cases e1;have sU:=hm.ah a A jG dn (b,Obj.cells arr elem (0,0)) (by rw [e2];simp)
    obtain⟨pre,cc,post,Hp,Hc,Hq,k1,k2,k3,k4,k5⟩:=RepL.at (fun c x H hr=>gc.size hr) e3 hi;obtain⟨u,hu⟩:∃ u,vv.cells.toList = [u]:=by
     have:=E7.length
     match hvv:vv.cells.toList,this with
     |[u],_=>exact⟨u,rfl⟩
    rw [hu] at E7;have Ao:gc G.S false A.t [u] d []:=LV hm hag hd E7.1;have Ga:vv.cells.size=ti.size:=by rw [hts,←Array.length_toList,hu];rfl
    have afK:k < arr.size:=by
     have ma:=gc.size k4;have:arr.size=pre.length + (cc.length + post.length):=by rw [←Array.length_toList,k1];simp
     have hpk:pre.length=k:=by rw [k2,mA,Nat.mul_one]
     omega
    have RT:∀ v∈vv.cells.toList,v.oneCell' = true:=by rw [hu];exact DX hm (ls:=[l]) (by simpa using sC) E7
    have wA:k + vv.cells.size≤arr.size:=by omega
    obtain⟨arr',g2,g3,g4,g5,g6,g7,g8⟩:=nQ b vv.cells.toList k w sU (by simpa using wA)
    have hrl:=k5 [u] d [] Ao;have hH0:Hp = []∧Hc = []∧Hq = []:=by have e:=List.append_eq_nil_iff.1 k3.symm;have e':=List.append_eq_nil_iff.1 e.2;exact⟨e.1,e'.1,e'.2⟩
    have qY:arr'.toList=pre ++ ([u] ++ post):=by
     have ma:cc.length=1:=by rw [gc.size k4,mA]
     rw [g3,hu,k1];have hpk:pre.length=k:=by rw [k2,mA,Nat.mul_one]
     match cc,ma with
     |[c0],_=>rw [←hpk];simp
    obtain⟨G2,m2,r2⟩:=hm.afs (A':=⟨A.t,.arr,false,A.l.set k d⟩) (o':=Obj.cells arr' elem (0,0)) jG dn rfl rfl e2 (fun G' h1 h2 h3=>⟨b,arr',elem,h2.trans g1,h3,by
     rw [qY,h1];have:=hrl;rw [hH0.1,hH0.2.2] at this;exact this⟩) g2 g4 g5 g6 g7 g8
    exact⟨_,G2,_,by rw [hvx];exact zh (hE T ti hT) Ga (AV sU wA) RT,m2,r2,h⟩
   ·cases h
 ·cases h
theorem Sr{st:St}{G:Gh}{T:TypeId}{x v:ae}{vx vv:Value}{K:St→Option R}(h:tJ E T x v st K=some r)(hm:aB X st G w)(hx:aU G x vx)(hv:aU G v vv)(hw:FL st v):
  ∃ st' G' w',(Instr.storeAt T vx vv).run P w = .ok () w'∧aB X st' G' w'∧(∀ act,bL G st act→bL G' st' act)∧K st' = some r:=by
 unfold tJ at h;split at h
 ·rename_i a sz i off hn
  unfold U0 at hn;split at hn
  ·rename_i a' sz' i' acs hl
   have Oz:x = .one (.C6 a' sz' i' acs):=by cases x<;>simp [ae.bM] at hl;rw [hl]
   split at hn
   ·rename_i A hA
    cases hs:A.sh with
    |true=>simp [hs] at hn
    |false=>
     simp only [hs,cond_false] at hn;have e:(a',sz',i',acs)=(a,sz,i,off):=by
      split at hn
      ·exact Option.some.inj hn
      ·exact Option.some.inj hn
      ·cases hn
     simp only [Prod.mk.injEq] at e;obtain⟨rfl,rfl,rfl,rfl⟩:=e;rw [Oz] at hx;exact Sp hE h hm hx hv hw
   ·cases hn
  ·cases hn
 ·split at h
  ·rename_i a k ha
   unfold abt at ha;split at ha
   ·rename_i a' k' n' hl
    cases ha;rw [show x = .one (.KL a k n') by cases x<;>simp [ae.bM] at hl;rw [hl]] at hx
    exact Sq hE (n:=n') h hm hx hv
   ·cases ha
  ·exact TV hE h hm hx hv
omit hE in
theorem xu{st:St}{dst:Nat}{C:List Nat}{N:jF}(hb:∀ c∈C,look st.fN c=none)(q:Nat):({st with cK:=(dst,N) :: kT C st.cK}:St).arr q=if q=dst then some N else if q∈C then none else st.arr q:=by
 simp only [St.arr,aw,yU];by_cases e:dst=q
 ·simp [e]
 ·have hq:q≠dst:=fun h=>e h.symm
  simp only [e,hq,if_false];by_cases e2:q∈C
  ·simp [e2,hb q e2]
  ·simp [e2]
omit hE in
theorem JL{st:St}{G:Gh}(hm:aB X st G w){t:Ty}:∀{ps:List (Nat×ae)} {vs:List (Nat×Value)} {k:Nat} {l:List t.ng} {c:List Nat},tL t k ps st=some (l,c)→All2 (fun(p:Nat×ae) (q:Nat×Value)=>p.1=q.1∧aU G p.2 q.2) ps vs→
  RepL (gc G.S true t) (vs.map fun p=>p.2.cells.toList).flatten l (c.flatMap G.HA)∧l.length=vs.length∧(∀(i:Nat) q,vs[i]? = some q→q.1=k + i∧q.2.cells.size=t.size)∧∀ q∈c,GU st q
 |[],[],k,l,c,h,_=>by simp only [tL,Option.some.injEq,Prod.mk.injEq] at h;obtain⟨rfl,rfl⟩:=h;exact⟨⟨rfl,rfl⟩,rfl,fun i q hq=>by simp at hq,fun q hq=>by cases hq⟩
 |(j,v) :: ps,(j',u) :: vs,k,l,c,h,hp=>by
  simp only [tL] at h;cases hb:Nat.beq k j with
  |false=>simp [hb] at h
  |true=>
   simp only [hb,cond_true] at h;have hkj:=Nat.eq_of_beq_eq_true hb;split at h
   ·rename_i ls hl
    split at h
    ·rename_i d c0 hT
     split at h
     ·rename_i l' c' adL
      simp only [Option.some.injEq,Prod.mk.injEq] at h;obtain⟨rfl,rfl⟩:=h;obtain⟨c1,c2,e0,g1,g2,g3⟩:=U6 hm hT (mr hm hl hp.1.2)
      match c2,g2 with
      |[],_=>
      rw [List.append_nil] at e0;obtain⟨r1,r2,r3,r4⟩:=JL hm adL hp.2;refine⟨⟨c1,_,c0.flatMap G.HA,c'.flatMap G.HA,by simp [e0],by rw [List.flatMap_append],g1,r1⟩,by simp [r2],fun i q hq=>?_,fun q hq=>?_⟩
      ·cases i with
       |zero=>
        simp only [List.getElem?_cons_zero,Option.some.injEq] at hq;subst hq;refine⟨by have h1:=hp.1.1;simp only at h1 ⊢;omega,?_⟩
        have:=gc.size g1;rw [←e0] at this;simpa using this
       |succ i=>
        obtain⟨z1,z2⟩:=r3 i q (by simpa using hq)
        exact⟨by omega,z2⟩
      ·rcases List.mem_append.1 hq with hq | hq
       ·exact g3 q hq
       ·exact r4 q hq
     ·cases h
    ·cases h
   ·cases h
 |[],_ :: _,_,_,_,_,hp=>hp.elim
 |_ :: _,[],_,_,_,_,hp=>hp.elim
omit hE in
theorem Z6{st:St}{c:List Nat}(h:∀ q∈c,GU st q):(∀ q∈c,(∃ A,st.arr q=some A∧A.sh=false)∧eV q st.pin=false)∧∀ q∈c,look st.fN q=none:=
 ⟨fun q hq=>by obtain⟨A,h1,h2,h3,_⟩:=h q hq;exact⟨⟨A,rA h1,h2⟩,h3⟩,fun q hq=>by obtain⟨_,_,_,_,h4⟩:=h q hq;exact h4⟩
theorem Jh{st:St}{G:Gh}{T:TypeId}{dst len:Nat}{ig:List (Nat×ae)}{vs:List (Nat×Value)}{K:ae→St→Option R}(h:kJ E T dst len ig st K=some r)(hm:aB X st G w)
  (hp:All2 (fun(p:Nat×ae) (q:Nat×Value)=>p.1=q.1∧aU G p.2 q.2) ig vs):
  ∃ av v st' G' w',(Instr.buildSlice T len vs.toArray).run P w = .ok v w'∧aB X st' G' w'∧(∀ act,bL G st act→bL G' st' act)∧aU G' av v∧K av st' = some r:=by
 unfold kJ at h;split at h
 ·rename_i s b y e z hT
  cases zy:E.iw e with
  |none=>simp [zy] at h
  |some ei=>
   simp only [zy] at h;cases hy:ei.ty with
   |none=>simp [hy] at h
   |some t=>
    simp only [hy] at h;cases hc:(Nat.beq len ig.length && Nat.beq ei.size t.size && Nat.ble (len * ei.size) 16777216) with
    |false=>simp [hc] at h
    |true=>
     simp only [hc,cond_true] at h;simp only [Bool.and_eq_true] at hc;obtain⟨⟨KS,wS⟩,L0⟩:=hc;have KS:=Nat.eq_of_beq_eq_true KS;have wS:=Nat.eq_of_beq_eq_true wS;have L0:=Nat.le_of_ble_eq_true L0;split at h
     ·rename_i l c hsp ha
      cases zB:(st.cZ true dst || !nR c) with
      |true=>simp [zB] at h
      |false=>
       simp only [zB,cond_false] at h;simp only [Bool.or_eq_false_iff,Bool.not_eq_false'] at zB;obtain⟨zB,Hx⟩:=zB;have Hx:=Ea Hx;obtain⟨r1,l1,z1,o1⟩:=JL hm hsp hp;obtain⟨oc1,oc2⟩:=Z6 o1;have Bj:vs.length=len:=by rw [KS,hp.length]
       have hu:=(hE T _ hT).slice;obtain⟨i,d,zz,i1,i2,i3,i4,i5,i6,i7,i8,i9,_⟩:=hE e ei zy;have ma:(vs.map fun p=>p.2.cells.toList).flatten.length=len * t.size:=by rw [RepL.size (fun c x H hr=>gc.size hr) r1,l1,Bj]
       let zc:Array Value:=if len * ei.size=0 then #[] else zz.cells
       let Qb:List Value:=((Array.range (len * ei.size)).map (zc[· % zc.size]!)).toList
       have EJ:Qb.length=len * ei.size:=by simp [Qb]
       have L4:=LP ei.size vs 0 Qb (fun j p hp=>by
        obtain⟨g1,g2⟩:=z1 j p hp;exact⟨g1,by rw [g2,wS]⟩) (by rw [Nat.zero_add,Bj,EJ];exact Nat.le_refl _)
       rw [Nat.zero_add,Bj,Nat.zero_mul,List.take_zero,List.nil_append,List.drop_of_length_le (by rw [EJ];exact Nat.le_refl _),List.append_nil] at L4
       let blk:Obj:=.cells (vs.map fun p=>p.2.cells.toList).flatten.toArray e (0,0);have Nz:∀ p∈c.flatMap G.HA,p.1 < w.heap.size∧w.heap[p.1]? = some p.2:=fun p hp=>by obtain⟨q,hq,hp⟩:=List.mem_flatMap.1 hp;obtain⟨⟨A,hA,hs⟩,_⟩:=oc1 q hq;have:=hm.ah q A hA hs p hp;exact⟨fW this,this⟩
       have Hv:kf (RepL (gc G.S true t)) t.size [.slice (some ⟨w.heap.size,0,none⟩) l.length len] l ((w.heap.size,blk) :: c.flatMap G.HA):=
        .inr ⟨w.heap.size,len,(vs.map fun p=>p.2.cells.toList).flatten.toArray,e,(vs.map fun p=>p.2.cells.toList).flatten,[],c.flatMap G.HA,rfl,rfl,by simp,by rw [List.size_toArray,ma];exact Nat.le_refl _,by rw [l1,Bj];exact Nat.le_refl _,r1⟩
       obtain⟨G2,m2,r2,hv2,_⟩:=hm.tn (w':=w.alloc blk) (dst:=dst) (C:=c) (A':=⟨t,.bR,false,l⟩) (hd:=.slice (some ⟨w.heap.size,0,none⟩) l.length len) (HH:=(w.heap.size,blk) :: c.flatMap G.HA)
        (st':={st with cK:=(dst,⟨t,.bR,false,l⟩) :: kT c st.cK}) oc1 rfl rfl
        Hv
        (by
         rw [List.map_cons,List.nodup_cons];refine⟨fun gX=>?_,FX hm Hx fun q hq=>(oc1 q hq).1⟩;obtain⟨p,hp,e⟩:=List.mem_map.1 gX;have:=(Nz p hp).1;simp only at e;omega)
        (fun p hp=>by
         rcases List.mem_cons.1 hp with rfl | hp
         ·exact .inr (Nat.le_refl _)
         ·obtain⟨q,hq,hp⟩:=List.mem_flatMap.1 hp
          exact .inl ⟨q,hq,p,hp,rfl⟩)
        (fun p hp=>by
         rcases List.mem_cons.1 hp with rfl | hp
         ·exact uq w _
         ·rw [iM w _ (Nz p hp).1];exact(Nz p hp).2)
        (fun b hb _=>iM w _ hb) (by rw [sf];omega) rfl rfl rfl (qU.cK _ _) (xu oc2) ha zB
       refine⟨_,_,_,G2,_,?_,m2,r2,hv2,h⟩;have h24:¬ (2 ^ 24 < len * i.size):=by rw [i3];omega
       have mA:=(hE e ei zy).size w;have Dg:(Array.range (len * ei.size)).map (zc[· % zc.size]!)=Qb.toArray:=(Array.toArray_toList (xs:=(Array.range (len * ei.size)).map (zc[· % zc.size]!))).symm
       by_cases h0:len * ei.size=0
       ·have hzc:zc = #[]:=by simp [zc,h0]
        rw [hzc] at Dg;simp only [Instr.buildSlice,Sem.run_bind,run_underlying hu,Result.andThen_ok,mA,Sem.run_ite,if_neg (show ¬ (len * ei.size > 2 ^ 24) by omega),h0,if_true,Sem.run_pure]
        rw [h0] at Dg;rw [Dg];simp only [L4];simp [newRow,l1,Bj,blk]
       ·have hzc:zc=zz.cells:=by simp [zc,h0]
        rw [hzc] at Dg;simp only [Instr.buildSlice,Sem.run_bind,run_underlying hu,Result.andThen_ok,mA,Sem.run_ite,if_neg (show ¬ (len * ei.size > 2 ^ 24) by omega),h0,if_false,Sem.run_pure,zeroValue,typeInfo,run_program,i1,i5]
        rw [Dg];simp only [L4];simp [newRow,l1,Bj,blk]
     ·cases h
 ·cases h
end ops
end Go.Fx
namespace Go.Fx
theorem PK{A:jF}(h:A.md.lc .bR=true):A.md = .bR:=Md.ww h
section ops
variable {P:Program} {E:sd} (hE:iD P E.iw) {X:mt} {w:World} {R:Type} {r:R}
include hE
set_option maxHeartbeats 2000000 in
theorem Qn{st:St}{G:Gh}{T ty:TypeId}{dst b:Nat}{x:ae}{vx vy:Value}{K:ae→St→Option R}(h:qJ E T dst x b st K=some r)(hm:aB X st G w)(hx:aU G x vx)(hy:aY G (.mu b) vy):
  ∃ av v st' G' w',(Builtin.append_ #[T,T] ty #[vx,vy]).run P w = .ok v w'∧aB X st' G' w'∧(∀ act,bL G st act→bL G' st' act)∧aU G' av v∧K av st' = some r:=by
 unfold qJ at h;split at h
 ·rename_i s bb0 y' e z hT
  cases zy:E.iw e with
  |none=>simp [zy] at h
  |some ei=>
   simp only [zy] at h;split at h
   ·rename_i t B hty hB KT
    cases hc:(Nat.beq ei.size t.size && Nat.ble ei.bytes 16384 && !(B.sh || !Md.lc B.md .bR ||(look st.fN b).isSome || eV b st.pin || st.cZ true dst)) with
    |false=>rw [hc] at h;cases h
    |true=>
     simp only [hc,cond_true] at h;simp only [Bool.and_eq_true,Bool.not_eq_true',Bool.or_eq_false_iff,Bool.not_eq_false'] at hc;obtain⟨⟨q1,q2⟩,⟨⟨⟨IY,hBm⟩,hBb⟩,hBp⟩,zB⟩:=hc;have q1:=Nat.eq_of_beq_eq_true q1;have q2:=Nat.le_of_ble_eq_true q2;have hBb:look st.fN b=none:=by simpa using hBb
     split at h
     ·rename_i m E8
      obtain⟨ety,hm0⟩:=lu E8;have adh:=PK hBm;obtain⟨Bt,Bmd,Bsh,Bl⟩:=B;simp only [Ty.slice.injEq] at ety;subst ety;simp only at hm0 IY adh;subst hm0 IY adh;have hu:=(hE T _ hT).slice;obtain⟨i,d,zz,i1,i2,i3,i4,i5,i6,i7,i8,i9,_⟩:=hE e ei zy;have hzs:zz.cells.size=i.size:=by rw [i3,←i9,←i6];simp
      have Ov:st.arr b=some ⟨Bt,.bR,false,m⟩:=rA hB;have aeI:=(gW rfl rfl).1 (hm.ar b _ Ov);have hvy:vy=G.ψ b:=hy;have Yz:(∃ A,st.arr b=some A∧A.sh=false)∧eV b st.pin=false:=⟨⟨_,Ov,rfl⟩,hBp⟩;have qY:(m = []∧G.HA b = []∧vy = .slice none 0 0)∨∃(bb cap:Nat) (arr:Array Value) (elem:TypeId) (cells:List Value) (rest:List Value) (H':gf),vy = .slice (some ⟨bb,0,none⟩) m.length cap∧G.HA b=(bb,Obj.cells arr elem (0,0)) :: H'∧
        RepL (gc G.S true Bt) cells m H'∧(∀ j u,cells[j]? = some u→w.cell? ((⟨bb,0,none⟩:Addr).add j)=some u):=by
       rcases aeI with ⟨e1,e2,e3⟩ |⟨bb,cap,arr,elem,cells,rest,H',e1,e2,e3,e4,e5,e6⟩
       ·simp only [List.cons.injEq,and_true] at e3
        exact .inl ⟨e1,e2,hvy.trans e3⟩
       ·simp only [List.cons.injEq,and_true] at e1
        have sU:=hm.ah b _ Ov rfl (bb,Obj.cells arr elem (0,0)) (by rw [e2];simp)
        refine .inr ⟨bb,cap,arr,elem,cells,rest,H',hvy.trans e1,e2,e6,fun j u hj=>?_⟩;rw [Addr.add_mid];exact nS (pre:=[]) sU (by simpa using e3) rfl j u hj
      have P5:∀{news:List Value} {H:gf},RepL (gc G.S true Bt) news m H→news.length=m.length * i.size:=fun hr=>by rw [RepL.size (fun c x H hr=>gc.size hr) hr,i3,q1]
      have low:∀{q:Nat},((∃ A,st.arr q=some A∧A.sh=false)∧eV q st.pin=false)→∀ p∈G.HA q,p.1 < w.heap.size∧w.heap[p.1]? = some p.2:=fun {q} hq p hp=>by obtain⟨⟨A,hA,hs⟩,_⟩:=hq;have:=hm.ah q A hA hs p hp;exact⟨fW this,this⟩
      have E5:∀(C:List Nat) (rr:List Bt.ng),b∈C→C.Nodup→(∀ c∈C,((∃ A,st.arr c=some A∧A.sh=false)∧eV c st.pin=false))→(∀ c∈C,look st.fN c=none)→(∀ c∈C,c≠b→G.HA c = [])→lq ([]:List Bt.ng) m=some rr→
        ∃ v G' w',(Builtin.append_ #[T,T] ty #[.slice none 0 0,vy]).run P w = .ok v w'∧aB X {st with cK:=(dst,⟨Bt,.bR,false,rr⟩) :: kT C st.cK} G' w'∧(∀ act,bL G st act→bL G' {st with cK:=(dst,⟨Bt,.bR,false,rr⟩) :: kT C st.cK} act)∧aU G' (.one (.mu dst)) v:=by
       intro C rr hbC hnC hC hCb hCe Kq;obtain⟨jI,ab3⟩:=CU Kq;have ab4:m=rr:=ab3.symm;subst ab4;rcases qY with ⟨rfl,hH,rfl⟩ |⟨bb,cap,arr,elem,cells,rest,H',rfl,hH,Ao,sC⟩
       ·obtain⟨G',m',r',hv,_⟩:=hm.tn (w':=w) (dst:=dst) (C:=C) (A':=⟨Bt,.bR,false,[]⟩) (hd:=.slice none 0 0) (HH:=[]) (st':={st with cK:=(dst,⟨Bt,.bR,false,[]⟩) :: kT C st.cK}) hC rfl rfl
         (.inl ⟨rfl,rfl,rfl⟩) List.nodup_nil (fun p hp=>by cases hp) (fun p hp=>by cases hp) (fun _ _ _=>rfl) (Nat.le_refl _) rfl rfl rfl (qU.cK _ _) (xu hCb) KT zB
        exact⟨_,G',w,oE hu i1 none none 0 0 0 (Nat.le_refl _),m',r',hv⟩
       ·by_cases vO:0 < m.length
        ·simp only [List.length_nil,Nat.zero_add] at jI
         have h48:m.length * i.bytes≤281474976710656:=by
          have:m.length * i.bytes≤4294967296 * 16384:=Nat.mul_le_mul jI (by rw [i4];exact q2)
          omega
         have iy:=run_append_nil (P:=P) w T ty e i zz hu i1 i5 ⟨bb,0,none⟩ m.length cap cells (P5 Ao) sC vO (by omega) h48
         have Ks:=grownCap_ge w m.length 0 e;let blk:Obj:=.cells (cells.toArray ++ Builtin.zeroCells zz.cells (grownCap w m.length 0 e - m.length)) e (0,0);have Hv:kf (RepL (gc G.S true Bt)) Bt.size [.slice (some ⟨w.heap.size,0,none⟩) m.length (grownCap w m.length 0 e)] m ((w.heap.size,blk) :: H'):=
          .inr ⟨w.heap.size,grownCap w m.length 0 e,_,e,cells,(Builtin.zeroCells zz.cells (grownCap w m.length 0 e - m.length)).toList,H',rfl,rfl,by simp,by
           rw [Array.size_append,size_zeroCells,hzs,List.size_toArray,P5 Ao,←Nat.add_mul,i3,q1];exact Nat.mul_le_mul_right _ (by omega),Ks,Ao⟩
         have XG:=hm.nd b _ Ov rfl;rw [hH,List.map_cons,List.nodup_cons] at XG;obtain⟨G',m',r',hv,_⟩:=hm.drew.tn (w':=w.drew.alloc blk) (dst:=dst) (C:=C) (A':=⟨Bt,.bR,false,m⟩) (hd:=.slice (some ⟨w.heap.size,0,none⟩) m.length (grownCap w m.length 0 e)) (HH:=(w.heap.size,blk) :: H')
          (st':={st with cK:=(dst,⟨Bt,.bR,false,m⟩) :: kT C st.cK}) hC rfl rfl Hv
          (by
           rw [List.map_cons,List.nodup_cons];refine⟨fun gX=>?_,XG.2⟩;obtain⟨p,hp,e⟩:=List.mem_map.1 gX;have:=(low Yz p (by rw [hH];exact List.mem_cons_of_mem _ hp)).1
           simp only at e;omega)
          (fun p hp=>by
           rcases List.mem_cons.1 hp with rfl | hp
           ·exact .inr (Nat.le_refl _)
           ·exact .inl ⟨b,hbC,p,by rw [hH];exact List.mem_cons_of_mem _ hp,rfl⟩)
          (fun p hp=>by
           rcases List.mem_cons.1 hp with rfl | hp
           ·exact uq w.drew _
           ·have:=low Yz p (by rw [hH];exact List.mem_cons_of_mem _ hp)
            rw [iM w.drew _ this.1];exact this.2)
          (fun b hb _=>iM w.drew _ hb) (by rw [sf];exact Nat.le_succ _) rfl rfl rfl (qU.cK _ _) (xu hCb) KT zB
         exact⟨_,G',_,iy,m',r',hv⟩
        ·have hm0:m = []:=by cases m<;>simp at vO ⊢
         subst hm0;obtain⟨G',m',r',hv,_⟩:=hm.tn (w':=w) (dst:=dst) (C:=C) (A':=⟨Bt,.bR,false,[]⟩) (hd:=.slice none 0 0) (HH:=[]) (st':={st with cK:=(dst,⟨Bt,.bR,false,[]⟩) :: kT C st.cK}) hC rfl rfl
          (.inl ⟨rfl,rfl,rfl⟩) List.nodup_nil (fun p hp=>by cases hp) (fun p hp=>by cases hp) (fun _ _ _=>rfl) (Nat.le_refl _) rfl rfl rfl (qU.cK _ _) (xu hCb) KT zB
         exact⟨_,G',w,oE hu i1 none _ 0 0 _ (Nat.le_refl _),m',r',hv⟩
      cases x with
      |agg ls=>simp [ae.bM] at h
      |JT ls=>simp [ae.bM] at h
      |zC t ls=>simp [ae.bM] at h
      |one l=>
       simp only [ae.bM] at h;cases l with
       |nil=>
        simp only at h;obtain⟨rr,Oy,h⟩:=Option.bind_eq_some_iff.1 h;have hvx:vx = .slice none 0 0:=hx;subst hvx;obtain⟨v,G',w',f1,f2,f3,f4⟩:=E5 [b] rr (List.mem_singleton.2 rfl) (by simp) (fun c hc=>by rw [List.mem_singleton.1 hc];exact Yz) (fun c hc=>by rw [List.mem_singleton.1 hc];exact hBb) (fun c hc gY=>absurd (List.mem_singleton.1 hc) gY) Oy
        exact⟨_,v,_,G',w',f1,f2,f3,f4,h⟩
       |mu a=>
        simp only at h;cases hA:look st.cK a with
        |none=>simp [hA] at h
        |some A=>
         simp only [hA] at h;cases L0:(A.sh || !Md.lc A.md .bR ||(look st.fN a).isSome || eV a st.pin || Nat.beq a b) with
         |true=>simp [L0] at h
         |false=>
          simp only [L0,cond_false] at h;simp only [Bool.or_eq_false_iff,Bool.not_eq_false'] at L0;obtain⟨⟨⟨⟨Ou,hAm⟩,hAb⟩,Nd⟩,hab⟩:=L0;have hAb:look st.fN a=none:=by simpa using hAb
          have hab:a≠b:=fun e=>by rw [e] at hab;simp at hab
          cases L1:vb (.slice A.t) (.slice Bt) A.l with
          |none=>simp [L1] at h
          |some l=>
           simp only [L1] at h;obtain⟨ety,hl⟩:=lu L1;have Xo:=PK hAm;obtain⟨At,Amd,Ash,Al⟩:=A;simp only [Ty.slice.injEq] at ety;subst ety;simp only at hl Ou Xo;subst hl Ou Xo;obtain⟨rr,Oy,hK⟩:=Option.bind_eq_some_iff.1 h;have jG:st.arr a=some ⟨At,.bR,false,l⟩:=rA hA;have sy:=(gW rfl rfl).1 (hm.ar a _ jG);have hvx:vx=G.ψ a:=hx;have acu:(∃ A,st.arr a=some A∧A.sh=false)∧eV a st.pin=false:=⟨⟨_,jG,rfl⟩,Nd⟩;have hC:∀ c∈[a,b],(∃ A,st.arr c=some A∧A.sh=false)∧eV c st.pin=false:=fun c hc=>by
            simp only [List.mem_cons,List.not_mem_nil,or_false] at hc;rcases hc with rfl | rfl
            ·exact acu
            ·exact Yz
           have hCb:∀ c∈[a,b],look st.fN c=none:=fun c hc=>by
            simp only [List.mem_cons,List.not_mem_nil,or_false] at hc;rcases hc with rfl | rfl
            ·exact hAb
            ·exact hBb
           have hnC:[a,b].Nodup:=by simp [hab]
           have aaM:∀ p∈G.HA a,∀ p'∈G.HA b,p.1≠p'.1:=fun p hp p' zK e=>by have:=hm.pX (true,a) (true,b) p.1 ⟨⟨_,jG,rfl⟩,p,hp,rfl⟩ ⟨⟨_,Ov,rfl⟩,p',zK,e.symm⟩;simp only [Prod.mk.injEq,true_and] at this;exact hab this
           rcases sy with ⟨e1,e2,e3⟩ |⟨ba,cap,arr,elem,cells,rest,Ha,e1,e2,e3,e4,e5,e6⟩
           ·simp only at e1
            subst e1;simp only [List.cons.injEq,and_true] at e3;rw [hvx,e3];obtain⟨v,G',w',f1,f2,f3,f4⟩:=E5 [a,b] rr (by simp) hnC hC hCb (fun c hc gY=>by
             simp only [List.mem_cons,List.not_mem_nil,or_false] at hc;rcases hc with rfl | rfl
             ·exact e2
             ·exact absurd rfl gY) Oy
            exact⟨_,v,_,G',w',f1,f2,f3,f4,hK⟩
           ·simp only [List.cons.injEq,and_true] at e1
            rw [hvx,e1];obtain⟨jI,rfl⟩:=CU Oy;have e6:RepL (gc G.S true At) cells l Ha:=e6;have e4:cap * At.size≤arr.size:=e4;have e5:l.length≤cap:=e5;have sU:=hm.ah a _ jG rfl (ba,Obj.cells arr elem (0,0)) (by rw [e2];simp)
            have ma:cells.length=l.length * At.size:=RepL.size (fun c x H hr=>gc.size hr) e6;have adA:=hm.nd a _ jG rfl;have XD:=adA;rw [e2,List.map_cons,List.nodup_cons] at XD;rcases Nat.eq_zero_or_pos m.length with hm0 | vO
            ·have hm0:m = []:=List.eq_nil_of_length_eq_zero hm0
             subst hm0;rw [List.append_nil] at hK;obtain⟨xb,xc,afc⟩:∃ xb xc,vy = .slice xb 0 xc:=by
              rcases qY with ⟨_,_,e⟩ |⟨bb,cap,_,_,_,_,_,e,_⟩
              ·exact⟨_,_,e⟩
              ·exact⟨_,_,e⟩
             obtain⟨G',m',r',hv,_⟩:=hm.tn (w':=w) (dst:=dst) (C:=[a,b]) (A':=⟨At,.bR,false,l⟩) (hd:=.slice (some ⟨ba,0,none⟩) l.length cap) (HH:=G.HA a) (st':={st with cK:=(dst,⟨At,.bR,false,l⟩) :: kT [a,b] st.cK}) hC rfl rfl
              (.inr ⟨ba,cap,arr,elem,cells,rest,Ha,rfl,e2,e3,e4,e5,e6⟩) adA (fun p hp=>.inl ⟨a,by simp,p,hp,rfl⟩) (fun p hp=>(low acu p hp).2) (fun _ _ _=>rfl) (Nat.le_refl _) rfl rfl rfl (qU.cK _ _) (xu hCb) KT zB
             exact⟨_,_,_,G',w,by rw [afc];exact oE hu i1 _ _ _ _ _ e5,m',r',hv,hK⟩
            ·rcases qY with ⟨hm0,_,_⟩ |⟨bb,acU,afQ,afG,news,afH,Hb,rfl,hHb,Ao,sC⟩
             ·rw [hm0] at vO;simp at vO
             have XG:=hm.nd b _ Ov rfl;rw [hHb,List.map_cons,List.nodup_cons] at XG;have inB:∀ p∈Hb,p∈G.HA b:=fun p hp=>by rw [hHb];exact List.mem_cons_of_mem _ hp
             have inA:∀ p∈Ha,p∈G.HA a:=fun p hp=>by rw [e2];exact List.mem_cons_of_mem _ hp
             have aaY:((Ha ++ Hb).map (·.1)).Nodup:=by rw [List.map_append,List.nodup_append];refine⟨XD.2,XG.2,fun x1 h1 x2 h2 e=>?_⟩;obtain⟨p,hp,rfl⟩:=List.mem_map.1 h1;obtain⟨p',zK,rfl⟩:=List.mem_map.1 h2;exact aaM p (inA p hp) p' (inB p' zK) e
             have Yd:∀ p∈Ha ++ Hb,p.1 < w.heap.size∧w.heap[p.1]? = some p.2:=fun p hp=>by
              rcases List.mem_append.1 hp with hp | hp
              ·exact low acu p (inA p hp)
              ·exact low Yz p (inB p hp)
             have Xk:∀ p∈Ha ++ Hb,∃ c∈[a,b],∃ q∈G.HA c,q.1=p.1:=fun p hp=>by
              rcases List.mem_append.1 hp with hp | hp
              ·exact⟨a,by simp,p,inA p hp,rfl⟩
              ·exact⟨b,by simp,p,inB p hp,rfl⟩
             by_cases Ma:l.length + m.length≤cap
             ·have wA:0 + l.length * i.size + news.length≤arr.size:=by
               rw [P5 Ao,Nat.zero_add,←Nat.add_mul,i3,q1];exact Nat.le_trans (Nat.mul_le_mul_right _ Ma) e4
              have hth:=AV sU wA;have iy:=run_append_room_cells (P:=P) w T ty e i hu i1 ba 0 l.length cap ⟨bb,0,none⟩ m.length acU news (P5 Ao) sC (RepL.one (fun c x H hr=>gc.one hr) Ao) Ma
               (fun j hj=>(hth j hj).1) (fun j hj=>(hth j hj).2)
              obtain⟨arr',g1,g2,g3,g4,g5,g6,g7⟩:=nQ ba news (0 + l.length * i.size) w sU wA;have PZ:arr'.toList=(cells ++ news) ++ arr.toList.drop (0 + l.length * i.size + news.length):=by
               rw [g2];have:arr.toList.take (0 + l.length * i.size)=cells:=by rw [e3,Nat.zero_add,i3,q1,←ma];simp
               rw [this];simp
              have XP:arr'.size=arr.size:=by rw [←Array.length_toList,g2];simp;omega
              have gY:∀ p∈Ha ++ Hb,p.1≠ba:=fun p hp e=>by
               rcases List.mem_append.1 hp with hp | hp
               ·exact XD.1 (by show ba∈_;rw [←e];exact List.mem_map_of_mem (f:=(·.1)) hp)
               ·exact aaM (ba,Obj.cells arr elem (0,0)) (by rw [e2];simp) p (inB p hp) e.symm
              obtain⟨G',m',r',hv,_⟩:=hm.tn (w':=w.setCells ba (0 + l.length * i.size) news) (dst:=dst) (C:=[a,b]) (A':=⟨At,.bR,false,l ++ m⟩) (hd:=.slice (some ⟨ba,0,none⟩) (l ++ m).length cap) (HH:=(ba,Obj.cells arr' elem (0,0)) :: (Ha ++ Hb)) (st':={st with cK:=(dst,⟨At,.bR,false,l ++ m⟩) :: kT [a,b] st.cK}) hC rfl rfl
               (.inr ⟨ba,cap,arr',elem,cells ++ news,_,Ha ++ Hb,rfl,rfl,PZ,by rw [XP];exact e4,by simpa using Ma,e6.append Ao⟩)
               (by
                rw [List.map_cons,List.nodup_cons];refine⟨fun gX=>?_,aaY⟩;obtain⟨p,hp,e⟩:=List.mem_map.1 gX;exact gY p hp e)
               (fun p hp=>by
                rcases List.mem_cons.1 hp with rfl | hp
                ·exact .inl ⟨a,by simp,(ba,Obj.cells arr elem (0,0)),by rw [e2];simp,rfl⟩
                ·exact .inl (Xk p hp))
               (fun p hp=>by
                rcases List.mem_cons.1 hp with rfl | hp
                ·exact g1
                ·rw [g3 _ (gY p hp)];exact(Yd p hp).2)
               (fun k hk hn=>g3 k fun e=>hn a (by simp) (ba,Obj.cells arr elem (0,0)) (by rw [e2];simp) e.symm) (by rw [g4];exact Nat.le_refl _) g5 g6 g7 (qU.cK _ _) (xu hCb) KT zB
              simp only [List.length_append] at hv;exact⟨_,_,_,G',_,iy,m',r',hv,hK⟩
             ·have holds:∀ j u,cells[j]? = some u→w.cell? ((⟨ba,0,none⟩:Addr).add j)=some u:=fun j u hj=>by
               rw [Addr.add_mid];exact nS (pre:=[]) sU (by simpa using e3) rfl j u hj
              have hby:(l.length + m.length) * i.bytes≤140737488355328:=by
               have:(l.length + m.length) * i.bytes≤4294967296 * 16384:=Nat.mul_le_mul jI (by rw [i4];exact q2)
               omega
              have wA:=growslice_fits (need:=l.length + m.length) (old:=cap) (bytes:=i.bytes) (by omega) hby
              have iy:=run_append_grow (P:=P) w T ty e i zz hu i1 i5 ⟨ba,0,none⟩ l.length cap cells (by rw [ma,i3,q1]) holds ⟨bb,0,none⟩ m.length acU news (P5 Ao) sC (by omega) (by omega) wA
              have Ks:=grownCap_ge w (l.length + m.length) cap e;let blk:Obj:=.cells (cells.toArray ++ news.toArray ++ Builtin.zeroCells zz.cells (grownCap w (l.length + m.length) cap e - (l.length + m.length))) e (0,0);have Hv:kf (RepL (gc G.S true At)) At.size [.slice (some ⟨w.heap.size,0,none⟩) (l ++ m).length (grownCap w (l.length + m.length) cap e)] (l ++ m) ((w.heap.size,blk) :: (Ha ++ Hb)):=
               .inr ⟨w.heap.size,grownCap w (l.length + m.length) cap e,_,e,cells ++ news,(Builtin.zeroCells zz.cells (grownCap w (l.length + m.length) cap e - (l.length + m.length))).toList,Ha ++ Hb,rfl,rfl,by simp,by
                rw [Array.size_append,Array.size_append,size_zeroCells,hzs,List.size_toArray,List.size_toArray,P5 Ao,ma,i3,q1,←Nat.add_mul,←Nat.add_mul];exact Nat.mul_le_mul_right _ (by omega),by simpa using Ks,e6.append Ao⟩
              obtain⟨G',m',r',hv,_⟩:=hm.drew.tn (w':=w.drew.alloc blk) (dst:=dst) (C:=[a,b]) (A':=⟨At,.bR,false,l ++ m⟩) (hd:=.slice (some ⟨w.heap.size,0,none⟩) (l ++ m).length (grownCap w (l.length + m.length) cap e)) (HH:=(w.heap.size,blk) :: (Ha ++ Hb))
               (st':={st with cK:=(dst,⟨At,.bR,false,l ++ m⟩) :: kT [a,b] st.cK}) hC rfl rfl Hv
               (by
                rw [List.map_cons,List.nodup_cons];refine⟨fun gX=>?_,aaY⟩;obtain⟨p,hp,e⟩:=List.mem_map.1 gX;have:=(Yd p hp).1;simp only at e;omega)
               (fun p hp=>by
                rcases List.mem_cons.1 hp with rfl | hp
                ·exact .inr (Nat.le_refl _)
                ·exact .inl (Xk p hp))
               (fun p hp=>by
                rcases List.mem_cons.1 hp with rfl | hp
                ·exact uq w.drew _
                ·have:=Yd p hp
                 rw [iM w.drew _ this.1];exact this.2)
               (fun b hb _=>iM w.drew _ hb) (by rw [sf];exact Nat.le_succ _) rfl rfl rfl (qU.cK _ _) (xu hCb) KT zB
              simp only [List.length_append] at hv;exact⟨_,_,_,G',_,iy,m',r',hv,hK⟩
       |_=>simp at h
     ·cases h
   ·cases h
 ·cases h
theorem Qo{st:St}{G:Gh}{T ty:TypeId}{dst:Nat}{x y:ae}{vx vy:Value}{K:ae→St→Option R}(h:qK E T dst x y st K=some r)(hm:aB X st G w)(hx:aU G x vx)(hy:aU G y vy)(hwx:FL st x)(hwy:FL st y):
  ∃ av v st' G' w',(Builtin.append_ #[T,T] ty #[vx,vy]).run P w = .ok v w'∧aB X st' G' w'∧(∀ act,bL G st act→bL G' st' act)∧aU G' av v∧K av st' = some r:=by
 unfold qK at h;split at h
 ·rename_i b hb
  unfold W7 at hb;split at hb
  ·rename_i b' hl
   have hye:y = .one (.mu b'):=by cases y<;>simp [ae.bM] at hl;rw [hl]
   split at hb
   ·rename_i B hB
    cases hc:(!B.sh && Md.lc B.md .bR) with
    |false=>simp [hc] at hb
    |true=>simp only [hc,cond_true,Option.some.injEq] at hb;subst hb;rw [hye] at hy;exact Qn hE h hm hx hy
   ·cases hb
  ·cases hb
 ·split at h
  ·rename_i a v sz i off hl
   have Oz:x = .one (.Eb a v sz i off):=by cases x<;>simp [ae.bM] at hl;rw [hl]
   cases hc:(Nat.beq v (st.dA a) && Nat.blt off sz && QL st a sz) with
   |false=>rw [hc] at h;cases h
   |true=>
    rw [hc,cond_true] at h;simp only [Bool.and_eq_true] at hc;obtain⟨⟨hv,V0⟩,mA⟩:=hc;obtain rfl:=Nat.eq_of_beq_eq_true hv;rw [Nat.blt_eq] at V0;unfold QL at mA;split at mA
    ·rename_i A hA
     obtain rfl:=Nat.eq_of_beq_eq_true mA;obtain⟨s1,G1,O,h⟩:=Qx h hm;obtain⟨b1,b2,b3,b4,b5,b6,b7⟩:=O.ix;have ab7:s1.dA a=st.dA a:=by simp only [St.dA,b7]
     have ht:∀ off u,off < A.t.size→uZ G1 a (st.dA a) A.t.size i off u→u=G1.ψ (Kz a (st.dA a) off):=fun off u ho hu=>O.aau A off u hA ho hu;obtain⟨m2,h⟩:=SY h O.Ff (by rw [ab7];exact ht)
     generalize hs2:({s1 with cf:=(pD s1.cf []).map fun p=>(p.1,p.2.map (qv a (s1.dA a) A.t.size))}:St)=s2 at m2 h
     have hx1:aU G1 (.one (.mu (Kz a (st.dA a) off))) vx:=by have:=O.val x vx hwx hx;rw [Oz] at this;exact ht off vx V0 this
     obtain⟨av,v,st',G',w',k1,k2,k3,k4,k5⟩:=JI hE (ty:=ty) h m2 hx1 (O.val y vy hwy hy);refine⟨av,v,st',G',w',k1,k2,fun act ra=>k3 act ?_,k4,k5⟩;have r1:=O.ez act ra;rw [←hs2];exact⟨r1.1,r1.2.1,r1.2.2⟩
    ·cases mA
  ·exact JI hE h hm hx hy
theorem Ie{S:CS}:∀{t:Ty} {d:t.ng} {cs:List Value} {H:gf} {off:Nat} {n:Int},t.rE=true→gc S true t cs d H→Ci t d off=some n→∃ b k c,cs[off]? = some (.slice b k c)∧n=(k:Int)
 |.slice u,d,cs,H,off,n,_,h,hn=>by
  cases off with
  |succ k=>simp [Ci] at hn
  |zero=>
   simp only [Ci,Option.some.injEq] at hn;rcases h with ⟨e1,_,e⟩ |⟨b,cap,arr,elem,cells,rest,H',e,_⟩
   ·subst e;exact⟨none,0,0,rfl,by rw [←hn,e1];rfl⟩
   ·subst e;exact⟨_,_,_,rfl,hn.symm⟩
 |.cY a b,d,cs,H,off,n,hna,h,hn=>by
  simp only [Ty.rE,Bool.and_eq_true] at hna;obtain⟨c1,c2,H1,H2,rfl,rfl,h1,h2⟩:=h;have hl:=gc.size h1;simp only [Ci] at hn;cases hb:Nat.blt off a.size with
  |true=>simp only [hb,cond_true] at hn;rw [Nat.blt_eq] at hb;obtain⟨bb,k,c,g1,g2⟩:=Ie hna.1 h1 hn;exact⟨bb,k,c,by rw [List.getElem?_append_left (by omega)];exact g1,g2⟩
  |false=>
   simp only [hb,cond_false] at hn;have hb:¬ off < a.size:=fun h=>by
    have:Nat.blt off a.size=true:=by rw [Nat.blt_eq];exact h
    rw [this] at hb;cases hb
   obtain⟨bb,k,c,g1,g2⟩:=Ie hna.2 h2 hn;exact⟨bb,k,c,by rw [List.getElem?_append_right (by omega),hl];exact g1,g2⟩
 |.one a,d,cs,H,off,n,hna,h,hn=>by exact Ie (t:=a) hna h hn
 |.int _,_,_,_,off,_,_,_,hn=>by cases off<;>simp [Ci] at hn
 |.bool,_,_,_,off,_,_,_,hn=>by cases off<;>simp [Ci] at hn
 |.str,_,_,_,off,_,_,_,hn=>by cases off<;>simp [Ci] at hn
 |.arr _ _,_,_,_,_,_,hna,_,_=>by cases hna
end ops
end Go.Fx
namespace Go.Fx
def Ju(e:MapEntry)(p:an×Int):Prop:=e.key=kl p.1∧e.val = .int .i64 p.2
theorem LL{S:CS}:∀{es:List MapEntry} {l:List (an×Int)} {H:gf},RepL (gc S false mpT) (es.flatMap fun e=>[e.key,e.val]) l H→All2 Ju es l
 |[],[],_,_=>trivial
 |[],p :: l,H,⟨c1,c2,H1,H2,e1,_,r,_⟩=>by have:=gc.size r;have e:c1 = []:=(List.append_eq_nil_iff.1 e1.symm).1;rw [e] at this;cases this
 |e :: es,[],H,h=>by cases h.1
 |e :: es,p :: l,H,⟨c1,c2,H1,H2,e1,_,r,rl⟩=>by obtain⟨d1,d2,K1,K2,rfl,_,r1,r2⟩:=r;have h1:d1 = [kl p.1]:=r1.1;have h2:d2 = [.int .i64 p.2]:=r2.1;subst h1 h2;simp only [List.flatMap_cons,List.cons_append,List.nil_append,List.cons.injEq] at e1;obtain⟨g1,g2,rfl⟩:=e1;exact⟨⟨g1,g2⟩,LL rl⟩
theorem MS{S:CS}:∀{es:List MapEntry} {l:List (an×Int)},All2 Ju es l→RepL (gc S false mpT) (es.flatMap fun e=>[e.key,e.val]) l []
 |[],[],_=>⟨rfl,rfl⟩
 |e :: es,p :: l,h=>by refine⟨[e.key,e.val],_,[],[],rfl,rfl,⟨[kl p.1],[.int .i64 p.2],[],[],?_,rfl,⟨rfl,rfl⟩,⟨rfl,rfl⟩⟩,MS h.2⟩;rw [h.1.1,h.1.2];rfl
 |[],_ :: _,h=>h.elim
 |_ :: _,[],h=>h.elim
theorem Y7{a b:an}(h:kl a=kl b):a=b:=by simp only [kl,Value.string.injEq,ByteArray.mk.injEq] at h;exact List.toArray_inj h
theorem YZ(a b:an):Instr.sameNow .string (kl a) (kl b)=some (decide (b=a)):=by
 obtain⟨r,h1,h2⟩:=MapKept.sameNow_of_keys (d:=.string) (a:=kl a) (b:=kl b) trivial trivial;rw [h1];congr 1
 by_cases e:b=a
 ·subst e;simp [h2.2 rfl]
 ·have:r≠true:=fun hr=>e (Y7 (h2.1 hr)).symm
  simp [e,this]
theorem IR{s:an}:∀{es:List MapEntry} {l:List (an×Int)} {i:Nat},All2 Ju es l→
  (Instr.findNow .string (kl s) es i=some none∧qh l s=0∧∀ v,qI l s v=l ++ [(s,v)])∨
  ∃ j v e,Instr.findNow .string (kl s) es i=some (some (i + j,.int .i64 v))∧qh l s=v∧es[j]? = some e∧e.key=kl s∧∀ u,qI l s u=l.set j (s,u)
 |[],[],i,_=>.inl ⟨rfl,rfl,fun _=>rfl⟩
 |e :: es,p :: l,i,h=>by
  obtain⟨⟨hk,hv⟩,ht⟩:=h;have hs:=YZ s p.1;rw [←hk] at hs;by_cases hp:p.1=s
  ·simp only [hp,decide_true] at hs
   exact .inr ⟨0,p.2,e,by simp [Instr.findNow,hs,hv],by simp [qh,hp],rfl,by rw [hk,hp],fun u=>by simp [qI,hp]⟩
  ·simp only [hp,decide_false] at hs
   rcases IR (s:=s) (i:=i + 1) ht with ⟨h1,h2,h3⟩ |⟨j,v,e',h1,h2,h3,h4,h5⟩
   ·exact .inl ⟨by simp [Instr.findNow,hs,h1],by simp [qh,hp,h2],fun v=>by simp [qI,hp,h3]⟩
   ·exact .inr ⟨j + 1,v,e',by simp [Instr.findNow,hs,h1];omega,by simp [qh,hp,h2],by simpa using h3,h4,fun u=>by simp [qI,hp,h5]⟩
 |[],_ :: _,_,h=>h.elim
 |_ :: _,[],_,h=>h.elim
theorem Zw{es:List MapEntry}{l:List (an×Int)}(h:All2 Ju es l){j:Nat}{e:MapEntry}{p:an×Int}(he:Ju e p):All2 Ju (es.set j e) (l.set j p):=by
 induction es generalizing l j with
 |nil=>cases l with
  |nil=>simp [All2]
  |cons=>exact h.elim
 |cons x es ih=>cases l with
  |nil=>exact h.elim
  |cons y l=>
   cases j with
   |zero=>exact⟨he,h.2⟩
   |succ j=>exact⟨h.1,ih h.2⟩
section ops
variable {P:Program} {E:sd} (hE:iD P E.iw) {X:mt} {st:St} {G:Gh} {w:World} {R:Type} {r:R}
include hE
theorem UN{T:TypeId}(h:JH E T=true):∃ k v j,P.underlying T=some (.map k v)∧P.underlying k=some .string∧P.underlying v=some (.int .i64)∧P.info? v=some j∧j.zero=some (.int .i64 0):=by
 unfold JH at h;split at h
 ·rename_i s b y k v z hT
  obtain⟨i,d,zz,i1,i2,i3,i4,i5,i6,i7,i8,i9,i10,i11⟩:=hE T _ hT;obtain⟨j1,j2,j,j3,j4⟩:=i11 k v rfl;cases d with
  |map k' v'=>obtain⟨rfl,rfl⟩:=i7;exact⟨k,v,j,i2,j1,j2,j3,j4⟩
  |_=>exact i7.elim
 ·cases h
theorem Qr{T:TypeId}{dst:Nat}{K:ae→St→Option R}(h:qL E T dst st K=some r)(hm:aB X st G w):
  ∃ av v st' G' w',(Instr.makeMap T none).run P w = .ok v w'∧aB X st' G' w'∧(∀ act,bL G st act→bL G' st' act)∧aU G' av v∧K av st' = some r:=by
 unfold qL at h;split at h
 ·rename_i ha
  cases hc:(JH E T && !st.cZ true dst) with
  |false=>rw [hc] at h;cases h
  |true=>
   rw [hc,cond_true] at h;simp only [Bool.and_eq_true,Bool.not_eq_true'] at hc;obtain⟨G2,m2,r2,hv2,_⟩:=hm.Mi (w':=w.alloc (.map #[] 0)) (dst:=dst) (C:=[]) (A':=⟨mpT,.mp,false,[]⟩) (hd:=.map (some w.heap.size)) (HH:=[(w.heap.size,.map #[] 0)])
    (st':=st.gJ dst ⟨mpT,.mp,false,[]⟩) (fun c hc=>by cases hc) rfl (.inr (.inl ⟨_,rfl⟩)) (fun G' e1 e2 e3=>⟨w.heap.size,#[],0,e2,e3,rfl,rfl⟩) (by simp)
    (fun p hp=>by rw [List.mem_singleton.1 hp];exact .inr (Nat.le_refl _)) (fun p hp=>by rw [List.mem_singleton.1 hp];exact uq w _)
    (fun b hb _=>iM w _ hb) (by rw [sf];omega) rfl rfl rfl ⟨rfl,fun _=>rfl,fun _=>rfl,fun o j l=>by simp,rfl,rfl,rfl⟩
    (fun q=>by rw [dG];by_cases e:dst=q<;>simp [e,eq_comm (a:=q)]) ha hc.2
   exact⟨_,_,_,G2,_,rfl,m2,r2,hv2,h⟩
 ·cases h
theorem Yl{a:Nat}{A:jF}(hm:aB X st G w)(hA:st.arr a=some A)(hs:A.sh=false)(ux:A.md = .mp){l:List (an×Int)}(hc:vb (.slice A.t) (.slice mpT) A.l=some l):
  ∃ b es xz,G.ψ a = .map (some b)∧G.HA a = [(b,Obj.map es xz)]∧w.heap[b]? = some (.map es xz)∧All2 Ju es.toList l:=by
 obtain⟨ety,hl⟩:=lu hc;obtain⟨At,Amd,Ash,Al⟩:=A;simp only [Ty.slice.injEq] at ety;subst ety;simp only at hl hs ux;subst hl hs ux;obtain⟨b,es,xz,e1,e2,e3⟩:=hm.ar a _ hA;have sU:=hm.ah a _ hA rfl (b,Obj.map es xz) (by rw [e2];simp)
 exact⟨b,es,xz,e1,e2,sU,LL e3⟩
theorem Sm{T:TypeId}{x k:ae}{vx vk:Value}{K:ae→St→Option R}(h:tC E T x k st K=some r)(hm:aB X st G w)(hx:aU G x vx)(hk:aU G k vk):
  ∃ av v,(Instr.lookup T vx vk false).run P w = .ok v w∧aU G av v∧K av st=some r:=by
 unfold tC at h;split at h
 ·rename_i a s hl hs
  have Oz:x = .one (.mu a):=by cases x<;>simp [ae.bM] at hl;rw [hl]
  rw [Oz] at hx;have hx:vx=G.ψ a:=hx;cases Cj hs hk;split at h
  ·rename_i A hA
   cases hc:(JH E T && !A.sh && Md.lc A.md .mp) with
   |false=>rw [hc] at h;cases h
   |true=>
    rw [hc,cond_true] at h;simp only [Bool.and_eq_true,Bool.not_eq_true'] at hc;obtain⟨⟨hT,dn⟩,ux⟩:=hc;split at h
    ·rename_i l ma
     obtain⟨kt,vt,j,u1,u2,u3,u4,u5⟩:=UN hE hT;obtain⟨b,es,xz,e1,e2,e3,e4⟩:=Yl hE hm hA dn (Md.ww ux) ma;have F9:∀ em,(Instr.checkKey em 10000 kt (kl s)).run P w = .ok () w:=fun em=>MapKept.run_checkKey u2 (k:=kl s) trivial em 9999;rcases IR (s:=s) (i:=0) e4 with ⟨h1,h2,_⟩ |⟨j',v,e,h1,h2,_⟩
     ·refine⟨_,.int .i64 (qh l s),?_,kE _ _,h⟩
      rw [hx,e1,h2];simp [Instr.lookup,run_underlying u1,MapKept.run_getObj_map e3,F9,MapKept.run_findKey u2 h1,zeroValue,typeInfo,u4,u5,Result.andThen]
     ·refine⟨_,.int .i64 (qh l s),?_,kE _ _,h⟩
      rw [hx,e1,h2];simp [Instr.lookup,run_underlying u1,MapKept.run_getObj_map e3,F9,MapKept.run_findKey u2 h1,Result.andThen]
    ·cases h
  ·cases h
 ·cases h
theorem MG{T:TypeId}{x k v:ae}{vx vk vv:Value}{K:ae→St→Option R}(h:nH E T x k v st K=some r)(hm:aB X st G w)(hx:aU G x vx)(hk:aU G k vk)(hv:aU G v vv):
  ∃ st' G' w',(Instr.mapUpdate T vx vk vv).run P w = .ok () w'∧aB X st' G' w'∧(∀ act,bL G st act→bL G' st' act)∧K (.one .uW) st' = some r:=by
 unfold nH at h;split at h
 ·rename_i a s n hl hs hn
  have Oz:x = .one (.mu a):=by cases x<;>simp [ae.bM] at hl;rw [hl]
  rw [Oz] at hx;have hx:vx=G.ψ a:=hx;cases Cj hs hk;cases qc hn hv;split at h
  ·rename_i A hA
   cases hc:(JH E T && !A.sh && Md.lc A.md .mp) with
   |false=>rw [hc] at h;cases h
   |true=>
    rw [hc,cond_true] at h;simp only [Bool.and_eq_true,Bool.not_eq_true'] at hc;obtain⟨⟨hT,dn⟩,ux⟩:=hc;split at h
    ·rename_i l ma
     obtain⟨kt,vt,j,u1,u2,u3,u4,u5⟩:=UN hE hT;have jG:=rA hA;obtain⟨b,es,xz,e1,e2,e3,e4⟩:=Yl hE hm jG dn (Md.ww ux) ma;have F9:∀ em,(Instr.checkKey em 10000 kt (kl s)).run P w = .ok () w:=fun em=>MapKept.run_checkKey u2 (k:=kl s) trivial em 9999;have aff:∃ es' IL,(Instr.mapUpdate T (.map (some b)) (kl s) (.int .i64 n)).run P w = .ok () {w with heap:=w.heap.setIfInBounds b (.map es' IL)}∧All2 Ju es'.toList (qI l s n):=by
      rcases IR (s:=s) (i:=0) e4 with ⟨h1,_,h3⟩ |⟨j',u,e,h1,_,h3,h4,h5⟩
      ·refine⟨es.push {key:=kl s,val:=.int .i64 n,born:=xz},xz + 1,?_,?_⟩
       ·simp [Instr.mapUpdate,run_underlying u1,MapKept.run_getObj_map e3,F9,MapKept.run_findKey u2 h1,MapKept.run_setObj_map _ e3,Result.andThen]
       ·rw [h3,Array.toList_push]
        exact e4.append ⟨⟨rfl,rfl⟩,trivial⟩
      ·refine⟨es.modify j' fun e=>{e with key:=kl s,val:=.int .i64 n},xz,?_,?_⟩
       ·rw [Nat.zero_add] at h1
        have aeY:((es[j']?).map (·.key)).getD (kl s)=kl s:=by rw [←Array.getElem?_toList,h3];exact h4
        have wC:(Instr.keyThatStays (kl s) (kl s)).run P w = .ok (kl s) w:=MapKept.run_keyThatStays (d:=.string) (k:=kl s) trivial;simp only [Instr.mapUpdate,Sem.run_bind,run_underlying u1,Result.andThen_ok,MapKept.run_getObj_map e3,F9,MapKept.run_findKey u2 h1,aeY,wC,MapKept.run_setObj_map _ e3]
       ·rw [h5]
        have:(es.modify j' fun e=>{e with key:=kl s,val:=.int .i64 n}).toList=es.toList.set j' {e with key:=kl s,val:=.int .i64 n}:=by
         apply List.ext_getElem?;intro i;rw [Array.getElem?_toList,Array.getElem?_modify,List.getElem?_set];by_cases hi:j' = i
         ·subst hi
          have bo:=(List.getElem?_eq_some_iff.1 h3).1;rw [Array.getElem?_toList] at h3;simp only [if_true,h3,Option.map_some,bo]
         ·simp only [hi,if_false,Array.getElem?_toList]
        rw [this];exact Zw e4 ⟨rfl,rfl⟩
     obtain⟨es',IL,iy,aeQ⟩:=aff;obtain⟨hs1,hs2⟩:=MapKept.heap_set (o':=.map es' IL) e3;let G1:Gh:={G with HA:=fun q=>if q=a then [(b,Obj.map es' IL)] else G.HA q}
     have NA:eW G st (true,a) b:=⟨⟨A,jG,dn⟩,(b,Obj.map es xz),by rw [e2];simp,rfl⟩
     have Nf:vJ X st (st.gJ a ⟨mpT,.mp,false,qI l s n⟩) G G1 w {w with heap:=w.heap.setIfInBounds b (.map es' IL)} (fun y=>y=(true,a)) (fun y=>y=(true,a)) []:=by
      refine {
           n:=rfl,ii:=fun _=>rfl,bl:=rfl,pn:=rfl,S:=rfl,bM:=fun lf v _ hr=>aY.leF (G:=G) (G':=G1) (F:=[]) (fun _ _ h=>h) (fun _ _=>⟨rfl,rfl⟩) (fun q _=>⟨rfl,Nat.le_refl _,fun _ _=>rfl⟩) (by simp) hr,fm:=fun y hy=>(by cases hy),sl:=hm.sl,dM:=fun q ls hq=>.inr ⟨by simp,by simp,hq,rfl,rfl,rfl⟩,arr:=fun q B hq=>?_,
           pe:=fun y c hy hyo=>?_,pX:=fun y z c hy hz _ _=>hy.trans hz.symm,hv:=hm.hv,old:=fun c hc hn=>hs2 c fun e=>hn (true,a) rfl (by rw [e];exact NA),sz:=by simp,os:=rfl,tp:=rfl,out:=rfl,TY:=fun q ls hq _=>⟨hq,by simp⟩,TX:=fun q B hp hq=>⟨?_,rfl⟩}
      ·rw [dG] at hq
       by_cases e:a=q
       ·subst e
        simp only [if_true,Option.some.injEq] at hq;subst hq;refine .inl ⟨rfl,⟨b,es',IL,e1,by simp [G1],MS aeQ⟩,fun _=>⟨fun p hp=>?_,by simp [G1],fun gY=>by simp [jF.nest] at gY⟩⟩
        simp only [G1,if_true,List.mem_singleton] at hp;rw [hp];exact hs1
       ·simp only [e,if_false] at hq
        have gY:q≠a:=fun h=>e h.symm;exact .inr ⟨by simp [gY],hq,rfl,by simp [G1,gY],fun _=>by simp [gY],rfl,fun _ _ _=>⟨rfl,rfl,rfl⟩⟩
      ·subst hy
       obtain⟨_,p,hp,rfl⟩:=hyo;simp only [G1,if_true,List.mem_singleton] at hp;exact .inl ⟨(true,a),rfl,by rw [hp];exact NA⟩
      ·rw [dG]
       by_cases e:a=q
       ·exact⟨_,by rw [if_pos e]⟩
       ·exact⟨B,by rw [if_neg e];exact hq⟩
     exact⟨_,G1,_,by rw [hx,e1];exact iy,Nf.ok hm,fun act=>Nf.ez,h⟩
    ·cases h
  ·cases h
 ·cases h
theorem Rv{S:CS}{m:Bool}{t:Ty}:∀(n:Nat) {l r:List Value},LF (sZ t) n l=some r→∃ c,l=c ++ r∧RepL (gc S m t) c (List.replicate n (pH t)) []
 |0,l,r,h=>by simp only [LF,Option.some.injEq] at h;subst h;exact⟨[],rfl,rfl,rfl⟩
 |n + 1,l,r,h=>by
  simp only [LF] at h;cases h1:sZ t l with
  |none=>simp [h1] at h
  |some q=>simp only [h1] at h;obtain⟨c1,e1,g1⟩:=Em (S:=S) (m:=m) h1;obtain⟨c2,e2,g2⟩:=Rv n h;exact⟨c1 ++ c2,by rw [e1,e2];simp,c1,c2,[],[],rfl,rfl,g1,g2⟩
theorem Sg{T:TypeId}{dst:Nat}{K:ae→St→Option R}(h:rF E T dst st K=some r)(hm:aB X st G w){cs:Array Value}(hz:∀ ti,E.iw T=some ti→cs.toList=ti.zero):
  ∃ av st' G',aB X st' G' (w.alloc (.cells cs T))∧(∀ act,bL G st act→bL G' st' act)∧aU G' av (.pointer (some ⟨w.heap.size,0,none⟩))∧K av st' = some r:=by
 unfold rF at h;split at h
 ·rename_i ti hT ha
  split at h
  ·rename_i m e hd
   split at h
   ·rename_i t ht
    cases hc:(Nat.beq t.size 1 && !t.agg && !st.cZ true dst && X0 (LF (sZ t) ti.size ti.zero)) with
    |false=>rw [hc] at h;cases h
    |true=>
     rw [hc,cond_true] at h;have L2:=hc;simp only [Bool.and_eq_true,Bool.not_eq_true'] at L2;obtain⟨⟨⟨h1,h2⟩,h3⟩,h4⟩:=L2;have XU:RepL (gc G.S false t) cs.toList (List.replicate ti.size (pH t)) []:=by
      cases hcz:LF (sZ t) ti.size ti.zero with
      |none=>rw [hcz] at h4;cases h4
      |some q=>
       cases q with
       |cons=>rw [hcz] at h4;cases h4
       |nil=>obtain⟨c,e1,g1⟩:=Rv hE (S:=G.S) (m:=false) ti.size hcz;rw [List.append_nil] at e1;rw [hz ti hT,e1];exact g1
     obtain⟨G2,m2,r2,hv2,_⟩:=hm.Mi (w':=w.alloc (.cells cs T)) (dst:=dst) (C:=[]) (A':=⟨t,.arr,false,List.replicate ti.size (pH t)⟩) (hd:=.pointer (some ⟨w.heap.size,0,none⟩)) (HH:=[(w.heap.size,.cells cs T)])
      (st':=st.gJ dst ⟨t,.arr,false,List.replicate ti.size (pH t)⟩) (fun c hc=>by cases hc) rfl (.inr (.inr ⟨_,rfl⟩)) (fun G' e1 e2 e3=>⟨w.heap.size,cs,T,e2,e3,by rw [e1];exact XU⟩) (by simp)
      (fun p hp=>by rw [List.mem_singleton.1 hp];exact .inr (Nat.le_refl _)) (fun p hp=>by rw [List.mem_singleton.1 hp];exact uq w _)
      (fun b hb _=>iM w _ hb) (by rw [sf];omega) rfl rfl rfl ⟨rfl,fun _=>rfl,fun _=>rfl,fun o j l=>by simp,rfl,rfl,rfl⟩
      (fun q=>by rw [dG];by_cases e:dst=q<;>simp [e,eq_comm (a:=q)]) ha h3
     exact⟨_,_,G2,m2,r2,hv2,h⟩
   ·cases h
  ·cases h
 ·cases h
end ops
end Go.Fx
namespace Go.Fx
theorem Jy{S:CS}{m:Bool}:∀{cs:List Value} {l:List Int} {H:gf},RepL (gc S m (.int .u8)) cs l H→cs=l.map (Value.int .u8)
 |cs,[],H,h=>h.1
 |cs,x :: l,H,⟨c1,c2,H1,H2,e1,e2,r,rl⟩=>by rw [e1,Jy rl,show c1 = [.int .u8 x] from r.1];rfl
theorem VV(l:List Int):l.foldl (fun r n=>r.push (UInt8.ofNat n.toNat)) ByteArray.empty=⟨(l.map fun n=>UInt8.ofNat n.toNat).toArray⟩:=by
 have key:∀(l:List Int) (s:ByteArray),(l.foldl (fun r n=>r.push (UInt8.ofNat n.toNat)) s)=⟨(s.data.toList ++ l.map fun n=>UInt8.ofNat n.toNat).toArray⟩:=fun l=>by
  induction l with
  |nil=>intro s;simp
  |cons n l ih=>intro s;rw [List.foldl_cons,ih];simp [ByteArray.push]
 rw [key];simp
theorem O6{P:Program}{w:World}{S:CS}{b:Nat}{arr:Array Value}{elem:TypeId}{fz:Nat×Nat}{pre cells rest:List Value}{l:List Int}{m:Bool}{H:gf}(cap:Nat)
  (hb:w.heap[b]? = some (.cells arr elem fz)) (he:arr.toList=pre ++ (cells ++ rest)) (hr:RepL (gc S m (.int .u8)) cells l H):
  (Conv.bytesToString (.slice (some ⟨b,pre.length,none⟩) l.length cap)).run P w = .ok (kl (l.map fun n=>UInt8.ofNat n.toNat)) w:=by
 have hc:=Jy hr;subst hc;have hl:=run_loadCells_list (P:=P) w ⟨b,pre.length,none⟩ (l.map (Value.int .u8)) (fun j v hv=>by
  rw [Addr.add_mid];simp only [World.cell?,hb];have hj:j < l.length:=by have:=(List.getElem?_eq_some_iff.1 hv).1;simpa using this
  have:arr[pre.length + j]? = some v:=by
   rw [←Array.getElem?_toList,he,List.getElem?_append_right (by omega),Nat.add_sub_cancel_left,List.getElem?_append_left (by simpa using hj)]
   exact hv
  simp [this])
 rw [List.length_map] at hl;rw [run_bytesToString w _ _ cap l (by simpa using hl),VV];rfl
theorem Rm{P:Program}{w:World}{S:CS}(dn:∀ b o,S b=some o→w.heap[b]? = some o){v:Value}{l:List Int}(h:A7 S (RepL (gc S false (.int .u8))) [v] l []):
  ∃ a n c,v = .slice a n c∧(Conv.bytesToString v).run P w = .ok (kl (l.map fun n=>UInt8.ofNat n.toNat)) w:=by
 rcases h with ⟨_,⟨rfl,ix,cap,hb⟩ |⟨b,cap,arr,elem,fz,pre,cells,rest,e1,e2,e3,e4,e5⟩⟩
 ·simp only [List.cons.injEq,and_true] at hb
  subst hb;refine⟨_,_,_,rfl,?_⟩;cases ix with
  |none=>simp [Conv.bytesToString,kl];rfl
  |some a=>
   have hl:=run_loadCells_list (P:=P) w a [] (by simp)
   rw [run_bytesToString w a 0 cap [] (by simpa using hl)]
   rfl
 ·simp only [List.cons.injEq,and_true] at e1
  subst e1;exact⟨_,_,_,rfl,O6 cap (dn _ _ e2) e3 e4⟩
theorem VG{P:Program}{w:World}{S:CS}{m:Bool}{v:Value}{l:List Int}{H:gf}(hH:∀ p∈H,w.heap[p.1]? = some p.2)(h:kf (RepL (gc S m (.int .u8))) 1 [v] l H):
  ∃ a n c,v = .slice a n c∧(Conv.bytesToString v).run P w = .ok (kl (l.map fun n=>UInt8.ofNat n.toNat)) w:=by
 rcases h with ⟨rfl,rfl,hb⟩ |⟨b,cap,arr,elem,cells,rest,H',e1,e2,e3,e4,e5,e6⟩
 ·simp only [List.cons.injEq,and_true] at hb
  subst hb;exact⟨_,_,_,rfl,by simp [Conv.bytesToString,kl];rfl⟩
 ·simp only [List.cons.injEq,and_true] at e1
  subst e1;subst e2;exact⟨_,_,_,rfl,O6 (pre:=[]) cap (hH _ (List.mem_cons_self ..)) (by simpa using e3) e6⟩
section ops
variable {P:Program} {E:sd} (hE:iD P E.iw) {X:mt} {st:St} {G:Gh} {w:World} {R:Type} {r:R}
include hE
theorem HW{S D:TypeId}{x:ae}{vx:Value}{K:ae→St→Option R}(h:pC E S D x st K=some r)(hm:aB X st G w)(hx:aU G x vx):
  ∃ av v,(convert S D vx).run P w = .ok v w∧aU G av v∧K av st=some r:=by
 unfold pC at h;cases hS:E.iw S with
 |none=>simp [hS] at h
 |some si=>
  cases hD:E.iw D with
  |none=>simp [hS,hD] at h
  |some di=>
   simp only [hS,hD] at h;obtain⟨d1,u1,t1⟩:=(hE S _ hS).uW;obtain⟨d2,u2,t2⟩:=(hE D _ hD).uW;split at h
   ·rename_i k k' n hd
    rw [hd] at t2;cases d2<;>simp [yD] at t2;subst t2;cases qc (v:=.one (.eZ (.int k') n)) rfl hx;refine⟨_,_,?_,kE k _,h⟩;cases d1<;>simp [convert,run_underlying u1,run_underlying u2,Conv.intToInt]
   ·rename_i s hs hd
    rw [hd] at t2;rw [hs] at t1;cases d2<;>simp [yD] at t2;cases d1<;>simp [yD] at t1;cases Cj (v:=.one (.eZ .str s)) rfl hx;exact⟨_,_,by simp [convert,run_underlying u1,run_underlying u2,kl],Jo _,h⟩
   ·rename_i _ e lf hs hd
    rw [hd] at t2;rw [hs] at t1;cases d2<;>simp [yD] at t2;cases d1<;>simp [yD] at t1;subst t1;have sw:∀{l':List Int} {s b:Nat} {y:Option Ty} {z:List Value},E.iw e=some ⟨s,b,y,.int .u8,z⟩→(∃ a n c,vx = .slice a n c∧(Conv.bytesToString vx).run P w = .ok (kl (l'.map fun n=>UInt8.ofNat n.toNat)) w)→
      K (.one (.eZ .str (l'.map fun n=>UInt8.ofNat n.toNat))) st=some r→∃ av v,(convert S D vx).run P w = .ok v w∧aU G av v∧K av st=some r:=fun {l' _ _ _ _} hT hb hK=>by
     obtain⟨d3,u3,t3⟩:=(hE _ _ hT).uW;cases d3<;>simp [yD] at t3;subst t3;obtain⟨a,n,c,rfl,iy⟩:=hb;exact⟨_,_,by rw [run_convert_bytes_string w S D e a n c u1 u3 u2];exact iy,Jo _,hK⟩
    split at h
    ·rename_i l' hT
     obtain⟨cs,e1,e2⟩:=hx;simp only [Ty.agg,Bool.false_eq_true,if_false] at e1;subst e1;simp only [gc,Bool.false_eq_true,if_false] at e2;exact sw hT (Rm hm.sh e2) h
    ·rename_i a hT
     cases hA:st.arr a with
     |none=>simp [hA] at h
     |some A=>
      simp only [hA] at h;cases hsw:(A.sh || A.pe) with
      |false=>simp [hsw] at h
      |true=>
      simp only [hsw,cond_true] at h;split at h
      ·rename_i l' hc
       obtain⟨ec,el⟩:=lu hc;have sy:=hm.ar a _ hA;have hv:vx=G.ψ a:=hx;rw [hv] at sw ⊢;have hah:=hm.ah a _ hA;cases dn:A.sh with
       |true=>
        replace sy:=(wQ dn).1 sy
        obtain⟨t,dp,sh,ll⟩:=A;simp only [Ty.slice.injEq] at ec;subst ec;simp only at el;subst el;exact sw hT (Rm hm.sh sy) h
       |false=>
        replace sy:=(gW dn (by simpa [dn] using hsw)).1 sy
        replace hah:=hah dn
        generalize A.bR=dp at sy;obtain⟨t,_,sh,ll⟩:=A;simp only [Ty.slice.injEq] at ec;subst ec;simp only at el;subst el;exact sw hT (VG hah sy) h
      ·cases h
    ·cases h
   ·cases h
theorem K9{t:TypeId}{ts:List TypeId}{ty:TypeId}{v:Value}{vs:List Value}{s b:Nat}{y:Option Ty}{z:List Value}{e:TypeId}(hT:E.iw t=some ⟨s,b,y,.slice e,z⟩){a:Option Addr}{n c:Nat}(hv:v = .slice a n c):
  (Builtin.len_ (t :: ts).toArray ty (v :: vs).toArray).run P w = .ok (.int .i64 (n:Int)) w:=by
 have:=(hE _ _ hT).slice;subst hv;simp [Builtin.len_,run_underlying this];rfl
theorem Sl{x:ae}{n:Int}{v:Value}(h:lenOf st x.bM=some n)(hs:x.MZ = none)(hm:aB X st G w)(hx:aU G x v):∃ a m c,v = .slice a m c∧n=(m:Int):=by
 cases x with
 |one l=>
  cases l with
  |eZ t d=>
   cases t<;>simp [ae.bM,lenOf,ae.MZ] at h hs;subst h;obtain⟨cs,e1,e2⟩:=hx;simp only [Ty.agg,Bool.false_eq_true,if_false] at e1;subst e1;simp only [gc,Bool.false_eq_true,if_false] at e2;rcases e2 with ⟨_,⟨rfl,ix,cap,hb⟩ |⟨b,cap,arr,elem,fz,pre,cells,rest,e1,_⟩⟩
   ·simp only [List.cons.injEq,and_true] at hb;exact⟨_,_,_,hb,by simp⟩
   ·simp only [List.cons.injEq,and_true] at e1;exact⟨_,_,_,e1,rfl⟩
  |nil=>simp [ae.bM,lenOf] at h;subst h;exact⟨_,_,_,hx,rfl⟩
  |mu a=>
   simp only [ae.bM,lenOf] at h;cases hA:st.arr a with
   |none=>simp [hA] at h
   |some A=>
    cases hmp:A.TB with
    |true=>simp [hA,hmp] at h
    |false=>
    simp only [hA,hmp,cond_false,Option.some.injEq] at h;subst h;have sy:=hm.ar a A hA;have hv:v=G.ψ a:=hx;cases hs:A.sh with
    |true=>
     rcases(wQ hs).1 sy with ⟨_,⟨e0,ix,cap,hb⟩ |⟨b,cap,arr,elem,fz,pre,cells,rest,e1,_⟩⟩
     ·simp only [List.cons.injEq,and_true] at hb;exact⟨_,_,_,hv.trans hb,by rw [e0];simp⟩
     ·simp only [List.cons.injEq,and_true] at e1;exact⟨_,_,_,hv.trans e1,rfl⟩
    |false=>
     rcases G6 hs hmp sy with ⟨e0,hb⟩ |⟨b,cap,e1⟩
     ·exact⟨_,_,_,hv.trans hb,by rw [e0];simp⟩
     ·exact⟨_,_,_,hv.trans e1,rfl⟩
  |_=>simp [ae.bM,lenOf] at h
 |_=>simp [ae.bM,lenOf] at h
omit hE in
theorem LS{k:IntKind}:∀{vs:List ae} {us:List Value} {a n:Int},wx k (fun x y=>bif decide (y < x) then y else x) a vs=some n→All2 (aU G) vs us→
  (us.foldlM Builtin.min2 (.int k a)).run P w = .ok (.int k n) w
 |[],[],a,n,h,_=>by simp [wx] at h;subst h;simp
 |v :: vs,u :: us,a,n,h,hr=>by
  simp only [wx] at h;cases hv:v.EK with
  |none=>simp [hv] at h
  |some p=>obtain⟨k',b⟩:=p;simp only [hv] at h;cases qc hv hr.1;have:=LS h hr.2;rw [List.foldlM_cons,Sem.run_bind];simp only [Builtin.min2,Sem.run_pure,Result.andThen_ok];rw [←this];by_cases hb:b < a<;>simp [hb]
omit hE in
theorem LR{k:IntKind}:∀{vs:List ae} {us:List Value} {a n:Int},wx k (fun x y=>bif decide (y > x) then y else x) a vs=some n→All2 (aU G) vs us→
  (us.foldlM Builtin.max2 (.int k a)).run P w = .ok (.int k n) w
 |[],[],a,n,h,_=>by simp [wx] at h;subst h;simp
 |v :: vs,u :: us,a,n,h,hr=>by
  simp only [wx] at h;cases hv:v.EK with
  |none=>simp [hv] at h
  |some p=>obtain⟨k',b⟩:=p;simp only [hv] at h;cases qc hv hr.1;have:=LR h hr.2;rw [List.foldlM_cons,Sem.run_bind];simp only [Builtin.max2,Sem.run_pure,Result.andThen_ok];rw [←this];by_cases hb:b > a<;>simp [hb]
theorem OO{a vr sz i off:Nat}{A:jF}{u:Value}{x:A.t.ng}{n:Int}(hm:aB X st G w)(hr:aY G (.Eb a vr sz i off) u)(hA:st.arr a=some A)(hc:(A.sh || !Md.lc A.md .bR || !Nat.beq vr (st.dA a) || !Nat.beq sz A.t.size || !A.t.rE)=false)
  (hx:bH A.l (i:Int)=some x) (hn:Ci A.t x off=some n):∃ b m c,u = .slice b m c∧n=(m:Int):=by
 obtain⟨r1,⟨xb,xn,xc,hus⟩,⟨b0,afO,abB,r3,r4⟩,r5⟩:=hr;simp only [Bool.or_eq_false_iff,Bool.not_eq_false'] at hc;obtain⟨⟨⟨⟨dn,ux⟩,hvr⟩,mA⟩,hna⟩:=hc;have ux:=PK ux;obtain rfl:=Nat.eq_of_beq_eq_true hvr;obtain rfl:=Nat.eq_of_beq_eq_true mA;have hi:A.l[i]? = some x:=by simpa [bH] using hx
 have sy:=(gW dn (show A.pe=true by simp [jF.pe,ux])).1 (hm.ar a A hA)
 rw [show A.bR=true by simp [jF.bR,ux]] at sy
 rcases sy with ⟨e1,_⟩ |⟨b',cap',arr,elem,cells,rest,H',e1,e2,e3,e4,e5,e6⟩
 ·rw [e1] at hi;simp at hi
 ·have hhd:=hm.hh a A hA dn (by simp [jF.nest,ux])
  rw [e2] at hhd;obtain⟨pre,cc,post,Hp,Hc,Hq,k1,k2,k3,k4,k5⟩:=RepL.at (fun c x H hr=>gc.size hr) e6 hi;obtain⟨bb,kk,cc0,g1,g2⟩:=Ie hE hna k4 hn;have bo:=(List.getElem?_eq_some_iff.1 g1).1;rw [←hm.hv,hhd] at r5;simp only [ko] at r5;rw [e3,k1,←k2,List.append_assoc,List.getElem?_append_right (by omega),Nat.add_sub_cancel_left,List.append_assoc,List.getElem?_append_left bo,g1] at r5
  simp only [Option.some.injEq] at r5;exact⟨_,_,_,r5.symm,g2⟩
theorem Qp{b:Builtin}{dst:Nat}{ts:List TypeId}{ty:TypeId}{vs:List ae}{us:List Value}{cs:Array Bool}{K:ae→St→Option R}(h:np E b dst ts vs st K=some r)(hm:aB X st G w)(hv:All2 (aU G) vs us)(hw:∀ x∈vs,FL st x):
  ∃ av v st' G' w',(builtin b ts.toArray ty cs us.toArray).run P w = .ok (.value v) w'∧aB X st' G' w'∧(∀ act,bL G st act→bL G' st' act)∧aU G' av v∧K av st' = some r:=by
 unfold np at h;split at h
 ·rename_i v
  obtain⟨u,rfl⟩:∃ u,us = [u]:=by
   cases us with
   |nil=>exact hv.elim
   |cons u us=>cases us with
    |nil=>exact⟨u,rfl⟩
    |cons _ _=>exact hv.2.elim
  cases ts with
  |nil=>simp at h
  |cons t ts=>
   simp only [List.getElem?_cons_zero,Option.bind_some] at h;split at h
   ·rename_i hT
    split at h
    ·rename_i s hs
     cases Cj hs hv.1;have hu:=(hE _ _ hT).str;exact⟨_,_,st,G,w,by simp [builtin,Builtin.len_,run_underlying hu,kl,goInt];rfl,hm,fun _ h=>h,kE .i64 _,h⟩
    ·cases h
   ·rename_i hT
    split at h
    ·rename_i a vr sz i off hl
     have hr:=hv.1;rw [show v = .one (.Eb a vr sz i off) by cases v<;>simp [ae.bM] at hl;rw [hl]] at hr
     split at h
     ·rename_i A hA
      cases hc:(A.sh || !Md.lc A.md .bR || !Nat.beq vr (st.dA a) || !Nat.beq sz A.t.size || !A.t.rE) with
      |true=>rw [hc] at h;cases h
      |false=>
       rw [hc,cond_false] at h;obtain⟨x,hx,h⟩:=Option.bind_eq_some_iff.1 h;split at h
       ·rename_i n hn
        obtain⟨b,m,c,hv',rfl⟩:=OO hE hm hr hA hc hx hn;exact⟨_,_,st,G,w,by simp only [builtin,Sem.run_bind,K9 hE hT hv',Result.andThen_ok,Sem.run_pure],hm,fun _ h=>h,kE .i64 _,h⟩
       ·cases h
     ·cases h
    ·split at h
     ·rename_i n hn hs
      obtain⟨a,m,c,hv',rfl⟩:=Sl hE hn hs hm hv.1;exact⟨_,_,st,G,w,by simp only [builtin,Sem.run_bind,K9 hE hT hv',Result.andThen_ok,Sem.run_pure],hm,fun _ h=>h,kE .i64 _,h⟩
     ·cases h
   ·cases h
 ·rename_i s x
  split at h
  ·rename_i t u
   cases htu:Nat.beq t u with
   |false=>simp [htu] at h
   |true=>
    simp only [htu,cond_true] at h;obtain rfl:=Nat.eq_of_beq_eq_true htu;cases us with
    |nil=>exact hv.elim
    |cons u1 us=>
     cases us with
     |nil=>exact hv.2.elim
     |cons u2 us=>
      cases us with
      |cons _ _=>exact hv.2.2.elim
      |nil=>
       obtain⟨av,v,st',G',w',h1,h2,h3,h4,h5⟩:=Qo hE (ty:=ty) h hm hv.1 hv.2.1 (hw _ (by simp)) (hw _ (by simp))
       exact⟨av,v,st',G',w',by simp only [builtin,Sem.run_bind,h1,Result.andThen_ok,Sem.run_pure],h2,h3,h4,h5⟩
  ·cases h
 ·rename_i v vs
  cases us with
  |nil=>exact hv.elim
  |cons u us=>
   split at h
   ·rename_i k a hi
    split at h
    ·rename_i n hn
     cases qc hi hv.1;exact⟨_,_,st,G,w,by simp only [builtin,Builtin.min_,Sem.run_bind,LS hn hv.2,Result.andThen_ok,Sem.run_pure],hm,fun _ h=>h,kE _ _,h⟩
    ·cases h
   ·cases h
 ·rename_i v vs
  cases us with
  |nil=>exact hv.elim
  |cons u us=>
   split at h
   ·rename_i k a hi
    split at h
    ·rename_i n hn
     cases qc hi hv.1;exact⟨_,_,st,G,w,by simp only [builtin,Builtin.max_,Sem.run_bind,LR hn hv.2,Result.andThen_ok,Sem.run_pure],hm,fun _ h=>h,kE _ _,h⟩
    ·cases h
   ·cases h
 ·cases h
end ops
end Go.Fx
namespace Go.Fx
theorem TR{G:Gh}(v:Value):aU G (K4 v) v:=by
 unfold K4;split
 ·exact kE _ _
 ·exact oi _
 ·rename_i s
  have:kl s.data.toList = .string s:=by simp [kl]
  rw [←this];exact Jo _
 ·rfl
 ·rfl
 ·trivial
def m9(gt:Nat→Option GA)(S:CS):Prop:=∀ g D,gt g=some D→∃ arr elem fz,S g=some (.cells arr elem fz)∧RepL (gc S false D.t) arr.toList D.l []
theorem m9.mono{gt:Nat→Option GA}{S S':CS}(h:m9 gt S)(hS:∀ b o,S b=some o→S' b=some o):m9 gt S':=fun g D hg=>by obtain⟨arr,elem,fz,h1,h3⟩:=h g D hg;exact⟨arr,elem,fz,hS _ _ h1,h3.Dt hS⟩
theorem fB{E:sd}{G:Gh}{st:St}{act:Act}(hg:m9 E.gt G.S)(hr:bL G st act)(o:Operand):aU G (ev E st o) (act.eval o):=by
 cases o with
 |tmp t=>
  simp only [ev,Act.eval];cases h:st.ii t with
  |none=>trivial
  |some v=>exact hr.2.2 t v h
 |const v=>exact TR v
 |global g=>
  simp only [ev,Act.eval];cases h:E.gt g with
  |none=>trivial
  |some D=>obtain⟨arr,elem,fz,h1,h3⟩:=hg g D h;exact⟨g,arr,elem,fz,arr.toList,[],h1,by simp,h3,rfl⟩
 |func f=>rfl
theorem Oi{E:sd}{st:St}(o:Operand):FL st (ev E st o):=fun k y h=>by
 cases o with
 |tmp t=>
  simp only [ev];cases hr:st.ii t with
  |none=>rfl
  |some v=>exact AH h hr
 |const v=>simp only [ev,K4];split<;>rfl
 |global g=>simp only [ev];cases E.gt g<;>rfl
 |func f=>rfl
def z7(P:Program)(gt:Nat→Option GA)(f:FuncId)(s:iX):Prop:=
 ∀{R:Type} {r:R} {X:mt} {st:St} {G:Gh} {w:World} {dst:Nat} {args:List ae} {vs:List Value} {K KP:ae→St→Option R},
  s.run dst args st K KP=some r→m9 gt X.S0→aB X st G w→(∃ act,bL G st act)→All2 (aU G) args vs→
  (callFunc f vs.toArray).run P w = .ok (.enter f vs.toArray) w∧Calls P f vs.toArray w fun e w'=>match e with
   |.returned v=>∃ av st' G',aB X st' G' w'∧(∀ act,bL G st act→bL G' st' act)∧aU G' av v∧K av st' = some r
   |.panicked Hh=>∃ v,Hh = [{v,recovered:=false}]∧∃ av st' G',aB X st' G' w'∧aU G' av v∧KP av st' = some r
   |.outgrown=>False
theorem Qi{E:sd}{G:Gh}{st:St}{act:Act}(hg:m9 E.gt G.S)(hr:bL G st act):∀ l:List Operand,All2 (aU G) (l.map (ev E st)) (l.map act.eval)
 |[]=>trivial
 |x :: l=>⟨fB hg hr x,Qi hg hr l⟩
theorem HP{E:sd}{G:Gh}{st:St}{act:Act}(hg:m9 E.gt G.S)(hr:bL G st act):∀ l:List (Nat×Operand),All2 (fun(p:Nat×ae) (q:Nat×Value)=>p.1=q.1∧aU G p.2 q.2) (l.map fun p=>(p.1,ev E st p.2)) (l.map fun p=>(p.1,act.eval p.2))
 |[]=>trivial
 |x :: l=>⟨⟨rfl,fB hg hr x.2⟩,HP hg hr l⟩
section ops
variable {P:Program} {E:sd} (hE:iD P E.iw) (hS:∀ f s,E.AO f=some s→z7 P E.gt f s) {X:mt} {st:St} {G:Gh} {w:World} {R:Type} {r:R}
include hE hS
set_option maxHeartbeats 2000000 in
theorem Hm{o:Oper}{act:Act}{K KP:ae→St→Option R}(h:lS E o st K KP=some r)(yH:m9 E.gt X.S0)(hm:aB X st G w)(hr:bL G st act){next:Act→World→Prop}{Q:Exit→Act→World→Prop}
  (hK:∀ av v st' G' w',aB X st' G' w'→bL G' st' act→aU G' av v→K av st' = some r→next (act.put o.dst v) w')
  (hP:∀ av v st' G' w',aB X st' G' w'→aU G' av v→KP av st' = some r→Q (.panic [{v,recovered:=false}]) act w'):o.wp P act w next Q:=by
 have hg:m9 E.gt G.S:=yH.mono hm.s0;have kY:∀{s:Sem Value},(∃ av v,s.run P w = .ok v w∧aU G av v∧K av st=some r)→(execOp act.eval o=do pure (.value (←s)))→o.wp P act w next Q:=fun {s} ⟨av,v,h1,h2,h3⟩ he=>by unfold Oper.wp;rw [he,Sem.run_bind,h1];exact hK av v st G w hm hr h2 h3
 have full:∀{s:Sem Value},(∃ av v st' G' w',s.run P w = .ok v w'∧aB X st' G' w'∧(∀ act,bL G st act→bL G' st' act)∧aU G' av v∧K av st' = some r)→(execOp act.eval o=do pure (.value (←s)))→o.wp P act w next Q:=
  fun {s} ⟨av,v,st',G',w',h1,h2,h3,h4,h5⟩ he=>by
  unfold Oper.wp;rw [he,Sem.run_bind,h1];exact hK av v st' G' w' h2 (h3 _ hr) h4 h5
 unfold lS at h;split at h
 ·rename_i x ho
  exact kY (s:=pure (act.eval x)) ⟨_,_,rfl,fB hg hr x,h⟩ (by simp [execOp,ho])
 ·rename_i x ho
  exact kY (s:=pure (act.eval x)) ⟨_,_,rfl,fB hg hr x,h⟩ (by simp [execOp,ho])
 ·rename_i c a b ho
  cases hc:(ev E st c).EZ with
  |none=>simp [hc] at h
  |some b'=>
   simp only [hc] at h;have hb:=vL hc (fB hg hr c);unfold Oper.wp;simp only [execOp,ho,hb];cases b' with
   |true=>simp only [cond_true] at h;exact hK _ _ st G w hm hr (fB hg hr a) h
   |false=>simp only [cond_false] at h;exact hK _ _ st G w hm hr (fB hg hr b) h
 ·rename_i x ho
  have hx:=fB hg hr x;have key:(∃ a,act.eval x = .pointer (some a))→K (ev E st x) st=some r→o.wp P act w next Q:=fun⟨a,ha⟩ hk=>by unfold Oper.wp;simp only [execOp,ho,ha];exact hK _ _ st G w hm hr (by rw [←ha];exact hx) hk
  cases hv:ev E st x with
  |one l=>
   rw [hv] at h hx key;cases l with
   |mW ob off=>exact key ⟨_,hx⟩ (by simpa [ae.bM] using h)
   |C6 a sz i off=>obtain⟨b,len,cap,h1,h2,h3⟩:=hx;exact key ⟨_,h3⟩ (by simpa [ae.bM] using h)
   |N0 t d off=>obtain⟨b,arr,elem,fz,pre,cs,post,h1,h2,h3,h4⟩:=hx;exact key ⟨_,h4⟩ (by simpa [ae.bM] using h)
   |_=>simp [ae.bM] at h
  |_=>rw [hv] at h;simp [ae.bM] at h
 ·rename_i T ho
  cases hdp:E.Jz (Hk o.dst) with
  |true=>
   rw [hdp,cond_true] at h;have hT:∃ ti,E.iw T=some ti:=by
    cases hT:E.iw T with
    |none=>simp [rF,hT] at h
    |some ti=>exact⟨ti,rfl⟩
   obtain⟨ti,hT⟩:=hT;obtain⟨i,d,z,h1,h2,h3,h4,h5,h6,h7,h8,h9⟩:=hE T ti hT;obtain⟨av,st',G',m,rr,rv,hk⟩:=Sg hE (w:=w) (cs:=z.cells) h hm (fun ti' hT'=>by rw [hT] at hT';cases hT';exact h6)
   refine full (s:=Instr.alloc T true (.tuple #[])) ⟨av,_,st',G',_,?_,m,rr,rv,hk⟩ (by simp only [execOp,ho])
   simp [Instr.alloc,zeroValue,typeInfo,h1,h5,newVar,newRow]
  |false=>
  rw [hdp,cond_false] at h;cases hT:E.iw T with
  |none=>simp [hT] at h
  |some ti=>
   simp only [hT] at h;obtain⟨i,d,z,h1,h2,h3,h4,h5,h6,h7,h8,h9⟩:=hE T ti hT;obtain⟨av,st',G',m,rr,rv,hk⟩:=Sn (w:=w) (cs:=z.cells) h hm (by rw [h6];exact QU ti.zero)
   refine full (s:=Instr.alloc T true (.tuple #[])) ⟨av,_,st',G',_,?_,m,rr,rv,hk⟩ (by simp only [execOp,ho])
   simp [Instr.alloc,zeroValue,typeInfo,h1,h5,newVar,newRow]
 ·rename_i T x ho
  cases hl:(ev E st x).pF with
  |none=>simp [hl] at h
  |some ls=>
   simp only [hl] at h;obtain⟨av,st',G',m,rr,rv,hk⟩:=Sn (w:=w) (cs:=(act.eval x).cells) h hm (mr hm hl (fB hg hr x));refine full (s:=Instr.box T (act.eval x)) ⟨av,_,st',G',_,?_,m,rr,rv,hk⟩ (by simp only [execOp,ho])
   simp [Instr.box,newVar,newRow]
 ·rename_i T ig ho
  refine kY (Mz hE h hm (HP hg hr _)) ?_;have:(List.map (fun p=>(p.1,act.eval p.2)) ig.toList).toArray=ig.map fun(i,x)=>(i,act.eval x):=by rw [←Array.toList_map]
  rw [this];simp only [execOp,ho]
 ·rename_i T len ig ho
  have h':∃ av v st' G' w',(Instr.buildSlice T len ((ig.toList.map fun p=>(p.1,act.eval p.2)).toArray)).run P w = .ok v w'∧aB X st' G' w'∧(∀ act,bL G st act→bL G' st' act)∧aU G' av v∧K av st' = some r:=by
   cases hd:E.Jz (Hk o.dst) with
   |true=>rw [hd,cond_true] at h;exact Jh hE h hm (HP hg hr _)
   |false=>rw [hd,cond_false] at h;exact KA hE h hm (HP hg hr _)
  refine full h' ?_;have:(List.map (fun p=>(p.1,act.eval p.2)) ig.toList).toArray=ig.map fun(i,x)=>(i,act.eval x):=by rw [←Array.toList_map]
  rw [this];simp only [execOp,ho]
 ·rename_i T x ho
  exact kY (Jj hE h hm (fB hg hr x)) (by simp only [execOp,ho])
 ·rename_i T x v ho
  obtain⟨st',G',w',h1,h2,h3,h4⟩:=Sr hE h hm (fB hg hr x) (fB hg hr v) (Oi v);unfold Oper.wp;simp only [execOp,ho,Sem.run_bind,h1,Result.andThen_ok];exact hK _ _ st' G' w' h2 (h3 _ hr) (show aU G' (.one .uW) undef from rfl) h4
 ·rename_i op T x y u ho
  exact kY (Sh hE h hm (fB hg hr x) (fB hg hr y)) (by simp only [execOp,ho];rfl)
 ·rename_i op T x ho
  exact kY (U3 h (fB hg hr x)) (by simp only [execOp,ho])
 ·rename_i S D x ho
  exact kY (HW hE h hm (fB hg hr x)) (by simp only [execOp,ho])
 ·rename_i T l c ho
  exact full (MF hE h hm (fB hg hr l) (fB hg hr c)) (by simp only [execOp,ho])
 ·rename_i T x lo hi mx ho
  have opt:∀(q:Option Operand),(∀ a,q.map (ev E st)=some a→∃ v,q.map act.eval=some v∧aU G a v)∧(q.map (ev E st)=none→q.map act.eval=none):=fun q=>by
   cases q with
   |none=>simp
   |some x=>simp;exact fB hg hr x
  obtain⟨av,v,st',G',h1,h2,h3,h4,h5⟩:=MI hE h hm (fB hg hr x) (opt lo).1 (opt lo).2 (opt hi).1 (opt hi).2 (opt mx).2;exact full ⟨av,v,st',G',w,h1,h2,h3,h4,h5⟩ (by simp only [execOp,ho])
 ·rename_i T x f ho
  exact kY (DA hE h (fB hg hr x)) (by simp only [execOp,ho])
 ·rename_i T x f ho
  cases ha:(ev E st x).isAgg with
  |false=>simp [ha] at h
  |true=>simp only [ha,cond_true] at h;exact kY (MC hE h hm (fB hg hr x) (Dj ha (fB hg hr x))) (by simp only [execOp,ho])
 ·rename_i T x i ho
  exact kY (DB hE h hm (fB hg hr x) (fB hg hr i)) (by simp only [execOp,ho])
 ·rename_i T x i ho
  exact kY (MD hE h (fB hg hr x) (fB hg hr i)) (by simp only [execOp,ho])
 ·rename_i x n ho
  have hx:=fB hg hr x;split at h
  ·rename_i vs hv
   rw [hv] at hx;obtain⟨us,hu,ha⟩:=hx;cases hn:vs[n]? with
   |none=>simp [hn] at h
   |some p=>
    simp only [hn] at h;obtain⟨u,hu2,hp⟩:=ha.wa hn;refine kY (s:=Instr.extract (act.eval x) n) ⟨_,u,by simp [Instr.extract,hu,hu2],?_,h⟩ (by simp only [execOp,ho])
    unfold DC;split at hp
    ·rename_i hc;simp only [hc,cond_true];exact hp
    ·rename_i hc
     obtain⟨l,e,hl⟩:=hp;simp only [Bool.not_eq_true] at hc;simp only [hc,cond_false,e];exact hl
  ·cases h
 ·rename_i c ho
  split at h
  ·rename_i b hb
   have xE:=Qi hg hr c.args.toList;obtain⟨cs0,Ga⟩:∃ cs0,(execOp act.eval o).run P w=(builtin b c.argTypes o.type cs0 (c.args.map act.eval)).run P w:=
    ⟨_,by simp only [execOp,ho,resolve,hb,Sem.run_bind,Sem.run_pure,Result.andThen_ok,invoke];rfl⟩
   obtain⟨av,v,st',G',w',h1,h2,h3,h4,h5⟩:=Qp hE (ty:=o.type) (cs:=cs0) h hm xE (fun x hx=>by obtain⟨y,_,rfl⟩:=List.mem_map.1 hx;exact Oi y)
   have e1:(List.map act.eval c.args.toList).toArray=c.args.map act.eval:=by rw [←Array.toList_map]
   rw [e1] at h1;have e2:c.argTypes.toList.toArray=c.argTypes:=by simp
   rw [e2] at h1;unfold Oper.wp;rw [Ga,h1];exact hK _ _ st' G' w' h2 (h3 _ hr) h4 h5
  ·rename_i f hb
   cases hs:E.AO f with
   |none=>simp [hs] at h
   |some s=>
    simp only [hs] at h;obtain⟨h1,h2⟩:=hS f s hs h yH hm ⟨act,hr⟩ (Qi hg hr c.args.toList);have e1:(List.map act.eval c.args.toList).toArray=c.args.map act.eval:=by rw [←Array.toList_map]
    rw [e1] at h1 h2;unfold Oper.wp;simp only [execOp,ho,resolve,hb,Sem.run_bind,Sem.run_pure,Result.andThen_ok,invoke,Act.eval,Deferred.ofValue,Array.append_empty,Array.empty_append,h1,Oper.upon];refine Calls.mono h2 fun e w'' he=>?_;cases e with
    |returned v=>obtain⟨av,st',G',g1,g2,g3,g4⟩:=he;exact hK _ _ st' G' _ g1 (g2 _ hr) g3 g4
    |panicked Hh=>obtain⟨v,rfl,av,st',G',g1,g3,g4⟩:=he;exact hP _ _ st' G' _ g1 g3 g4
    |outgrown=>exact he.elim
  ·cases h
 ·rename_i T x ho
  cases hT:E.iw T with
  |none=>simp [hT] at h
  |some ti=>
   simp only [hT] at h;obtain⟨d,u1,u2⟩:=(hE T ti hT).uW;split at h
   ·cases h
   ·rename_i ls hl hd
    refine kY (s:=Instr.makeInterface T (act.eval x)) ⟨.zC T ls,.iface T (act.eval x),?_,⟨_,_,rfl,rfl,mr hm hl (fB hg hr x)⟩,h⟩ (by simp only [execOp,ho])
    simp only [Instr.makeInterface,Sem.run_bind,run_underlying u1,Result.andThen_ok];generalize ti.iF=q at u2 hd;cases d with
    |interface _=>cases q<;>first | exact u2.elim | exact(hd rfl).elim
    |_=>rfl
   ·cases h
 ·rename_i x ho
  have hx:=fB hg hr x;split at h
  ·rename_i t ls hv
   rw [hv] at hx;obtain⟨u,cs,h1,h2,h3⟩:=hx;unfold Oper.wp;simp only [execOp,ho,h1,Instr.panic,goPanic,Sem.run_bind];exact hP (.zC t ls) (.iface t u) st G w hm ⟨u,cs,rfl,h2,h3⟩ h
  ·cases h
 ·rename_i T ho
  exact full (Qr hE h hm) (by simp only [execOp,ho,Option.map_none])
 ·rename_i T x k ho
  exact kY (Sm hE h hm (fB hg hr x) (fB hg hr k)) (by simp only [execOp,ho])
 ·rename_i T x k v ho
  obtain⟨st',G',w',h1,h2,h3,h4⟩:=MG hE h hm (fB hg hr x) (fB hg hr k) (fB hg hr v);unfold Oper.wp;simp only [execOp,ho,Sem.run_bind,h1,Result.andThen_ok];exact hK _ _ st' G' w' h2 (h3 _ hr) (show aU G' (.one .uW) undef from rfl) h4
 ·cases h
end ops
end Go.Fx
namespace Go.Fx
structure Out where
 v:ae
 s:St
 ok:Bool
def nX(v:ae)(s:St):Option Out:=some ⟨v,s,true⟩
def NU(v:ae)(s:St):Option Out:=some ⟨v,s,false⟩
def sw{R:Type}(K KP:ae→St→Option R)(o:Out):Option R:=bif o.ok then K o.v o.s else KP o.v o.s
theorem db{α β:Type}{c:Bool}{a b:Option β}{a' b':Option α}{f:α→Option β}(h:a=a'.bind f)(k:b=b'.bind f):cond c a b=(cond c a' b').bind f:=by cases c<;>simpa
theorem fJ{α β γ:Type}{x:Option γ}{g:γ→Option β}{g':γ→Option α}{f:α→Option β}(h:∀ y,g y=(g' y).bind f):x.bind g=(x.bind g').bind f:=by
 cases x with
 |none=>rfl
 |some y=>exact h y
def oT(s:iX):Prop:=∀{R:Type} (dst:Nat) (args:List ae) (st:St) (K KP:ae→St→Option R),
 s.run dst args st K KP=(s.run dst args st nX NU).bind (sw K KP)
def aew(L:lh):Prop:=True
section
variable {E:sd} {R:Type} {st:St} {T:TypeId} {x y v:ae} {dst:Nat} {K KP:ae→St→Option R}
theorem TU:ym E T x st K=(ym E T x st nX).bind (sw K KP):=by
 unfold ym
 repeat' (first | rfl | apply db | apply fJ | intro _ | split)
theorem KB{f:Nat}:nF E T x f st K=(nF E T x f st nX).bind (sw K KP):=by
 unfold nF
 repeat' (first | rfl | apply db | apply fJ | intro _ | split)
theorem Sj{f:Nat}:wI E T x f st K=(wI E T x f st nX).bind (sw K KP):=by
 unfold wI
 repeat' (first | rfl | apply db | apply fJ | intro _ | split)
theorem KC:mj E T x y st K=(mj E T x y st nX).bind (sw K KP):=by
 unfold mj
 repeat' (first | rfl | apply db | apply fJ | intro _ | split)
theorem Sk:wJ E T x y st K=(wJ E T x y st nX).bind (sw K KP):=by
 unfold wJ
 repeat' (first | rfl | apply db | apply fJ | intro _ | split)
theorem Ss:wK E T x v st (fun st'=>K (.one .uW) st')=(wK E T x v st (fun st'=>nX (.one .uW) st')).bind (sw K KP):=by
 unfold wK
 repeat' (first | rfl | apply db | apply fJ | intro _ | split)
theorem So{lo hi mx:Option ae}:tD E T dst x lo hi mx st K=(tD E T dst x lo hi mx st nX).bind (sw K KP):=by
 unfold tD
 repeat' (first | rfl | apply db | apply fJ | intro _ | split)
theorem We{op:BinOp}:JJ E op T x y (fun v=>K v st)=(JJ E op T x y (fun v=>nX v st)).bind (sw K KP):=by
 unfold JJ
 repeat' (first | rfl | apply db | apply fJ | intro _ | split)
theorem Yw{op:UnOp}:Su op x (fun v=>K v st)=(Su op x (fun v=>nX v st)).bind (sw K KP):=by
 unfold Su
 repeat' (first | rfl | apply db | apply fJ | intro _ | split)
theorem NM{S D:TypeId}:pC E S D x st K=(pC E S D x st nX).bind (sw K KP):=by
 unfold pC
 repeat' (first | rfl | apply db | apply fJ | intro _ | split)
theorem Si{ps:List (Nat×ae)}:wH E T ps st K=(wH E T ps st nX).bind (sw K KP):=by
 unfold wH
 repeat' (first | rfl | apply db | apply fJ | intro _ | split)
theorem Ji{len:Nat}{ps:List (Nat×ae)}:mf E T dst len ps st K=(mf E T dst len ps st nX).bind (sw K KP):=by
 unfold mf
 repeat' (first | rfl | apply db | apply fJ | intro _ | split)
theorem KD:nG E T dst x y st K=(nG E T dst x y st nX).bind (sw K KP):=by
 unfold nG
 repeat' (first | rfl | apply db | apply fJ | intro _ | split)
theorem OQ{o:Nat}{ls:List ag}:Fc E T o ls st K=(Fc E T o ls st nX).bind (sw K KP):=by
 unfold Fc
 repeat' (first | rfl | apply db | apply fJ | intro _ | split)
theorem HR:rG E T dst x y st K=(rG E T dst x y st nX).bind (sw K KP):=by
 unfold rG
 repeat' (first | rfl | apply db | apply fJ | intro _ | split)
theorem HS{len:Nat}{ps:List (Nat×ae)}:kJ E T dst len ps st K=(kJ E T dst len ps st nX).bind (sw K KP):=by
 unfold kJ
 repeat' (first | rfl | apply db | apply fJ | intro _ | split)
theorem NJ{b:Nat}:qJ E T dst x b st K=(qJ E T dst x b st nX).bind (sw K KP):=by
 unfold qJ
 repeat' (first | rfl | apply db | apply fJ | intro _ | split)
theorem HZ{α β:Type}{a i o:Nat}{K:St→Option β}{K':St→Option α}{f:α→Option β}(h:∀ s,K s=(K' s).bind f):EQ st a i o K=(EQ st a i o K').bind f:=by
 unfold EQ
 repeat' (first | rfl | exact h _ | apply db | apply fJ | intro _ | split)
theorem Pi{α β:Type}{a sz i:Nat}{K:St→Option β}{K':St→Option α}{f:α→Option β}(h:∀ s,K s=(K' s).bind f):AU st a sz i K=(AU st a sz i K').bind f:=by unfold AU;exact db (h _) rfl
theorem Rx{α β:Type}{a o:Nat}{K:St→Option β}{K':St→Option α}{f:α→Option β}(h:∀ s,K s=(K' s).bind f):Af st a o K=(Af st a o K').bind f:=by
 unfold Af
 repeat' (first | rfl | exact h _ | apply db | apply fJ | intro _ | split)
theorem NK:qK E T dst x y st K=(qK E T dst x y st nX).bind (sw K KP):=by
 unfold qK;split
 ·exact NJ
 ·split
  ·exact db (HZ fun s=>Pi fun s=>HR) rfl
  ·exact HR
theorem Qt{a sz i off:Nat}{K:St→Option R}{K':St→Option Out}{f:Out→Option R}(h:∀ s,K s=(K' s).bind f):tH E T a sz i off v st K=(tH E T a sz i off v st K').bind f:=by
 unfold tH
 repeat' (first | rfl | exact Rx h |(apply HZ) |(apply Pi) | apply db | apply fJ | intro _ | split)
theorem Qu{a k:Nat}{K:St→Option R}{K':St→Option Out}{f:Out→Option R}(h:∀ s,K s=(K' s).bind f):tI E T a k v st K=(tI E T a k v st K').bind f:=by
 unfold tI
 repeat' (first | rfl | exact h _ | apply db | apply fJ | intro _ | split)
theorem Qv:tJ E T x v st (fun st'=>K (.one .uW) st')=(tJ E T x v st (fun st'=>nX (.one .uW) st')).bind (sw K KP):=by
 unfold tJ;split
 ·exact Qt fun s=>rfl
 ·split
  ·exact Qu fun s=>rfl
  ·exact Ss
theorem NL{b:Builtin}{ts:List TypeId}{vs:List ae}:np E b dst ts vs st K=(np E b dst ts vs st nX).bind (sw K KP):=by
 unfold np
 repeat' (first | rfl | exact NK | apply db | apply fJ | intro _ | split)
theorem Qm:rF E T dst st K=(rF E T dst st nX).bind (sw K KP):=by
 unfold rF
 repeat' (first | rfl | apply db | apply fJ | intro _ | split)
theorem NO:qL E T dst st K=(qL E T dst st nX).bind (sw K KP):=by
 unfold qL
 repeat' (first | rfl | apply db | apply fJ | intro _ | split)
theorem Qq:tC E T x y st K=(tC E T x y st nX).bind (sw K KP):=by
 unfold tC
 repeat' (first | rfl | apply db | apply fJ | intro _ | split)
theorem KE:nH E T x y v st K=(nH E T x y v st nX).bind (sw K KP):=by
 unfold nH
 repeat' (first | rfl | apply db | apply fJ | intro _ | split)
theorem Oj(hS:∀ f s,E.AO f=some s→oT s){o:Oper}:lS E o st K KP=(lS E o st nX NU).bind (sw K KP):=by
 unfold lS;split
 ·rfl
 ·rfl
 ·split
  ·exact db rfl rfl
  ·rfl
 ·split<;>rfl
 ·refine db Qm ?_
  split
  ·exact OQ
  ·rfl
 ·split
  ·exact OQ
  ·rfl
 ·exact Si
 ·exact db HS Ji
 ·exact TU
 ·exact Qv
 ·exact We
 ·exact Yw
 ·exact NM
 ·exact KD
 ·exact So
 ·exact KB
 ·exact db Sj rfl
 ·exact KC
 ·exact Sk
 ·split
  ·split
   ·rfl
   ·rfl
  ·rfl
 ·split
  ·exact NL
  ·split
   ·rename_i s hs;exact hS _ s hs _ _ _ _ _
   ·rfl
  ·rfl
 ·split
  ·split<;>rfl
  ·rfl
 ·split<;>rfl
 ·exact NO
 ·exact Qq
 ·exact KE
 ·rfl
end
def Gp(E:sd)(o:Oper)(st:St):Option Out:=lS E o st nX NU
theorem Ag{E:sd}(hS:∀ f s,E.AO f=some s→oT s){o:Oper}{st:St}{R:Type}{K KP:ae→St→Option R}{r:R}(h:lS E o st K KP=some r):
  ∃ u,Gp E o st=some u∧sw K KP u=some r:=by
 rw [Oj hS] at h;exact Option.bind_eq_some_iff.1 h
theorem Bf{E:sd}(hS:∀ f s,E.AO f=some s→oT s){o:Oper}{st:St}{R:Type}{K KP:ae→St→Option R}{u:Out}(h:Gp E o st=some u):lS E o st K KP=sw K KP u:=by rw [Oj hS];unfold Gp at h;rw [h];rfl
end Go.Fx
namespace Go.Fx
def ke(st s:St):Prop:=s.n=st.n∧s.jh=st.jh∧s.cA=st.cA∧(s.fN,s.pin)=(st.fN,st.pin)
theorem ke.refl(st:St):ke st st:=⟨rfl,rfl,rfl,rfl⟩
theorem ke.trans{a b c:St}(h:ke a b)(k:ke b c):ke a c:=⟨k.1.trans h.1,k.2.1.trans h.2.1,k.2.2.1.trans h.2.2.1,k.2.2.2.trans h.2.2.2⟩
def pM.aeX(p:pM)(o j:Nat):Prop:=match p with | .o ob off n=>ob=o∧off≤j∧j < off + n | _=>False
structure qC(W:List pM)(st s:St):Prop where
 ix:ke st s
 ez:s.ez=st.ez
 dM:∀ o ls,st.dM o=some ls→pM.k o∉W→pM.all∉W→∃ wF,s.dM o=some wF∧wF.length=ls.length∧∀ j,(∀ q∈W,¬ q.aeX o j)→wF[j]? = ls[j]?
 arr:∀ a A,st.arr a=some A→pM.a a∉W→pM.all∉W→s.arr a=some A
 DS:∀ a,pM.a a∉W→pM.all∉W→s.dA a=st.dA a
theorem qC.refl(W:List pM)(st:St):qC W st st:=⟨.refl _,rfl,fun o ls h _ _=>⟨ls,h,rfl,fun _ _=>rfl⟩,fun _ _ h _ _=>h,fun _ _ _=>rfl⟩
theorem qC.any{st s:St}(h:ke st s)(hr:s.ez=st.ez):qC [.all] st s:=
 ⟨h,hr,fun _ _ _ _ h=>absurd (List.mem_singleton.2 rfl) h,fun _ _ _ _ h=>absurd (List.mem_singleton.2 rfl) h,fun _ _ h=>absurd (List.mem_singleton.2 rfl) h⟩
theorem qC.trans{W:List pM}{a b c:St}(h:qC W a b)(k:qC W b c):qC W a c:=
 ⟨h.ix.trans k.ix,k.ez.trans h.ez,fun o ls hl hk ha=>by
  obtain⟨l1,h1,h2,h3⟩:=h.dM o ls hl hk ha;obtain⟨l2,k1,k2,k3⟩:=k.dM o l1 h1 hk ha;exact⟨l2,k1,k2.trans h2,fun j hj=>(k3 j hj).trans (h3 j hj)⟩,fun x A hA hn ha=>k.arr x A (h.arr x A hA hn ha) hn ha,fun x hn ha=>(k.DS x hn ha).trans (h.DS x hn ha)⟩
theorem qC.mono{W W':List pM}{a b:St}(h:qC W a b)(hs:∀ q∈W,q∈W'):qC W' a b:=
 ⟨h.ix,h.ez,fun o ls hl hk ha=>by
  obtain⟨l1,h1,h2,h3⟩:=h.dM o ls hl (fun hq=>hk (hs _ hq)) (fun hq=>ha (hs _ hq));exact⟨l1,h1,h2,fun j hj=>h3 j fun q hq=>hj q (hs q hq)⟩,fun x A hA hn ha=>h.arr x A hA (fun hq=>hn (hs _ hq)) (fun hq=>ha (hs _ hq)),fun x hn ha=>h.DS x (fun hq=>hn (hs _ hq)) (fun hq=>ha (hs _ hq))⟩
theorem qC.TP{W:List pM}{st s:St}{o:Nat}{ls:List ag}(h:qC W st s)(ho:s.dM o=none):qC W st (s.qn o ls):=
 h.trans ⟨⟨rfl,rfl,rfl,rfl⟩,rfl,fun q l hl _ _=>⟨l,by rw [kC,if_neg (fun e=>by subst e;rw [ho] at hl;cases hl)];exact hl,rfl,fun _ _=>rfl⟩,fun a A hA _ _=>hA,fun _ _ _=>rfl⟩
theorem qC.zF{W:List pM}{st s:St}{a:Nat}{A:jF}(h:qC W st s)(ha:s.arr a=none):qC W st (s.gJ a A):=
 h.trans ⟨⟨rfl,rfl,rfl,rfl⟩,rfl,fun q l hl _ _=>⟨l,hl,rfl,fun _ _=>rfl⟩,fun x B hB _ _=>by rw [dG,if_neg (fun e=>by subst e;rw [ha] at hB;cases hB)];exact hB,fun _ _ _=>rfl⟩
theorem qC.gJ{W:List pM}{st s:St}{a:Nat}{A:jF}(h:qC W st s)(ha:pM.a a∈W):qC W st (s.gJ a A):=
 h.trans ⟨⟨rfl,rfl,rfl,rfl⟩,rfl,fun q l hl _ _=>⟨l,hl,rfl,fun _ _=>rfl⟩,fun x B hB hn _=>by rw [dG,if_neg (fun e=>by subst e;exact hn ha)];exact hB,fun _ _ _=>rfl⟩
theorem qC.MQ{W:List pM}{st s:St}{a dst:Nat}{A:jF}(h:qC W st s)(ha:pM.a a∈W)(hd:s.arr dst=none):qC W st {s with cK:=(dst,A) :: E4 s.cK a}:=
 h.trans ⟨⟨rfl,rfl,rfl,rfl⟩,rfl,fun q l hl _ _=>⟨l,hl,rfl,fun _ _=>rfl⟩,fun x B hB hn _=>by
  have e1:x≠a:=fun e=>by subst e;exact hn ha
  have e2:x≠dst:=fun e=>by subst e;rw [hd] at hB;cases hB
  simp only [St.arr,aw,qf,if_neg (Ne.symm e1),if_neg (Ne.symm e2)];exact hB,fun _ _ _=>rfl⟩
theorem aX{α:Type}{c:Bool}{a a' b b':α}(h:a=a')(k:b=b'):cond c a b=cond c a' b':=by rw [h,k]
theorem uu{α:Type}{c:Bool}{a a' b b':α}(h:c=true→a=a')(k:c=false→b=b'):cond c a b=cond c a' b':=by
 cases c
 ·exact k rfl
 ·exact h rfl
theorem dT{α β:Type}{x:Option α}{f g:α→Option β}(h:∀ y,f y=g y):x.bind f=x.bind g:=by rw [funext h]
section
variable {E:sd} {R:Type} {st:St} {T:TypeId} {x y v:ae} {dst:Nat}
theorem JK{K K':ae→St→Option R}(h:∀ v,K v st=K' v st):ym E T x st K=ym E T x st K':=by
 unfold ym
 repeat' (first | rfl | exact h _ | apply aX | apply dT | intro _ | split)
theorem AJ{f:Nat}{K K':ae→St→Option R}(h:∀ v,K v st=K' v st):nF E T x f st K=nF E T x f st K':=by
 unfold nF
 repeat' (first | rfl | exact h _ | apply aX | apply dT | intro _ | split)
theorem HX{f:Nat}{K K':ae→St→Option R}(h:∀ v,K v st=K' v st):wI E T x f st K=wI E T x f st K':=by
 unfold wI
 repeat' (first | rfl | exact h _ | apply aX | apply dT | intro _ | split)
theorem AK{K K':ae→St→Option R}(h:∀ v,K v st=K' v st):mj E T x y st K=mj E T x y st K':=by
 unfold mj
 repeat' (first | rfl | exact h _ | apply aX | apply dT | intro _ | split)
theorem HY{K K':ae→St→Option R}(h:∀ v,K v st=K' v st):wJ E T x y st K=wJ E T x y st K':=by
 unfold wJ
 repeat' (first | rfl | exact h _ | apply aX | apply dT | intro _ | split)
theorem Ow{a:Nat}:∀{ls:List ag},ag.mu a∈ls→pM.a a∈fL ls
 |l :: r,h=>by
  rcases List.mem_cons.1 h with rfl | h
  ·exact List.mem_cons_self ..
  ·have:=Ow h
   cases l<;>first | exact this | exact List.mem_cons_of_mem _ this
theorem Gv{l:ag}{s:St}(h:st.yu l=some s):qC (fL [l]) st s:=by
 unfold St.yu at h;split at h
 ·split at h
  ·rename_i A _
   cases hs:A.sh with
   |true=>simp only [hs,cond_true,Option.some.injEq] at h;subst h;exact .refl _ _
   |false=>
    cases hw:A.pe with
    |false=>simp [hs,hw] at h
    |true=>simp only [hs,hw,cond_false,cond_true,Option.some.injEq] at h;subst h;exact(qC.refl _ _).gJ (by simp [fL])
  ·split at h
   ·rename_i A _
    cases hs:A.sh<;>simp [hs] at h;subst h;exact .refl _ _
   ·cases h
 ·cases h;exact .refl _ _
theorem Tw{l:ag}{ls:List ag}:fL (l :: ls)=fL [l] ++ fL ls:=by cases l<;>rfl
theorem yv:∀{ls:List ag} {st s:St},st.uH ls=some s→qC (fL ls) st s
 |[],st,s,h=>by cases h;exact .refl _ _
 |l :: r,st,s,h=>by
  simp only [St.uH] at h;split at h
  ·rename_i q hq
   rw [Tw];exact((Gv hq).mono fun q hq=>List.mem_append_left _ hq).trans ((yv h).mono fun q hq=>List.mem_append_right _ hq)
  ·cases h
theorem uI{s:St}(h:v.qp st=some s):qC v.tg st s:=by
 unfold ae.qp at h;split at h
 ·exact Gv h
 ·exact yv h
 ·cases h
 ·exact yv h
theorem abi{l:ag}{s:St}(h:st.yu l=some s):ke st s:=(Gv h).ix
theorem abj{ls:List ag}{st s:St}(h:st.uH ls=some s):ke st s:=(yv h).ix
theorem JR{s:St}(h:v.qp st=some s):ke st s:=(uI h).ix
theorem DO{t:Ty}:∀{ps:List (Nat×ae)} {i:Nat} {st s:St} {l:List t.ng},mJ t i ps st=some (l,s)→qC (mZ (ps.map (·.2))) st s
 |[],i,st,s,l,h=>by simp only [mJ,Option.some.injEq,Prod.mk.injEq] at h;obtain⟨_,rfl⟩:=h;exact .refl _ _
 |(j,v) :: r,i,st,s,l,h=>by
  simp only [mJ] at h;cases hb:Nat.beq i j with
  |false=>simp [hb] at h
  |true=>
   simp only [hb,cond_true] at h;split at h
   ·rename_i q hq
    split at h
    ·split at h
     ·rename_i l' s' hp
      simp only [Option.some.injEq,Prod.mk.injEq] at h;obtain⟨_,rfl⟩:=h;exact((uI hq).mono fun q hq=>List.mem_append_left _ hq).trans ((DO hp).mono fun q hq=>List.mem_append_right _ hq)
     ·cases h
    ·cases h
   ·cases h
theorem Df{v:ae}{ls:List ag}(h:v.pF=some ls):∀ q∈fL ls,q∈v.tg:=by
 have ex:∀(t:Ty) (d:t.ng),fL (jO t d) = []:=by
  have lq:∀ l m:List ag,fL (l ++ m)=fL l ++ fL m:=by
   intro l m;induction l with
   |nil=>rfl
   |cons x l ih=>cases x<;>simp [fL,ih]
  intro t;induction t with
  |cY a b Mf Qa=>intro d;simp only [jO,lq,Mf,Qa];rfl
  |one a ih=>intro d;exact ih d
  |arr n t ih=>
   intro d;simp only [jO];induction (show List t.ng from d) with
   |nil=>rfl
   |cons x l ihl=>rw [List.flatMap_cons,lq,ih,ihl];rfl
  |_=>intro d;rfl
 unfold ae.pF at h;split at h
 ·simp only [Option.some.injEq] at h;subst h;simp [ex]
 ·simp only [Option.some.injEq] at h;subst h;simp [ex]
 ·simp only [Option.some.injEq] at h;subst h;simp [ex]
 ·rename_i l _ _ _
  cases hc:l.cell<;>simp [hc] at h;subst h;exact fun q hq=>hq
 ·simp only [Option.some.injEq] at h;subst h;exact fun q hq=>hq
 ·cases h
theorem Wj{α:Type}{l v:List α}{off:Nat}(h:off + v.length≤l.length){j:Nat}(hj:¬ (off≤j∧j < off + v.length)):(ml l off v)[j]? = l[j]?:=by
 unfold ml;by_cases h1:j < off
 ·rw [List.getElem?_append_left (by simp;omega),List.getElem?_take_of_lt h1]
 ·rw [List.getElem?_append_right (by simp;omega),List.getElem?_append_right (by simp;omega),List.getElem?_drop]
  congr 1
  simp only [List.length_take];omega
theorem QC{α:Type}{l v:List α}{off:Nat}(h:off + v.length≤l.length):(ml l off v).length=l.length:=by unfold ml;simp;omega
theorem Qw{K K':St→Option R}(h:∀ s,qC (match x.bM with | .mW ob off=>[.o ob off (wO E T)] | .C6 a _ _ _=>.a a :: v.tg | _=>[]) st s→K s=K' s):wK E T x v st K=wK E T x v st K':=by
 unfold wK;split
 ·rename_i ti vs hT hv
  cases hc:(Nat.beq vs.length ti.size && vs.all ag.cell) with
  |false=>rfl
  |true=>
   simp only [cond_true];simp only [Bool.and_eq_true] at hc;have jI:=Nat.eq_of_beq_eq_true hc.1;split
   ·rename_i ob off hx
    rw [hx] at h;split
    ·rename_i ls ho
     split
     ·rename_i c hs
      refine aX rfl (h _ ⟨⟨rfl,rfl,rfl,rfl⟩,rfl,fun o l hl _ _=>?_,fun a A hA _ _=>hA,fun _ _ _=>rfl⟩);have wA:off + vs.length≤ls.length:=by
       unfold qr at hs;cases hb:Nat.ble (off + ti.size) ls.length with
       |false=>simp [hb] at hs
       |true=>rw [jI];exact Nat.le_of_ble_eq_true hb
      by_cases e:ob=o
      ·subst e
       rw [ho] at hl;cases hl;refine⟨ml ls off vs,by rw [kC,if_pos rfl],QC wA,fun j hj=>Wj wA fun hh=>hj _ (List.mem_singleton.2 rfl) ⟨rfl,hh.1,?_⟩⟩
       rw [show wO E T=vs.length by simp only [wO,hT];exact jI.symm];exact hh.2
      ·exact⟨l,by rw [kC,if_neg e];exact hl,rfl,fun _ _=>rfl⟩
     ·rfl
    ·rfl
   ·rename_i a sz i off hx
    rw [hx] at h;split
    ·rfl
    ·rename_i st' hs
     split
     ·refine aX rfl (dT fun d=>aX ?_ rfl)
      split
      ·exact h _ (((yv hs).mono fun q hq=>List.mem_cons_of_mem _ (Df hv q hq)).gJ (List.mem_cons_self ..))
      ·rfl
     ·rfl
   ·rfl
 ·rfl
theorem Qs{lo hi mx:Option ae}{K K':ae→St→Option R}(h:∀ v s,qC (fL [x.bM]) st s→K v s=K' v s):tD E T dst x lo hi mx st K=tD E T dst x lo hi mx st K':=by
 unfold tD
 repeat' (first | rfl | exact h _ _ (.refl _ _) | apply uu | apply dT | intro _ | split)
 all_goals
  rename_i hc _;refine h _ _ ((qC.refl _ _).MQ (by rw [‹x.bM=ag.mu _›];simp [fL]) ?_)
  simp only [Bool.or_eq_false_iff] at hc;simpa using hc.1.1.2
theorem My{op:BinOp}{K K':ae→Option R}(h:∀ v,K v=K' v):JJ E op T x y K=JJ E op T x y K':=by rw [funext h]
theorem OS{op:UnOp}{K K':ae→Option R}(h:∀ v,K v=K' v):Su op x K=Su op x K':=by rw [funext h]
theorem Dz{S D:TypeId}{K K':ae→St→Option R}(h:∀ v,K v st=K' v st):pC E S D x st K=pC E S D x st K':=by
 unfold pC
 repeat' (first | rfl | exact h _ | apply aX | apply dT | intro _ | split)
theorem HU{ps:List (Nat×ae)}{K K':ae→St→Option R}(h:∀ v,K v st=K' v st):wH E T ps st K=wH E T ps st K':=by
 unfold wH
 repeat' (first | rfl | exact h _ | apply aX | apply dT | intro _ | split)
theorem HT{len:Nat}{ps:List (Nat×ae)}{K K':ae→St→Option R}(h:∀ v s,qC (mZ (ps.map (·.2))) st s→K v s=K' v s):mf E T dst len ps st K=mf E T dst len ps st K':=by
 unfold mf
 repeat' (first | rfl | exact h _ _ ((DO ‹mJ _ _ _ _=some _›).zF ‹St.arr _ _=none›) | apply aX | apply dT | intro _ | split)
theorem Jk{K K':ae→St→Option R}(h:∀ v s,qC [] st s→K v s=K' v s):nG E T dst x y st K=nG E T dst x y st K':=by
 unfold nG
 repeat' (first | rfl | exact h _ _ ((qC.refl _ _).zF ‹St.arr _ _=none›) | apply aX | apply dT | intro _ | split)
theorem MH{o:Nat}{ls:List ag}{K K':ae→St→Option R}(h:∀ v s,qC [] st s→K v s=K' v s):Fc E T o ls st K=Fc E T o ls st K':=by
 unfold Fc
 repeat' (first | rfl | exact h _ _ ((qC.refl _ _).TP ‹St.dM _ _=none›) | apply aX | apply dT | intro _ | split)
theorem Fb{K K':ae→St→Option R}(h:∀ v s,qC (mZ [x,y]) st s→K v s=K' v s):rG E T dst x y st K=rG E T dst x y st K':=by
 unfold rG
 repeat' (first | rfl |(have hb:=uI ‹ae.qp _ _=some _›;exact h _ _ ((hb.mono fun q hq=>by simp [mZ,hq]).zF ‹St.arr _ _=none›)) | apply aX | apply dT | intro _ | split)
 all_goals
  have hb:=uI ‹ae.qp _ _=some _›;refine h _ _ ((hb.mono fun q hq=>by simp [mZ,hq]).MQ ?_ ‹St.arr _ _=none›)
  have hx:=‹x.bM=ag.mu _›;cases x<;>simp [ae.bM] at hx;subst hx;simp [mZ,ae.tg,fL]
theorem Wh{u:Ty}{l:ag}{d:List u.ng}{c:List Nat}(h:Sx st u l=some (d,c)):∀ q∈c,l = .mu q:=by
 unfold Sx at h;split at h
 ·simp only [Option.some.injEq,Prod.mk.injEq] at h;obtain⟨_,rfl⟩:=h;intro q hq;cases hq
 ·split at h
  ·rename_i A _
   cases hc:(A.sh || !A.md.lc (Qj u) || eV _ st.pin ||(look st.fN _).isSome) with
   |true=>rw [hc] at h;cases h
   |false=>
    rw [hc,cond_false] at h;split at h
    ·simp only [Option.some.injEq,Prod.mk.injEq] at h;obtain⟨_,rfl⟩:=h;intro q hq;rw [List.mem_singleton.1 hq]
    ·cases h
  ·cases h
 ·cases h
theorem YB:∀{t:Ty} {ls r:List ag} {d:t.ng} {c:List Nat},Gq st t ls=some (d,r,c)→(∀ q∈c,ag.mu q∈ls)∧∀ l∈r,l∈ls:=by
 have bM:∀{t:Ty} {ls r:List ag} {d:t.ng} {c:List Nat},(match ls with | []=>none | l :: r=>(l.wa st t).map fun d=>(d,r,([]:List Nat)))=some (d,r,c)→(∀ q∈c,ag.mu q∈ls)∧∀ l∈r,l∈ls:=by
  intro t ls r d c h
  match ls,h with
  |l :: ls,h=>simp only [Option.map_eq_some_iff,Prod.mk.injEq] at h;obtain⟨_,_,_,rfl,rfl⟩:=h;exact⟨fun q hq=>(by cases hq),fun l hl=>List.mem_cons_of_mem _ hl⟩
 intro t;induction t with
 |int k=>exact fun h=>bM h
 |bool=>exact fun h=>bM h
 |str=>exact fun h=>bM h
 |slice u _=>
  intro ls r d c h
  match ls,h with
  |[],h=>simp [Gq] at h
  |l :: ls,h=>simp only [Gq,Option.map_eq_some_iff,Prod.mk.injEq] at h;obtain⟨⟨d',c'⟩,hd,_,rfl,rfl⟩:=h;exact⟨fun q hq=>(by rw [←Wh hd q hq];exact List.mem_cons_self ..),fun l hl=>List.mem_cons_of_mem _ hl⟩
 |cY a b Mf Qa=>
  intro ls r d c h;simp only [Gq] at h;split at h
  ·rename_i x r1 cc h1
   split at h
   ·rename_i y r2 cc2 h2
    simp only [Option.some.injEq,Prod.mk.injEq] at h;obtain⟨_,rfl,rfl⟩:=h;obtain⟨p1,p2⟩:=Mf h1;obtain⟨p3,p4⟩:=Qa h2;refine⟨fun q hq=>?_,fun l hl=>p2 l (p4 l hl)⟩;rcases List.mem_append.1 hq with hq | hq
    ·exact p1 q hq
    ·exact p2 _ (p3 q hq)
   ·cases h
  ·cases h
 |one a ih=>exact fun h=>ih h
 |arr n t _=>intro ls r d c h;cases h
theorem H0{t:Ty}:∀{ps:List (Nat×ae)} {i:Nat} {l:List t.ng} {c:List Nat},tL t i ps st=some (l,c)→∀ q∈c,pM.a q∈mZ (ps.map (·.2))
 |[],i,l,c,h=>by simp only [tL,Option.some.injEq,Prod.mk.injEq] at h;obtain⟨_,rfl⟩:=h;intro q hq;cases hq
 |(j,v) :: ps,i,l,c,h=>by
  simp only [tL] at h;cases hb:Nat.beq i j with
  |false=>rw [hb] at h;cases h
  |true=>
   rw [hb,cond_true] at h;split at h
   ·rename_i ls hl
    split at h
    ·rename_i d c0 hT
     split at h
     ·rename_i l' c' hr
      simp only [Option.some.injEq,Prod.mk.injEq] at h;obtain⟨_,rfl⟩:=h;intro q hq;simp only [List.map_cons,mZ];rcases List.mem_append.1 hq with hq | hq
      ·exact List.mem_append_left _ (Df hl _ (Ow ((YB hT).1 q hq)))
      ·exact List.mem_append_right _ (H0 hr q hq)
     ·cases h
    ·cases h
   ·cases h
theorem qC.tn{W:List pM}{C:List Nat}{A:jF}(hC:∀ c∈C,pM.a c∈W)(hd:st.arr dst=none):qC W st {st with cK:=(dst,A) :: kT C st.cK}:=
 ⟨⟨rfl,rfl,rfl,rfl⟩,rfl,fun q l hl _ _=>⟨l,hl,rfl,fun _ _=>rfl⟩,fun x B hB hn _=>by
  have e1:x∉C:=fun e=>hn (hC x e);have e2:x≠dst:=fun e=>by subst e;rw [hd] at hB;cases hB
  simp only [St.arr,aw,yU,if_neg (Ne.symm e2),if_neg e1];exact hB,fun _ _ _=>rfl⟩
theorem Gm{len:Nat}{ps:List (Nat×ae)}{K K':ae→St→Option R}(h:∀ v s,qC (mZ (ps.map (·.2))) st s→K v s=K' v s):kJ E T dst len ps st K=kJ E T dst len ps st K':=by
 unfold kJ
 repeat' (first | rfl | exact h _ _ (qC.tn (H0 ‹tL _ _ _ _=some _›) ‹St.arr _ _=none›) | apply aX | apply dT | intro _ | split)
theorem Mw{b:Nat}{K K':ae→St→Option R}(hy:y.bM = .mu b)(h:∀ v s,qC (mZ [x,y]) st s→K v s=K' v s):qJ E T dst x b st K=qJ E T dst x b st K':=by
 have hb:pM.a b∈mZ [x,y]:=by cases y<;>simp [ae.bM] at hy;subst hy;simp [mZ,ae.tg,fL]
 unfold qJ
 repeat' (first | rfl | exact h _ _ (qC.tn (fun c hc=>by rw [List.mem_singleton.1 hc];exact hb) ‹St.arr _ _=none›) | apply aX | apply dT | intro _ | split)
 all_goals
  refine h _ _ (qC.tn (fun c hc=>?_) ‹St.arr _ _=none›);simp only [List.mem_cons,List.not_mem_nil,or_false] at hc;rcases hc with rfl | rfl
  ·have hx:=‹x.bM=ag.mu _›
   cases x<;>simp [ae.bM] at hx;subst hx;simp [mZ,ae.tg,fL]
  ·exact hb
theorem Jm{a i o:Nat}{K K':St→Option R}(h:∀ s,ke st s→s.ez=st.ez→K s=K' s):EQ st a i o K=EQ st a i o K':=by
 unfold EQ
 repeat' (first | rfl | exact h _ ⟨rfl,rfl,rfl,rfl⟩ rfl | apply aX | apply dT | intro _ | split)
theorem Ug{a sz i:Nat}{K K':St→Option R}(h:∀ s,ke st s→s.ez=st.ez→K s=K' s):AU st a sz i K=AU st a sz i K':=by unfold AU;exact aX (h _ ⟨rfl,rfl,rfl,rfl⟩ rfl) rfl
theorem IM{a o:Nat}{K K':St→Option R}(h:∀ s,ke st s→s.ez=st.ez→K s=K' s):Af st a o K=Af st a o K':=by
 unfold Af
 repeat' (first | rfl | exact h _ ⟨rfl,rfl,rfl,rfl⟩ rfl | apply aX | apply dT | intro _ | split)
theorem NP{a sz i off:Nat}{K K':St→Option R}(h:∀ s,ke st s→s.ez=st.ez→K s=K' s):tH E T a sz i off v st K=tH E T a sz i off v st K':=by
 unfold tH;split
 ·refine aX ?_ rfl
  split
  ·refine Jm fun s1 b1 r1=>Ug fun s2 b2 r2=>aX ?_ rfl
   split
   ·split
    ·refine aX rfl (IM fun s b r=>h s (b1.trans (b2.trans (ke.trans ⟨rfl,rfl,rfl,rfl⟩ b))) (r.trans (r2.trans r1)))
    ·rfl
   ·rfl
  ·refine aX ?_ rfl
   split
   ·split
    ·refine aX rfl (IM fun s b r=>h s (ke.trans ⟨rfl,rfl,rfl,rfl⟩ b) r)
    ·rfl
   ·rfl
  ·rfl
 ·rfl
theorem NI{K K':ae→St→Option R}(h:∀ v s,qC [] st s→K v s=K' v s):rF E T dst st K=rF E T dst st K':=by
 unfold rF
 repeat' (first | rfl | exact h _ _ ((qC.refl _ _).zF ‹St.arr _ _=none›) | apply aX | apply dT | intro _ | split)
theorem NQ{a k:Nat}{K K':St→Option R}(h:∀ s,qC [.a a] st s→K s=K' s):tI E T a k v st K=tI E T a k v st K':=by
 unfold tI
 repeat' (first | rfl | exact h _ ((qC.refl _ _).gJ (List.mem_singleton.2 rfl)) | apply aX | apply dT | intro _ | split)
theorem NR{K K':St→Option R}(h:∀ s,qC (match U0 st x with | some _=>[.all] | none=>match x.bM with | .mW ob off=>[.o ob off (wO E T)] | .C6 a _ _ _=>.a a :: v.tg | .KL a _ _=>[.a a] | _=>[]) st s→K s=K' s):tJ E T x v st K=tJ E T x v st K':=by
 unfold tJ;split
 ·rename_i hn;rw [hn] at h;exact NP fun s b r=>h s (qC.any b r)
 ·rename_i hn
  rw [hn] at h;split
  ·rename_i a k ha
   unfold abt at ha;split at ha
   ·rename_i a' k' n' hl
    cases ha;rw [hl] at h;exact NQ h
   ·cases ha
  ·refine Qw fun s hs=>h s (hs.mono fun q hq=>?_)
   split at hq
   ·rename_i hx;simpa only [hx] using hq
   ·rename_i hx;simpa only [hx] using hq
   ·cases hq
theorem NS{a sz i o:Nat}{W:List pM}{K K':St→Option R}(ha:pM.a a∈W)(hk:∀ p∈st.cf,p.2.any (ag.Mt a)=true→pM.k p.1∈W)(h:∀ s,qC W st s→K s=K' s):
  EQ st a i o (fun s1=>AU s1 a sz i K)=EQ st a i o (fun s1=>AU s1 a sz i K'):=by
 unfold EQ;cases hA:look st.cK a with
 |none=>rfl
 |some A=>
  simp only;split
  ·rename_i ux
   refine uu (fun _=>rfl) (fun hc=>dT fun x=>uu (fun wS=>?_) (fun _=>rfl));unfold AU;refine aX (h _ ?_) rfl;simp only [Bool.or_eq_false_iff] at hc;have NA:st.dM o=none:=by simpa using hc.1.1.2
   simp only [Bool.and_eq_true,List.all_eq_true] at wS;refine⟨⟨rfl,rfl,rfl,rfl⟩,rfl,fun q ls hq hkq _=>⟨ls,?_,rfl,fun _ _=>rfl⟩,fun q B hB hn _=>?_,fun _ _ _=>rfl⟩
   ·have hoq:o≠q:=fun e=>by rw [e,hq] at NA;cases NA
    have vN:ls.any (ag.Mt a)=false:=by
     cases hm:ls.any (ag.Mt a) with
     |false=>rfl
     |true=>exact absurd (hk (q,ls) (dV hq) hm) hkq
    have key:∀{v:Nat} {ls:List ag},ls.any (ag.Mt a)=false→ls.map (qv a v sz)=ls:=by
     intro v ls;induction ls with
     |nil=>intro _;rfl
     |cons l r ih=>
      intro hm;simp only [List.any_cons,Bool.or_eq_false_iff] at hm;rw [List.map_cons,ih hm.2]
      congr 1
      cases l with
      |Eb a' v' sz' i' off=>
       have:Nat.beq a' a=false:=by simpa [ag.Mt] using hm.1
       simp [qv,this]
      |_=>rfl
    have adW:∀(v:Nat) (l:List (Nat×List ag)),look (l.map fun p=>(p.1,p.2.map (qv a v sz))) q=(look l q).map (·.map (qv a v sz)):=by
     intro v l;induction l with
     |nil=>rfl
     |cons p r ih=>
      obtain⟨k,m⟩:=p;rw [List.map_cons,aw,aw];by_cases e:k=q
      ·simp [e]
      ·simp only [e,if_false];exact ih
    simp only [St.dM,adW,yV (show q∉([]:List Nat) by simp),aw,if_neg hoq]
    have Hz:look st.cf q=some ls:=hq;rw [Hz,Option.map_some,key vN]
   ·have gY:a≠q:=fun e=>hn (by rw [←e];exact ha)
    have abZ:look (yI (Kz a (st.dA a)) A.t x 0) q=none:=by
     cases hl:look (yI (Kz a (st.dA a)) A.t x 0) q with
     |none=>rfl
     |some C=>have:=(wS.2 _ (dV hl));simp only [Bool.and_eq_true] at this;rw [hB] at this;simp at this
    simp only [St.arr,aw,if_neg gY,Mn,abZ];exact hB
  ·rfl
theorem Mx{K K':ae→St→Option R}(h:∀ v s,qC (mZ [x,y] ++ Wc st [x,y]) st s→K v s=K' v s):qK E T dst x y st K=qK E T dst x y st K':=by
 unfold qK;split
 ·rename_i b hb
  have hy:y.bM = .mu b:=by
   unfold W7 at hb;split at hb
   ·rename_i b' hl
    split at hb
    ·rename_i B _
     cases hc:(!B.sh && Md.lc B.md .bR) with
     |false=>rw [hc] at hb;cases hb
     |true=>rw [hc,cond_true,Option.some.injEq] at hb;rw [hl,hb]
    ·cases hb
   ·cases hb
  exact Mw hy fun v s hs=>h v s (hs.mono fun q hq=>List.mem_append_left _ hq)
 ·split
  ·rename_i a v sz i off hl
   refine aX ?_ rfl;have hW:Wc st [x,y] = .a (Kz a v off) :: (st.cf.filter fun p=>p.2.any (ag.Mt a)).map fun p=>.k p.1:=by simp only [Wc,hl]
   have hx:x = .one (.Eb a v sz i off):=by cases x<;>simp [ae.bM] at hl;rw [hl]
   refine NS (W:=mZ [x,y] ++ Wc st [x,y]) ?_ ?_ fun s hs=>?_
   ·rw [hx];simp [mZ,ae.tg,fL]
   ·intro p hp hm
    rw [hW];exact List.mem_append_right _ (List.mem_cons_of_mem _ (List.mem_map.2 ⟨p,List.mem_filter.2 ⟨hp,hm⟩,rfl⟩))
   ·refine Fb fun v' s' Bk=>h v' s' (hs.trans (Bk.mono fun q hq=>?_))
    simp only [mZ,ae.tg,fL,List.append_nil,List.mem_append,List.mem_singleton] at hq;rcases hq with rfl | hq
    ·rw [hW];exact List.mem_append_right _ (List.mem_cons_self ..)
    ·refine List.mem_append_left _ ?_
     simp only [mZ,List.append_nil,List.mem_append];exact .inr hq
  ·exact Fb fun v s hs=>h v s (hs.mono fun q hq=>List.mem_append_left _ hq)
theorem MA{b:Builtin}{ts:List TypeId}{vs:List ae}{K K':ae→St→Option R}(h:∀ v s,qC (mZ vs ++ Wc st vs) st s→K v s=K' v s):np E b dst ts vs st K=np E b dst ts vs st K':=by
 unfold np
 repeat' (first | rfl | exact h _ _ (.refl _ _) | exact Mx h | apply aX | apply dT | intro _ | split)
theorem ME{K K':ae→St→Option R}(h:∀ v s,qC [] st s→K v s=K' v s):qL E T dst st K=qL E T dst st K':=by
 unfold qL
 repeat' (first | rfl | exact h _ _ ((qC.refl _ _).zF ‹St.arr _ _=none›) | apply aX | apply dT | intro _ | split)
theorem NN{K K':ae→St→Option R}(h:∀ v,K v st=K' v st):tC E T x y st K=tC E T x y st K':=by
 unfold tC
 repeat' (first | rfl | exact h _ | apply aX | apply dT | intro _ | split)
theorem Jl{K K':ae→St→Option R}(h:∀ v s,qC (fL [x.bM]) st s→K v s=K' v s):nH E T x y v st K=nH E T x y v st K':=by
 unfold nH
 repeat' (first | rfl | exact h _ _ ((qC.refl _ _).gJ (by rw [‹x.bM=ag.mu _›];simp [fL])) | apply aX | apply dT | intro _ | split)
def mR(s:iX):Prop:=∀{R:Type} {dst:Nat} {args:List ae} {st:St} {K K' KP KP':ae→St→Option R},
 (∀ v q,qC (s.Kh args st) st q→K v q=K' v q)→(∀ v q,ke st q→KP v q=KP' v q)→s.run dst args st K KP=s.run dst args st K' KP'
def zW(L:lh):Prop:=∀{R:Type} {st:St} {K K':Exit→St→Option R} {KP KP':ae→St→Option R},
 (∀ e q,ke st q→K e q=K' e q)→(∀ v q,ke st q→KP v q=KP' v q)→L.run st K KP=L.run st K' KP'
theorem JC(hS:∀ f s,E.AO f=some s→mR s){o:Oper}{K K' KP KP':ae→St→Option R}(h:∀ v s,qC (tW E o st) st s→K v s=K' v s)(hp:∀ v s,ke st s→KP v s=KP' v s):
  lS E o st K KP=lS E o st K' KP':=by
 have h0:∀ v,K v st=K' v st:=fun v=>h v st (.refl _ _);have p0:∀ v,KP v st=KP' v st:=fun v=>hp v st (.refl _);unfold lS;split
 ·exact h0 _
 ·exact h0 _
 ·split
  ·exact aX (h0 _) (h0 _)
  ·rfl
 ·split<;>first | exact h0 _ | rfl
 ·refine aX (NI fun v s hs=>h v s (hs.mono fun q hq=>by cases hq)) ?_
  split
  ·exact MH fun v s hs=>h v s (hs.mono fun q hq=>by cases hq)
  ·rfl
 ·split
  ·exact MH fun v s hs=>h v s (hs.mono fun q hq=>by cases hq)
  ·rfl
 ·exact HU h0
 ·rename_i T len ig ho
  exact aX (Gm fun v s hs=>h v s (hs.mono fun q hq=>by rw [List.map_map] at hq;simp only [tW,ho];exact hq)) (HT fun v s hs=>h v s (hs.mono fun q hq=>by rw [List.map_map] at hq;simp only [tW,ho];exact hq))
 ·exact JK h0
 ·rename_i T x v ho
  exact NR (fun s hs=>h _ s (hs.mono fun q hq=>by simp only [tW,ho];exact hq))
 ·exact My h0
 ·exact OS h0
 ·exact Dz h0
 ·exact Jk fun v s hs=>h v s (hs.mono fun q hq=>by cases hq)
 ·rename_i T x lo hi mx ho
  exact Qs fun v s hs=>h v s (hs.mono fun q hq=>by simpa only [tW,ho] using hq)
 ·exact AJ h0
 ·exact aX (HX h0) rfl
 ·exact AK h0
 ·exact HY h0
 ·split
  ·split
   ·exact h0 _
   ·rfl
  ·rfl
 ·rename_i c ho
  split
  ·rename_i b hb
   exact MA fun v s hs=>h v s (hs.mono fun q hq=>by simpa only [tW,ho,hb] using hq)
  ·rename_i f hf
   split
   ·rename_i s hs;exact hS _ s hs (fun v q hq=>h v q (hq.mono fun p hp=>by simpa only [tW,ho,hf,hs] using hp)) hp
   ·rfl
  ·rfl
 ·split
  ·split
   ·rfl
   ·exact h0 _
   ·rfl
  ·rfl
 ·split
  ·exact p0 _
  ·rfl
 ·exact ME fun v s hs=>h v s (hs.mono fun q hq=>by cases hq)
 ·exact NN h0
 ·rename_i T x k v ho
  exact Jl fun v s hs=>h v s (hs.mono fun q hq=>by simpa only [tW,ho] using hq)
 ·rfl
theorem FW(hS:∀ f s,E.AO f=some s→mR s){o:Oper}{K K' KP KP':ae→St→Option R}(h:∀ v s,ke st s→K v s=K' v s)(hp:∀ v s,ke st s→KP v s=KP' v s):
 lS E o st K KP=lS E o st K' KP':=JC hS (fun v s hs=>h v s hs.ix) hp
theorem RG{o:Oper}(ho:uP o.op=true)(hd:xA E o st=true){K K' KP KP':ae→St→Option R}(h0:∀ v,K v st=K' v st):
  lS E o st K KP=lS E o st K' KP':=by
 unfold lS;split<;>rename_i mi<;>simp only [mi,uP,Bool.false_eq_true] at ho
 ·exact h0 _
 ·exact h0 _
 ·split
  ·exact aX (h0 _) (h0 _)
  ·rfl
 ·split<;>first | exact h0 _ | rfl
 ·exact HU h0
 ·exact JK h0
 ·exact My h0
 ·exact OS h0
 ·exact Dz h0
 ·simp only [xA,mi] at hd
  unfold tD
  repeat' (first | rfl | exact h0 _ | apply uu | apply dT | intro _ | split)
  all_goals simp_all
 ·exact AJ h0
 ·exact aX (HX h0) rfl
 ·exact AK h0
 ·exact HY h0
 ·split
  ·split
   ·exact h0 _
   ·rfl
  ·rfl
 ·split
  ·rename_i b hb
   simp only [hb] at ho;unfold np;split
   ·repeat' (first | rfl | exact h0 _ | apply aX | apply dT | intro _ | split)
   ·simp at ho
   ·repeat' (first | rfl | exact h0 _ | apply aX | apply dT | intro _ | split)
   ·repeat' (first | rfl | exact h0 _ | apply aX | apply dT | intro _ | split)
   ·rfl
  ·rename_i f hf;simp only [hf,Bool.false_eq_true] at ho
  ·rfl
 ·split
  ·split
   ·rfl
   ·exact h0 _
   ·rfl
  ·rfl
theorem AM{d:Option Tmp}{v:ae}{K K':St→Option R}(h:∀ s,ke st s→K s=K' s):oH d v st K=oH d v st K':=by
 cases d with
 |none=>exact h _ (.refl _)
 |some d=>exact aX rfl (h _ ⟨rfl,rfl,rfl,rfl⟩)
theorem DI(hS:∀ f s,E.AO f=some s→mR s){all:List Oper}:∀{l:List Oper} {st:St} {K K':St→Option R} {KP KP':ae→St→Option R},(∀ s,ke st s→K s=K' s)→(∀ v s,ke st s→KP v s=KP' v s)→
  pG E all l st K KP=pG E all l st K' KP'
 |[],st,K,K',KP,KP',h,hp=>h _ (.refl _)
 |o :: rest,st,K,K',KP,KP',h,hp=>by
  have CE:∀ q,ke st q→lS E o q (fun v st'=>oH o.dst v st' fun s=>pG E all rest s K KP) KP=lS E o q (fun v st'=>oH o.dst v st' fun s=>pG E all rest s K' KP') KP':=fun q hq=>
   FW hS (fun v s hs=>AM fun s' Bk=>DI hS (fun s'' Mb=>h _ (hq.trans (hs.trans (Bk.trans Mb)))) (fun v s'' Mb=>hp _ _ (hq.trans (hs.trans (Bk.trans Mb))))) (fun v s hs=>hp _ _ (hq.trans hs))
  have skip:∀ q,ke st q→oH o.dst (.one .uW) q (fun s=>pG E all rest s K KP)=oH o.dst (.one .uW) q (fun s=>pG E all rest s K' KP'):=fun q hq=>
   AM fun s hs=>DI hS (fun s'' Mb=>h _ (hq.trans (hs.trans Mb))) (fun v s'' Mb=>hp _ _ (hq.trans (hs.trans Mb)))
  simp only [pG];split
  ·exact CE _ (.refl _)
  ·split
   ·rfl
   ·split
    ·exact aX (aX (CE _ ⟨rfl,rfl,rfl,rfl⟩) (skip _ ⟨rfl,rfl,rfl,rfl⟩)) (aX (skip _ ⟨rfl,rfl,rfl,rfl⟩) (CE _ ⟨rfl,rfl,rfl,rfl⟩))
    ·exact skip _ (.refl _)
    ·rfl
theorem Ua(hS:∀ f s,E.AO f=some s→mR s){all:List Oper}{A:List (List Nat)}{i:Nat}{o:Oper}{log:List (Nat×List pM)}{K K':List (Nat×List pM)→St→Option R}{KP KP':ae→St→Option R}
  (h:∀ lg s,ke st s→K lg s=K' lg s) (hp:∀ v s,ke st s→KP v s=KP' v s):Fi E all A i o log st K KP=Fi E all A i o log st K' KP':=by
 unfold Fi;refine aX (aX (FW hS (fun v s hs=>AM fun s' Bk=>h _ _ (hs.trans Bk)) fun v s hs=>hp _ _ hs) rfl) (aX (FW hS (fun v s hs=>AM fun s' Bk=>h _ _ (hs.trans Bk)) fun v s hs=>rfl) rfl)
theorem Ef(hS:∀ f s,E.AO f=some s→mR s){all:List Oper}{A:List (List Nat)}:∀{l:List Nat} {log:List (Nat×List pM)} {st:St} {K K':St→Option R} {KP KP':ae→St→Option R},(∀ s,ke st s→K s=K' s)→(∀ v s,ke st s→KP v s=KP' v s)→
  Gt E all A l log st K KP=Gt E all A l log st K' KP'
 |[],log,st,K,K',KP,KP',h,hp=>h _ (.refl _)
 |i :: rest,log,st,K,K',KP,KP',h,hp=>by
  have CE:∀ o q,ke st q→Fi E all A i o log q (fun lg s=>Gt E all A rest lg s K KP) KP=Fi E all A i o log q (fun lg s=>Gt E all A rest lg s K' KP') KP':=fun o q hq=>
   Ua hS (fun lg s hs=>Ef hS (fun s' Bk=>h _ (hq.trans (hs.trans Bk))) (fun v s' Bk=>hp _ _ (hq.trans (hs.trans Bk)))) (fun v s hs=>hp _ _ (hq.trans hs))
  have skip:∀(o:Oper) q,ke st q→oH o.dst (.one .uW) q (fun s=>Gt E all A rest log s K KP)=oH o.dst (.one .uW) q (fun s=>Gt E all A rest log s K' KP'):=fun o q hq=>
   AM fun s hs=>Ef hS (fun s'' Mb=>h _ (hq.trans (hs.trans Mb))) (fun v s'' Mb=>hp _ _ (hq.trans (hs.trans Mb)))
  simp only [Gt,Vj];split
  ·rfl
  ·split
   ·exact CE _ _ (.refl _)
   ·split
    ·rfl
    ·split
     ·exact aX (aX (CE _ _ ⟨rfl,rfl,rfl,rfl⟩) (skip _ _ ⟨rfl,rfl,rfl,rfl⟩)) (aX (skip _ _ ⟨rfl,rfl,rfl,rfl⟩) (CE _ _ ⟨rfl,rfl,rfl,rfl⟩))
     ·exact skip _ _ (.refl _)
     ·rfl
theorem Wp(hS:∀ f s,E.AO f=some s→mR s){ops:List Oper}{K K':St→Option R}{KP KP':ae→St→Option R}(h:∀ s,ke st s→K s=K' s)(hp:∀ v s,ke st s→KP v s=KP' v s):
  T5 E ops st K KP=T5 E ops st K' KP':=by
 unfold T5;refine aX ?_ rfl;split
 ·exact aX (Ef hS h hp) rfl
 ·rfl
theorem O5(hS:∀ f s,E.AO f=some s→mR s)(hL:∀ i L,E.nY i=some L→zW L)(c:Code):∀{st:St} {K K':Exit→St→Option R} {KP KP':ae→St→Option R},
  (∀ e s,ke st s→K e s=K' e s)→(∀ v s,ke st s→KP v s=KP' v s)→so E c st K KP=so E c st K' KP':=by
 induction c with
 |skip=>intro st K K' KP KP' h hp;exact h _ _ (.refl _)
 |region id ops draw=>
  intro st K K' KP KP' h hp;refine aX ?_ (DI hS (fun s hs=>h _ s hs) hp);cases hl:E.nY (id + 1000000) with
  |some L=>exact hL _ _ hl h hp
  |none=>exact Wp hS (fun s hs=>h _ s hs) hp
 |seq a b Mf Qa=>
  intro st K K' KP KP' h hp;refine Mf (fun e s hs=>?_) hp;cases e with
  |normal=>exact Qa (fun e s' Bk=>h e s' (hs.trans Bk)) (fun v s' Bk=>hp v s' (hs.trans Bk))
  |_=>exact h _ s hs
 |cond c t e iht ihe=>
  intro st K K' KP KP' h hp;show(match (ev E st c).EZ with | some b=>bif b then so E t st K KP else so E e st K KP | none=>none)=(match (ev E st c).EZ with | some b=>bif b then so E t st K' KP' else so E e st K' KP' | none=>none)
  split
  ·exact aX (iht h hp) (ihe h hp)
  ·rfl
 |block id b ih=>
  intro st K K' KP KP' h hp;show(match E.nY id with
   |some L=>L.run st K KP
   |none=>so E b st (fun e s=>match e with | .exit i=>(bif Nat.beq i id then K .normal s else K (.exit i) s) | e=>K e s) KP)=(match E.nY id with
   |some L=>L.run st K' KP'
   |none=>so E b st (fun e s=>match e with | .exit i=>(bif Nat.beq i id then K' .normal s else K' (.exit i) s) | e=>K' e s) KP')
  split
  ·rename_i L hl;exact hL _ _ hl h hp
  ·refine ih (fun e s hs=>?_) hp
   cases e with
   |exit i=>exact aX (h _ s hs) (h _ s hs)
   |_=>exact h _ s hs
 |exit id=>intro st K K' KP KP' h hp;exact h _ _ (.refl _)
 |ret=>intro st K K' KP KP' h hp;exact h _ _ (.refl _)
 |_=>intros;rfl
end
end Go.Fx
namespace Go.Fx
section
variable {E:sd} {st s:St} {o:Oper}
theorem MJ(hD:∀ f s,E.AO f=some s→oT s)(ho:uP o.op=true)(hd:xA E o st=true){u:Out}(h:Gp E o st=some u):u=⟨u.v,st,true⟩:=by
 have h1:lS E o st (fun v _=>nX v st) (fun _ _=>none)=some u:=by exact(RG (E:=E) (st:=st) ho hd (K:=nX) (K':=fun v _=>nX v st) (KP:=NU) (KP':=fun _ _=>none) (fun v=>rfl)).symm.trans h
 rw [Bf hD h] at h1;obtain⟨v,q,b⟩:=u;cases b with
 |false=>cases h1
 |true=>simp only [sw,cond_true,nX,Option.some.injEq,Out.mk.injEq] at h1;rw [←h1.2.1]
theorem Yy(hD:∀ f s,E.AO f=some s→oT s)(hS:∀ f s,E.AO f=some s→mR s){u:Out}(h:Gp E o st=some u):ke st u.s∧(u.ok=true→qC (tW E o st) st u.s):=by
 classical
 have h1:lS E o st (fun v q=>if qC (tW E o st) st q then nX v q else none) (fun v q=>if ke st q then NU v q else none)=some u:=by rw [←h];exact(JC hS (fun v q hq=>(if_pos hq).symm) (fun v q hq=>(if_pos hq).symm)).symm
 rw [Bf hD h] at h1;obtain⟨v,q,b⟩:=u;cases b with
 |false=>
  simp only [sw,cond_false] at h1;split at h1
  ·rename_i hb;exact⟨hb,fun e=>by cases e⟩
  ·cases h1
 |true=>
  simp only [sw,cond_true] at h1;split at h1
  ·rename_i hb;exact⟨hb.ix,fun _=>hb⟩
  ·cases h1
def ss(st s:St):pM→Prop
 |.o ob off n=>∀ ls,st.dM ob=some ls→∃ wF,s.dM ob=some wF∧wF.length=ls.length∧∀ j,off≤j→j < off + n→wF[j]? = ls[j]?
 |.a a=>(∀ A,st.arr a=some A→s.arr a=some A)∧s.dA a=st.dA a
 |.k _=>True
 |.all=>True
theorem ss.refl(st:St):∀ p,ss st st p
 |.o _ _ _=>fun ls h=>⟨ls,h,rfl,fun _ _ _=>rfl⟩
 |.a _=>⟨fun _ h=>h,rfl⟩
 |.k _=>trivial
 |.all=>trivial
theorem ss.trans{a b c:St}:∀{p:pM},ss a b p→ss b c p→ss a c p
 |.o _ _ _,h,k=>fun ls hl=>by obtain⟨l1,h1,h2,h3⟩:=h ls hl;obtain⟨l2,k1,k2,k3⟩:=k l1 h1;exact⟨l2,k1,k2.trans h2,fun j a b=>(k3 j a b).trans (h3 j a b)⟩
 |.a _,h,k=>⟨fun A hA=>k.1 A (h.1 A hA),k.2.trans h.2⟩
 |.k _,_,_=>trivial
 |.all,_,_=>trivial
theorem qC.lb{W:List pM}(h:qC W st s){p:pM}(hp:∀ q∈W,Tr p q=true):ss st s p:=by
 cases p with
 |o ob off n=>
  intro ls hl;obtain⟨l1,h1,h2,h3⟩:=h.dM ob ls hl (fun hk=>by have:=hp _ hk;simp [Tr] at this) (fun hk=>by have:=hp _ hk;simp [Tr] at this)
  refine⟨l1,h1,h2,fun j a b=>h3 j fun q hq hh=>?_⟩;have:=hp q hq;cases q with
  |a x=>exact hh
  |k x=>exact hh
  |all=>exact hh
  |o ob' acs n'=>obtain⟨rfl,h4,h5⟩:=hh;simp only [Tr,Nat.beq_refl,Bool.not_true,Bool.false_or,Bool.or_eq_true] at this;rcases this with e | e<;>have:=Nat.le_of_ble_eq_true e<;>omega
 |a x=>
  have hn:pM.a x∉W:=fun hx=>by have:=hp _ hx;simp [Tr] at this
  have ha:pM.all∉W:=fun hk=>by have:=hp _ hk;simp [Tr] at this
  exact⟨fun A hA=>h.arr x A hA hn ha,h.DS x hn ha⟩
 |k x=>trivial
 |all=>trivial
theorem As{st s:St}(h1:s.cf=st.cf)(h2:s.cK=st.cK)(h3:s.fN=st.fN)(h4:s.DS=st.DS)(p:pM):ss st s p:=by
 cases p with
 |o ob off n=>exact fun ls hl=>⟨ls,by simpa only [St.dM,h1] using hl,rfl,fun _ _ _=>rfl⟩
 |a x=>exact⟨fun A hA=>(by simpa only [St.arr,h2,h3] using hA),by simp only [St.dA,h4]⟩
 |k x=>trivial
 |all=>trivial
theorem T3{st s:St}{o off n:Nat}{ls wF:List ag}{c:List ag}(hb:s.cA=st.cA)(hl:wF.length=ls.length)(hj:∀ j,off≤j→j < off + n→wF[j]? = ls[j]?)(h:qr (st.jT o 0 ls) off n=some c):qr (s.jT o 0 wF) off n=some c:=by
 have wa:∀(q:St) (l:List ag) (i j:Nat),(q.jT o i l)[j]? = (l[j]?).map (q.res o (i + j)):=by
  intro q l;induction l with
  |nil=>intro i j;simp [St.jT]
  |cons x l ih=>
   intro i j;cases j with
   |zero=>simp [St.jT]
   |succ j=>simp only [St.jT,List.getElem?_cons_succ];rw [ih,show i + 1 + j=i + (j + 1) by omega]
 have Ap:∀ j l,s.res o j l=st.res o j l:=fun j l=>by cases l<;>simp [St.res,hb]
 unfold qr at h ⊢;rw [iK] at h ⊢;rw [hl];cases hc:Nat.ble (off + n) ls.length with
 |false=>simp [hc] at h
 |true=>
  simp only [hc,cond_true,Option.some.injEq] at h ⊢;rw [←h];apply List.ext_getElem?;intro k;by_cases hk:k < n
  ·rw [List.getElem?_take_of_lt hk,List.getElem?_take_of_lt hk,List.getElem?_drop,List.getElem?_drop,wa,wa,hj _ (by omega) (by omega)]
   congr 1
   funext l;exact Ap _ l
  ·rw [List.getElem?_eq_none (by simp;omega),List.getElem?_eq_none (by simp;omega)]
theorem Ud(ho:uP o.op=true)(hd:xA E o st=true)(hb:ke st s)(he:∀ x∈o.op.operands,ev E s x=ev E st x)(hk:∀ p∈vC E o st,ss st s p):
  xA E o s=true∧∀{R:Type} {r:R} {K:ae→Option R},lS E o st (fun v _=>K v) (fun _ _=>none)=some r→lS E o s (fun v _=>K v) (fun _ _=>none)=some r:=by
 have hbl:s.cA=st.cA:=hb.2.2.1;have mu:∀{x:Operand} {a:Nat},(ev E st x).bM = .mu a→(∀ p∈fL [(ev E st x).bM],ss st s p)→∀ A,st.arr a=some A→s.arr a=some A:=fun {x a} hx hh A hA=>(hh (.a a) (by rw [hx];simp [fL])).1 A hA
 constructor
 ·unfold xA at hd ⊢
  split
  ·rename_i T x lo hi mx mi
   simp only [mi] at hd;rw [he x (by simp [mi,Op.operands])]
   split
   ·rename_i a ha
    rw [ha] at hd;simp only at hd;cases hA:st.arr a with
    |none=>simp [hA] at hd
    |some A=>rw [mu ha (fun p hp=>hk p (by simp only [vC,mi];exact hp)) A hA];simpa [hA] using hd
   ·rfl
  ·rfl
 ·intro R r K h
  unfold lS at h ⊢;split at h<;>rename_i mi<;>simp only [mi,uP,Bool.false_eq_true] at ho
  ·rw [he _ (by simp [mi,Op.operands])];exact h
  ·rw [he _ (by simp [mi,Op.operands])];exact h
  ·rename_i c a b
   rw [he c (by simp [mi,Op.operands]),he a (by simp [mi,Op.operands]),he b (by simp [mi,Op.operands])];exact h
  ·rw [he _ (by simp [mi,Op.operands])];exact h
  ·rename_i T ig
   have:(ig.toList.map fun p=>(p.1,ev E s p.2))=ig.toList.map fun p=>(p.1,ev E st p.2):=List.map_congr_left fun p hp=>by rw [he p.2 (by simp [mi,Op.operands];exact⟨p.1,by simpa using hp⟩)]
   rw [this];exact h
  ·rename_i T x
   rw [he x (by simp [mi,Op.operands])]
   have hk:∀ p∈(match (ev E st x).bM with | .mW ob off=>[pM.o ob off (wO E T)] | .C6 a _ _ _=>[.a a] | .KL a _ _=>[.a a] | _=>[]),ss st s p:=fun p hp=>hk p (by simp only [vC,mi];exact hp)
   unfold ym at h ⊢;split at h
   ·cases h
   ·rename_i ti hT
    simp only [hT];split at h
    ·rename_i ob off hx
     rw [hx] at hk;split at h
     ·rename_i ls hl
      obtain⟨wF,h1,h2,h3⟩:=hk _ (List.mem_singleton.2 rfl) ls hl;split at h
      ·rename_i c hc
       have mA:wO E T=ti.size:=by simp [wO,hT]
       rw [mA] at h3;simp only [h1,T3 hbl h2 h3 hc];exact h
      ·cases h
     ·cases h
    ·exact h
    ·exact h
    ·rename_i a sz i off hx
     rw [hx] at hk;split at h
     ·rename_i A hA
      have hv:=(hk _ (List.mem_singleton.2 rfl)).2;simp only [(hk _ (List.mem_singleton.2 rfl)).1 A hA,hv];exact h
     ·cases h
    ·rename_i a k n hx
     rw [hx] at hk;split at h
     ·rename_i A hA
      simp only [(hk _ (List.mem_singleton.2 rfl)).1 A hA];exact h
     ·cases h
    ·cases h
  ·rename_i op T x y ty
   rw [he x (by simp [mi,Op.operands]),he y (by simp [mi,Op.operands])];exact h
  ·rename_i op T x
   rw [he x (by simp [mi,Op.operands])];exact h
  ·rename_i S D x
   rw [he x (by simp [mi,Op.operands])]
   have hk:∀ p∈fL [(ev E st x).bM],ss st s p:=fun p hp=>hk p (by simp only [vC,mi];exact hp)
   have hA:∀ a,(ev E st x).bM = .mu a→∀ A,st.arr a=some A→s.arr a=some A:=fun a hx=>mu hx hk;revert h hA;generalize ev E st x=X;intro h hA;unfold pC at h ⊢;split at h
   ·rename_i si di hS hD
    split at h
    ·exact h
    ·exact h
    ·rename_i l
     split at h
     ·exact h
     ·rename_i a _
      split at h
      ·rename_i A hA'
       have:=hA a rfl A hA';simp only [this];exact h
      ·cases h
     ·cases h
    ·cases h
   ·cases h
  ·rename_i T x lo hi mx
   have hk:∀ p∈fL [(ev E st x).bM],ss st s p:=fun p hp=>hk p (by simp only [vC,mi];exact hp)
   rw [he x (by simp [mi,Op.operands])]
   have e1:lo.map (ev E s)=lo.map (ev E st):=by cases lo<;>simp;exact he _ (by simp [mi,Op.operands])
   have e2:hi.map (ev E s)=hi.map (ev E st):=by cases hi<;>simp;exact he _ (by simp [mi,Op.operands])
   have e3:mx.map (ev E s)=mx.map (ev E st):=by cases mx<;>simp;exact he _ (by simp [mi,Op.operands])
   rw [e1,e2,e3];simp only [xA,mi] at hd;have hA:∀ a,(ev E st x).bM = .mu a→∀ A,st.arr a=some A→s.arr a=some A:=fun a hx=>mu hx hk;revert hd h hA;generalize (ev E st x)=X;generalize lo.map (ev E st)=LO;generalize hi.map (ev E st)=HI;generalize mx.map (ev E st)=MX;intro h hd hA;unfold tD at h ⊢;split at h
   ·exact h
   ·split at h
    ·split at h
     ·rename_i hX;simp only [hX];exact h
     ·rename_i a hX
      rw [hX] at hd;split at h
      ·rename_i A hA'
       have:=hA a hX A hA';simp only [hA'] at hd;simp only [hX,this];simp only [hd,cond_true] at h ⊢;exact h
      ·cases h
     ·cases h
    ·cases h
   ·cases h
  ·rename_i T x f
   rw [he x (by simp [mi,Op.operands])];exact h
  ·rename_i T x f
   rw [he x (by simp [mi,Op.operands])];exact h
  ·rename_i T x i
   have hk:∀ p∈fL [(ev E st x).bM],ss st s p:=fun p hp=>hk p (by simp only [vC,mi];exact hp)
   rw [he x (by simp [mi,Op.operands]),he i (by simp [mi,Op.operands])]
   have hA:∀ a,(ev E st x).bM = .mu a→∀ A,st.arr a=some A→s.arr a=some A:=fun a hx=>mu hx hk;revert h hA;generalize ev E st x=X;generalize ev E st i=Y;intro h hA;unfold mj at h ⊢;split at h
   ·split at h
    ·split at h
     ·rename_i hX;simp only [hX];exact h
     ·rename_i a hX
      split at h
      ·rename_i A hA'
       simp only [hX,hA a hX A hA'];exact h
      ·cases h
     ·cases h
    ·cases h
   ·split at h
    ·split at h
     ·rename_i a hX
      split at h
      ·rename_i A hA'
       simp only [hX,hA a hX A hA'];exact h
      ·cases h
     ·rename_i hX;simp only [hX];exact h
     ·cases h
    ·cases h
   ·cases h
  ·rename_i T x i
   rw [he x (by simp [mi,Op.operands]),he i (by simp [mi,Op.operands])];exact h
  ·rename_i x n
   rw [he x (by simp [mi,Op.operands])];exact h
  ·rename_i c
   have hk:∀ p∈mZ (c.args.toList.map (ev E st)),ss st s p:=fun p hp=>hk p (by simp only [vC,mi];exact hp)
   have ea:c.args.toList.map (ev E s)=c.args.toList.map (ev E st):=List.map_congr_left fun x hx=>he x (by simp [mi,Op.operands,Call.operands];exact .inr (by simpa using hx))
   rw [ea];split at h
   ·rename_i b hb
    simp only [hb] at ho ⊢;have afd:∀{v:ae} {n:Int},(∀ p∈v.tg,ss st s p)→lenOf st v.bM=some n→lenOf s v.bM=some n:=fun {v n} hv hn=>by
     cases v with
     |one l=>
      cases l with
      |mu a=>
       simp only [ae.bM,lenOf] at hn ⊢;cases hA:st.arr a with
       |none=>simp [hA] at hn
       |some A=>rw [(hv (.a a) (by simp [ae.tg,fL])).1 A hA];simpa [hA] using hn
      |eZ t d=>cases t<;>exact hn
      |_=>exact hn
     |_=>exact hn
    revert hk h;generalize c.args.toList.map (ev E st)=vs;intro hk h;unfold np at h ⊢;split at h
    ·rename_i v
     split at h
     ·exact h
     ·split at h
      ·rename_i a vr sz i off hl
       have hve:v = .one (.Eb a vr sz i off):=by cases v<;>simp [ae.bM] at hl;rw [hl]
       have hka:=hk (.a a) (by rw [hve];simp [mZ,ae.tg,fL])
       split at h
       ·rename_i A hA
        simp only [hka.1 A hA,hka.2];exact h
       ·cases h
      ·split at h
       ·rename_i n h2 h3
        simp only [afd (fun p hp=>hk p (by simp [mZ,hp])) h2,h3];exact h
       ·cases h
     ·cases h
    ·simp at ho
    ·exact h
    ·exact h
    ·cases h
   ·rename_i f hf;simp only [hf,Bool.false_eq_true] at ho
   ·cases h
  ·rename_i T x
   rw [he x (by simp [mi,Op.operands])];exact h
end
end Go.Fx
namespace Go.Fx
section
variable {P:Program} {E:sd} (hE:iD P E.iw) {X:mt} {st:St} {G:Gh} {w:World}
include hE
theorem SU{o:Oper}{act:Act}{v:ae}(hs:uP o.op=true)(hd:xA E o st=true)(h:Gp E o st=some ⟨v,st,true⟩)(yH:m9 E.gt X.S0)(hm:aB X st G w)(hr:bL G st act):
  ∃ u G',(execOp act.eval o).run P w = .ok (.value u) w∧aB X st G' w∧(∀ a,bL G st a→bL G' st a)∧aU G' v u:=by
 have hg:m9 E.gt G.S:=yH.mono hm.s0;have kY:∀{s:Sem Value},(∃ av u,s.run P w = .ok u w∧aU G av u∧nX av st=some ⟨v,st,true⟩)→(execOp act.eval o=do pure (.value (←s)))→
   ∃ u G',(execOp act.eval o).run P w = .ok (.value u) w∧aB X st G' w∧(∀ a,bL G st a→bL G' st a)∧aU G' v u:=fun {s} ⟨av,u,h1,h2,h3⟩ he=>by
  simp only [nX,Option.some.injEq,Out.mk.injEq] at h3;exact⟨u,G,by rw [he,Sem.run_bind,h1];rfl,hm,fun _ h=>h,by rw [←h3.1];exact h2⟩
 have Ny:∀{av:ae} {u:Value},nX av st=some ⟨v,st,true⟩→aU G av u→(execOp act.eval o).run P w = .ok (.value u) w→
   ∃ u G',(execOp act.eval o).run P w = .ok (.value u) w∧aB X st G' w∧(∀ a,bL G st a→bL G' st a)∧aU G' v u:=fun {av u} h3 h2 he=>by
  simp only [nX,Option.some.injEq,Out.mk.injEq] at h3;exact⟨u,G,he,hm,fun _ h=>h,by rw [←h3.1];exact h2⟩
 unfold Gp lS at h;split at h<;>rename_i ho<;>simp only [ho,uP,Bool.false_eq_true] at hs
 ·rename_i x
  exact Ny h (fB hg hr x) (by simp [execOp,ho])
 ·rename_i x
  exact Ny h (fB hg hr x) (by simp [execOp,ho])
 ·rename_i c a b
  cases hc:(ev E st c).EZ with
  |none=>simp [hc] at h
  |some b'=>
   simp only [hc] at h;have hb:=vL hc (fB hg hr c);cases b' with
   |true=>simp only [cond_true] at h;exact Ny h (fB hg hr a) (by simp only [execOp,ho,hb];rfl)
   |false=>simp only [cond_false] at h;exact Ny h (fB hg hr b) (by simp only [execOp,ho,hb];rfl)
 ·rename_i x
  have hx:=fB hg hr x;have key:(∃ a,act.eval x = .pointer (some a))→nX (ev E st x) st=some ⟨v,st,true⟩→∃ u G',(execOp act.eval o).run P w = .ok (.value u) w∧aB X st G' w∧(∀ a,bL G st a→bL G' st a)∧aU G' v u:=fun⟨a,ha⟩ hk=>
   Ny hk hx (by simp only [execOp,ho,ha];rfl)
  cases hv:ev E st x with
  |one l=>
   rw [hv] at h hx key;cases l with
   |mW ob off=>exact key ⟨_,hx⟩ (by simpa [ae.bM] using h)
   |C6 a sz i off=>obtain⟨b,len,cap,h1,h2,h3⟩:=hx;exact key ⟨_,h3⟩ (by simpa [ae.bM] using h)
   |N0 t d off=>obtain⟨b,arr,elem,fz,pre,cs,post,h1,h2,h3,h4⟩:=hx;exact key ⟨_,h4⟩ (by simpa [ae.bM] using h)
   |_=>simp [ae.bM] at h
  |_=>rw [hv] at h;simp [ae.bM] at h
 ·rename_i T ig
  refine kY (Mz hE h hm (HP hg hr _)) ?_;have:(List.map (fun p=>(p.1,act.eval p.2)) ig.toList).toArray=ig.map fun(i,x)=>(i,act.eval x):=by rw [←Array.toList_map]
  rw [this];simp only [execOp,ho]
 ·rename_i T x
  exact kY (Jj hE h hm (fB hg hr x)) (by simp only [execOp,ho])
 ·rename_i op T x y u
  exact kY (Sh hE h hm (fB hg hr x) (fB hg hr y)) (by simp only [execOp,ho];rfl)
 ·rename_i op T x
  exact kY (U3 h (fB hg hr x)) (by simp only [execOp,ho])
 ·rename_i S D x
  exact kY (HW hE h hm (fB hg hr x)) (by simp only [execOp,ho])
 ·rename_i T x lo hi mx
  have opt:∀(q:Option Operand),(∀ a,q.map (ev E st)=some a→∃ v,q.map act.eval=some v∧aU G a v)∧(q.map (ev E st)=none→q.map act.eval=none):=fun q=>by
   cases q with
   |none=>simp
   |some x=>simp;exact fB hg hr x
  obtain⟨av,u,st',G',h1,h2,h3,h4,h5⟩:=MI hE h hm (fB hg hr x) (opt lo).1 (opt lo).2 (opt hi).1 (opt hi).2 (opt mx).2;simp only [nX,Option.some.injEq,Out.mk.injEq,and_true] at h5;obtain⟨rfl,rfl⟩:=h5;exact⟨u,G',by simp only [execOp,ho,Sem.run_bind,h1];rfl,h2,h3,h4⟩
 ·rename_i T x f
  exact kY (DA hE h (fB hg hr x)) (by simp only [execOp,ho])
 ·rename_i T x f
  cases ha:(ev E st x).isAgg with
  |false=>simp [ha] at h
  |true=>simp only [ha,cond_true] at h;exact kY (MC hE h hm (fB hg hr x) (Dj ha (fB hg hr x))) (by simp only [execOp,ho])
 ·rename_i T x i
  exact kY (DB hE h hm (fB hg hr x) (fB hg hr i)) (by simp only [execOp,ho])
 ·rename_i T x i
  exact kY (MD hE h (fB hg hr x) (fB hg hr i)) (by simp only [execOp,ho])
 ·rename_i x n
  have hx:=fB hg hr x;split at h
  ·rename_i vs hv
   rw [hv] at hx;obtain⟨us,hu,ha⟩:=hx;cases hn:vs[n]? with
   |none=>simp [hn] at h
   |some p=>
    simp only [hn] at h;obtain⟨u,hu2,hp⟩:=ha.wa hn;refine kY (s:=Instr.extract (act.eval x) n) ⟨_,u,by simp [Instr.extract,hu,hu2],?_,h⟩ (by simp only [execOp,ho])
    unfold DC;split at hp
    ·rename_i hc;simp only [hc,cond_true];exact hp
    ·rename_i hc
     obtain⟨l,e,hl⟩:=hp;simp only [Bool.not_eq_true] at hc;simp only [hc,cond_false,e];exact hl
  ·cases h
 ·rename_i c
  split at h
  ·rename_i b hb
   simp only [hb] at hs;have xE:=Qi hg hr c.args.toList;obtain⟨cs0,Ga⟩:∃ cs0,(execOp act.eval o).run P w=(builtin b c.argTypes o.type cs0 (c.args.map act.eval)).run P w:=
    ⟨_,by simp only [execOp,ho,resolve,hb,Sem.run_bind,Sem.run_pure,Result.andThen_ok,invoke];rfl⟩
   have e1:(List.map act.eval c.args.toList).toArray=c.args.map act.eval:=by rw [←Array.toList_map]
   have e2:c.argTypes.toList.toArray=c.argTypes:=by simp
   rw [←e1,←e2] at Ga;revert h Ga xE;generalize c.args.toList.map (ev E st)=vs;generalize c.args.toList.map act.eval=us;generalize c.argTypes.toList=ts;intro h xE Ga;unfold np at h;split at h
   ·rename_i v'
    obtain⟨u,rfl⟩:∃ u,us = [u]:=by
     cases us with
     |nil=>exact xE.elim
     |cons u us=>cases us with
      |nil=>exact⟨u,rfl⟩
      |cons _ _=>exact xE.2.elim
    cases ts with
    |nil=>simp at h
    |cons t ts=>
     simp only [List.getElem?_cons_zero,Option.bind_some] at h;split at h
     ·rename_i hT
      split at h
      ·rename_i s hs
       cases Cj hs xE.1;have hu:=(hE _ _ hT).str;exact Ny h (kE .i64 _) (by rw [Ga];simp [builtin,Builtin.len_,run_underlying hu,kl,goInt];rfl)
      ·cases h
     ·rename_i hT
      split at h
      ·rename_i a vr sz i off hl
       have hr:=xE.1;rw [show v' = .one (.Eb a vr sz i off) by cases v'<;>simp [ae.bM] at hl;rw [hl]] at hr
       split at h
       ·rename_i A hA
        cases hc:(A.sh || !Md.lc A.md .bR || !Nat.beq vr (st.dA a) || !Nat.beq sz A.t.size || !A.t.rE) with
        |true=>rw [hc] at h;cases h
        |false=>
         rw [hc,cond_false] at h;obtain⟨x,hx,h⟩:=Option.bind_eq_some_iff.1 h;split at h
         ·rename_i n hn
          obtain⟨b,m,c,hv',rfl⟩:=OO hE hm hr hA hc hx hn;exact Ny h (kE .i64 _) (by rw [Ga];simp only [builtin,Sem.run_bind,K9 hE hT hv',Result.andThen_ok,Sem.run_pure])
         ·cases h
       ·cases h
      ·split at h
       ·rename_i n hn hs
        obtain⟨a,m,c,hv',rfl⟩:=Sl hE hn hs hm xE.1;exact Ny h (kE .i64 _) (by rw [Ga];simp only [builtin,Sem.run_bind,K9 hE hT hv',Result.andThen_ok,Sem.run_pure])
       ·cases h
     ·cases h
   ·simp at hs
   ·rename_i v' vs
    cases us with
    |nil=>exact xE.elim
    |cons u us=>
     split at h
     ·rename_i k a hi
      split at h
      ·rename_i n hn
       cases qc hi xE.1;exact Ny h (kE _ _) (by rw [Ga];simp only [builtin,Builtin.min_,Sem.run_bind,LS hn xE.2,Result.andThen_ok,Sem.run_pure])
      ·cases h
     ·cases h
   ·rename_i v' vs
    cases us with
    |nil=>exact xE.elim
    |cons u us=>
     split at h
     ·rename_i k a hi
      split at h
      ·rename_i n hn
       cases qc hi xE.1;exact Ny h (kE _ _) (by rw [Ga];simp only [builtin,Builtin.max_,Sem.run_bind,LR hn xE.2,Result.andThen_ok,Sem.run_pure])
      ·cases h
     ·cases h
   ·cases h
  ·rename_i f hf;simp only [hf,Bool.false_eq_true] at hs
  ·cases h
 ·rename_i T x
  cases hT:E.iw T with
  |none=>simp [hT] at h
  |some ti=>
   simp only [hT] at h;obtain⟨d,u1,u2⟩:=(hE T ti hT).uW;split at h
   ·cases h
   ·rename_i ls hl hd
    refine kY (s:=Instr.makeInterface T (act.eval x)) ⟨.zC T ls,.iface T (act.eval x),?_,⟨_,_,rfl,rfl,mr hm hl (fB hg hr x)⟩,h⟩ (by simp only [execOp,ho])
    simp only [Instr.makeInterface,Sem.run_bind,run_underlying u1,Result.andThen_ok];generalize ti.iF=q at u2 hd;cases d with
    |interface _=>cases q<;>first | exact u2.elim | exact(hd rfl).elim
    |_=>rfl
   ·cases h
end
end Go.Fx
namespace Go.Fx
theorem gI:∀{x:Nat} {l:List Nat},eV x l=true↔x∈l
 |x,[]=>by simp [eV]
 |x,y :: r=>by
  simp only [eV,Bool.or_eq_true,List.mem_cons,gI (l:=r)];constructor
  ·rintro(h | h)
   ·exact .inl (Nat.eq_of_beq_eq_true h)
   ·exact .inr h
  ·rintro(h | h)
   ·left;subst h;simp
   ·exact .inr h
theorem LK(e:Edge):eb e=Region.binds .any e:=by unfold eb Region.binds;cases e.ground<;>rfl
def N3(all:List Oper)(i k:Nat):Prop:=∃ o,all[i]? = some o∧∃ e∈o.after,eb e=true∧e.on=k
def Clo(all:List Oper)(L:Nat→Prop):Prop:=∀ i k,L i→N3 all i k→L k
inductive Reach(all:List Oper):Nat→Nat→Prop where
 |one {i k:Nat}:N3 all i k→Reach all i k
 |acj {i j k:Nat}:N3 all i j→Reach all j k→Reach all i k
theorem Clo.SG{all:List Oper}{L:Nat→Prop}(h:Clo all L){i k:Nat}(r:Reach all i k):L i→L k:=by
 induction r with
 |one a=>exact fun hi=>h _ _ hi a
 |acj a _ ih=>exact fun hi=>ih (h _ _ hi a)
theorem Clo.ready{all:List Oper}{L:Nat→Prop}(h:Clo all L){i k:Nat}(hi:∀ k,N3 all i k→L k)(r:Reach all i k):L k:=by
 cases r with
 |one a=>exact hi _ a
 |acj a r=>exact h.SG r (hi _ a)
theorem M6{k:Nat}:∀{l m:List Nat},k∈Wv l m→k∈l∨k∈m
 |[],m,h=>.inr h
 |x :: r,m,h=>by
  simp only [Wv] at h;cases hb:eV x m with
  |true=>
   simp only [hb,cond_true] at h;rcases M6 h with h | h
   ·exact .inl (List.mem_cons_of_mem _ h)
   ·exact .inr h
  |false=>
   simp only [hb,cond_false] at h;rcases M6 h with h | h
   ·exact .inl (List.mem_cons_of_mem _ h)
   ·rcases List.mem_cons.1 h with rfl | h
    ·exact .inl (List.mem_cons_self ..)
    ·exact .inr h
theorem On{acc:List (List Nat)}{k:Nat}:∀{l:List Edge} {m:List Nat},k∈l.foldl (fun m e=>bif eb e then Wv (e.on :: acc.getD e.on []) m else m) m→
  k∈m∨∃ e∈l,eb e=true∧(k=e.on∨k∈acc.getD e.on [])
 |[],m,h=>.inl h
 |e :: l,m,h=>by
  rw [List.foldl_cons] at h;rcases On h with h |⟨e',h1,h2,h3⟩
  ·cases hb:eb e with
   |false=>simp only [hb,cond_false] at h;exact .inl h
   |true=>
    simp only [hb,cond_true] at h;rcases M6 h with h | h
    ·refine .inr ⟨e,List.mem_cons_self ..,hb,?_⟩
     rcases List.mem_cons.1 h with h | h
     ·exact .inl h
     ·exact .inr h
    ·exact .inl h
  ·exact .inr ⟨e',List.mem_cons_of_mem _ h1,h2,h3⟩
theorem Ur{all:List Oper}:∀(rest pre:List Oper) (acc:List (List Nat)),all=pre ++ rest→acc.length=pre.length→(∀ i k,k∈acc.getD i []→Reach all i k)→
  ∀ i k,k∈(iL rest acc).getD i []→Reach all i k
 |[],pre,acc,_,_,h,i,k,hk=>h i k hk
 |o :: r,pre,acc,fo,jI,h,i,k,hk=>by
  simp only [iL] at hk;refine Ur r (pre ++ [o]) _ (by rw [fo];simp) (by simp [jI]) (fun i k hk=>?_) i k hk
  rcases Nat.lt_trichotomy i acc.length with hi | hi | hi
  ·rw [List.getD_eq_getElem?_getD,List.getElem?_append_left hi,←List.getD_eq_getElem?_getD] at hk
   exact h i k hk
  ·subst hi
   simp only [List.getD_eq_getElem?_getD,List.getElem?_concat_length,Option.getD_some] at hk;rcases On hk with hk |⟨e,h1,h2,h3⟩
   ·cases hk
   ·have ha:N3 all acc.length e.on:=⟨o,by rw [fo,jI];simp,e,by simpa using h1,h2,rfl⟩
    rcases h3 with rfl | h3
    ·exact .one ha
    ·exact .acj ha (h _ _ (by rw [List.getD_eq_getElem?_getD];simpa [List.getD_eq_getElem?_getD] using h3))
  ·rw [List.getD_eq_getElem?_getD,List.getElem?_eq_none (by simp;omega)] at hk
   cases hk
theorem DV{all:List Oper}{i k:Nat}(h:k∈(iL all []).getD i []):Reach all i k:=
 Ur all [] [] rfl rfl (fun i k h=>by simp at h) i k h
theorem K8{all:List Oper}{done:List Nat}{i:Nat}:rdy all done i=true↔i∉done∧∃ o,all[i]? = some o∧∀ e∈o.after,eb e=true→e.on∈done:=by
 unfold rdy;cases ho:all[i]? with
 |none=>simp
 |some o=>
  simp only [Bool.and_eq_true,Bool.not_eq_true',List.all_eq_true,Bool.or_eq_true,Option.some.injEq,exists_eq_left'];constructor
  ·rintro⟨h1,h2⟩
   refine⟨(fun h=>(by rw [gI.2 h] at h1;cases h1)),fun e he hb=>?_⟩
   rcases h2 e (by simpa using he) with h | h
   ·rw [hb] at h;cases h
   ·exact gI.1 h
  ·rintro⟨h1,h2⟩
   refine⟨(by
    cases hm:eV i done with
    |false=>rfl
    |true=>exact absurd (gI.1 hm) h1),fun e he=>?_⟩
   cases hb:eb e with
   |false=>exact .inl rfl
   |true=>exact .inr (gI.2 (h2 e (by simpa using he) hb))
theorem K0{all:List Oper}{done:List Nat}{k:Nat}:k∈(List.range all.length).filter (rdy all done)↔rdy all done k=true:=by rw [List.mem_filter,List.mem_range];refine⟨fun h=>h.2,fun h=>⟨?_,h⟩⟩;obtain⟨_,o,ho,_⟩:=K8.1 h;exact(List.getElem?_eq_some_iff.1 ho).1
theorem IK{all:List Oper}{A:List (List Nat)}:∀{n:Nat} {done:List Nat},∃ l,l∈iP all A n done
 |0,_=>⟨[],List.mem_singleton.2 rfl⟩
 |n + 1,done=>by
  simp only [iP];split
  ·exact⟨[],List.mem_singleton.2 rfl⟩
  ·rename_i i r _
   split
   ·rename_i k _
    obtain⟨l,hl⟩:=IK (all:=all) (A:=A) (n:=n) (done:=k :: done);exact⟨k :: l,List.mem_map_of_mem hl⟩
   ·obtain⟨l,hl⟩:=IK (all:=all) (A:=A) (n:=n) (done:=i :: done)
    exact⟨i :: l,List.mem_flatMap.2 ⟨i,List.mem_cons_self ..,List.mem_map_of_mem hl⟩⟩
theorem MW{all:List Oper}{A:List (List Nat)}{k:Nat}:JS all A k=true↔∃ o,all[k]? = some o∧pE all A k o=false:=by
 unfold JS;cases h:all[k]? with
 |none=>simp
 |some o=>simp
end Go.Fx
namespace Go.Fx
theorem bL.put{G:Gh}{st:St}{act:Act}{d:Tmp}{av:ae}{v:Value}(hr:bL G st act)(hd:d < st.n)(hv:aU G av v):bL G (st.jV d av) (act.put (some d) v):=by
 obtain⟨h1,h2,h3⟩:=hr;refine⟨h1,by simp [Act.put,h2,St.jV],fun i x hx=>?_⟩
 rw [qm] at hx;simp only [Act.put];by_cases e:d=i
 ·subst e
  simp only [if_true,Option.some.injEq] at hx;subst hx;have:d < act.tmps.size:=by rw [h2];exact hd
  simpa [Array.getD,this] using hv
 ·simp only [e,if_false] at hx
  have:=h3 i x hx;simpa [Array.getD_eq_getD_getElem?,Array.getElem?_setIfInBounds,e] using this
theorem bL.refine{G:Gh}{st:St}{act:Act}{d:Nat}{av:ae}(hr:bL G st act)(hv:aU G av (act.tmps.getD d undef)):bL G (st.jV d av) act:=by
 obtain⟨h1,h2,h3⟩:=hr;refine⟨h1,h2,fun i x hx=>?_⟩;rw [qm] at hx;by_cases e:d=i
 ·subst e;simp only [if_true,Option.some.injEq] at hx;subst hx;exact hv
 ·simp only [e,if_false] at hx;exact h3 i x hx
theorem aB.jV{X:mt}{st:St}{G:Gh}{w:World}(hm:aB X st G w)(d:Nat)(av:ae):aB X (st.jV d av) G w:=
 {
  sl:=hm.sl,sh:=hm.sh,ob:=fun o ls h=>by obtain⟨arr,elem,mid,g1,g2,g3⟩:=hm.ob o ls h;refine⟨arr,elem,mid,g1,g2,?_⟩;unfold ie at g3 ⊢;rw [jU (st:=st) (fun j l=>by simp)];exact g3
  ar:=hm.ar,ah:=hm.ah,nd:=hm.nd,pX:=hm.pX,dS:=hm.dS,s6:=hm.s6,s0:=hm.s0,sn:=hm.sn,fr:=hm.fr,sz:=hm.sz,os:=hm.os,tp:=hm.tp,out:=hm.out,pin:=hm.pin,bv:=hm.bv,ap:=hm.ap,hv:=hm.hv,ds:=hm.ds,hh:=hm.hh}
def yo(d:Option Tmp)(v:ae)(st:St):Option St:=oH d v st some
theorem OW{d:Option Tmp}{v:ae}{st:St}{R:Type}{r:R}{K:St→Option R}(h:oH d v st K=some r):∃ s,yo d v st=some s∧K s=some r:=by
 cases d with
 |none=>exact⟨st,rfl,h⟩
 |some d=>
  simp only [yo,oH] at h ⊢;cases hc:((look st.jh d).isSome || Nat.ble st.n d) with
  |true=>simp [hc] at h
  |false=>simp only [hc,cond_false] at h ⊢;exact⟨_,rfl,h⟩
theorem AN{d:Option Tmp}{v:ae}{st s:St}(h:yo d v st=some s):
  ke st s∧s.cf=st.cf∧s.cK=st.cK∧(∀ t,(∀ e,d=some e→e≠t)→s.ii t=st.ii t)∧(∀ e,d=some e→s.ii e=some v∧e < st.n):=by
 cases d with
 |none=>simp only [yo,oH,Option.some.injEq] at h;subst h;exact⟨.refl _,rfl,rfl,fun _ _=>rfl,fun _ h=>by cases h⟩
 |some d=>
  simp only [yo,oH] at h;cases hc:((look st.jh d).isSome || Nat.ble st.n d) with
  |true=>simp [hc] at h
  |false=>
   simp only [hc,cond_false,Option.some.injEq] at h;subst h;simp only [Bool.or_eq_false_iff] at hc;refine⟨⟨rfl,rfl,rfl,rfl⟩,rfl,rfl,fun t ht=>by rw [qm,if_neg (ht d rfl)],fun e he=>?_⟩
   cases he;refine⟨by rw [qm,if_pos rfl],?_⟩
   rcases Nat.lt_or_ge d st.n with h | h
   ·exact h
   ·have:=Nat.ble_eq_true_of_le h;rw [this] at hc;cases hc.2
theorem MO{d:Option Tmp}{v:ae}{st s:St}(h:yo d v st=some s):s.DS=st.DS:=by
 cases d with
 |none=>simp only [yo,oH,Option.some.injEq] at h;subst h;rfl
 |some d=>
  simp only [yo,oH] at h;cases hc:((look st.jh d).isSome || Nat.ble st.n d) with
  |true=>simp [hc] at h
  |false=>simp only [hc,cond_false,Option.some.injEq] at h;subst h;rfl
theorem SD{d:Option Tmp}{v:ae}{st s:St}(h:yo d v st=some s){X:mt}{G:Gh}{w:World}(hm:aB X st G w):aB X s G w:=by
 cases d with
 |none=>simp only [yo,oH,Option.some.injEq] at h;subst h;exact hm
 |some d=>
  simp only [yo,oH] at h;cases hc:((look st.jh d).isSome || Nat.ble st.n d) with
  |true=>simp [hc] at h
  |false=>simp only [hc,cond_false,Option.some.injEq] at h;subst h;exact hm.jV d v
theorem SC{d:Option Tmp}{v:ae}{u:Value}{st s:St}(h:yo d v st=some s){G:Gh}{act:Act}(hr:bL G st act)(hv:aU G v u):bL G s (act.put d u):=by
 cases d with
 |none=>simp only [yo,oH,Option.some.injEq] at h;subst h;exact hr
 |some d=>
  obtain⟨_,_,_,_,h5⟩:=AN h;have hd:=(h5 d rfl).2;simp only [yo,oH] at h;cases hc:((look st.jh d).isSome || Nat.ble st.n d) with
  |true=>simp [hc] at h
  |false=>simp only [hc,cond_false,Option.some.injEq] at h;subst h;exact hr.put hd hv
end Go.Fx
namespace Go.Fx
def u7(st s:St):Prop:=ke st s∧s.cf=st.cf∧(s.cK=st.cK∧s.DS=st.DS)∧∀ t,s.ii t=st.ii t
theorem u7.refl(st:St):u7 st st:=⟨.refl _,rfl,⟨rfl,rfl⟩,fun _=>rfl⟩
theorem Ia{st:St}{g:Nat}{v:ae}(h:st.ii g=some v):u7 st (st.jV g v):=
 ⟨⟨rfl,rfl,rfl,rfl⟩,rfl,⟨rfl,rfl⟩,fun t=>by
  rw [qm];by_cases e:g=t
  ·subst e;rw [if_pos rfl,h]
  ·rw [if_neg e]⟩
theorem u7.Ff{st s:St}(h:u7 st s){X:mt}{G:Gh}{w:World}(hm:aB X st G w):aB X s G w:=by
 obtain⟨⟨h1,h2,h3,h4⟩,h5,⟨h6,h8⟩,h7⟩:=h;have ho:∀ o,s.dM o=st.dM o:=fun o=>by simp only [St.dM,h5]
 have ha:∀ a,s.arr a=st.arr a:=fun a=>by simp only [St.arr,h6,(Prod.mk.inj h4).1]
 have Ap:∀ o j l,s.res o j l=st.res o j l:=fun o j l=>by cases l<;>simp [St.res,h3]
 have js:∀ x b,eW G s x b→eW G st x b:=fun x b hx=>by
  obtain⟨k,n⟩:=x;cases k with
  |false=>obtain⟨⟨ls,e⟩,e2⟩:=hx;exact⟨⟨ls,by rw [←ho];exact e⟩,e2⟩
  |true=>obtain⟨⟨A,e,e2⟩,e3⟩:=hx;exact⟨⟨A,by rw [←ha];exact e,e2⟩,e3⟩
 exact {
   sl:=hm.sl,sh:=hm.sh,ob:=fun o ls h=>(by
    obtain⟨arr,elem,mid,g1,g2,g3⟩:=hm.ob o ls (by rw [←ho];exact h)
    refine⟨arr,elem,mid,g1,g2,?_⟩;unfold ie at g3 ⊢;rw [jU (st:=st) (fun j l=>Ap o j l)];exact g3)
   ar:=fun a A h=>hm.ar a A (by rw [←ha];exact h),ah:=fun a A h=>hm.ah a A (by rw [←ha];exact h),nd:=fun a A h=>hm.nd a A (by rw [←ha];exact h)
   pX:=fun x y b hx hy=>hm.pX x y b (js x b hx) (js y b hy),dS:=fun x b hx=>hm.dS x b (js x b hx),s6:=fun x b hx=>hm.s6 x b (js x b hx)
   s0:=hm.s0,sn:=hm.sn,fr:=hm.fr,sz:=hm.sz,os:=hm.os,tp:=hm.tp,out:=hm.out
   pin:=fun o p h=>(by obtain⟨⟨ls,e⟩,e2⟩:=hm.pin o p h;exact⟨⟨ls,by rw [ho];exact e⟩,e2⟩)
   bv:=fun o j u h=>(by obtain⟨e1,⟨ls,e2,e3⟩,e4⟩:=hm.bv o j u h;exact⟨by rw [h3];exact e1,⟨ls,by rw [ho];exact e2,e3⟩,e4⟩),ap:=fun a u h=>(by obtain⟨e1,⟨A,e2⟩,e3⟩:=hm.ap a u h;exact⟨by rw [(Prod.mk.inj h4).2];exact e1,⟨A,by rw [ha];exact e2⟩,e3⟩),hv:=fun a=>(by rw [hm.hv a];simp only [St.dA,h8]),ds:=hm.ds,hh:=fun a A h=>hm.hh a A (by rw [←ha];exact h)}
theorem u7.ez{st s:St}(h:u7 st s){G:Gh}{act:Act}(hr:bL G st act):bL G s act:=
 ⟨hr.1,hr.2.1.trans h.1.1.symm,fun i v hv=>hr.2.2 i v (by rw [←h.2.2.2];exact hv)⟩
section
variable (E:sd) (all:List Oper)
def Wnt(o:Oper)(s:St):Prop:=o.guard=none∨∃ j sr g,o.guard=some (j,sr)∧p8 all j=some g∧s.ii g=some (.one (.eZ .bool sr))
def Unw(o:Oper)(s:St):Prop:=∃ j sr g,o.guard=some (j,sr)∧p8 all j=some g∧(s.ii g=some (.one .uW)∨s.ii g=some (.one (.eZ .bool (!sr))))
def CT(i:Nat)(log:List (Nat×List pM))(st:St)(next:List (Nat×List pM)→St→Prop)(KPok:ae→St→Prop):Prop:=
 ∃ o,all[i]? = some o∧∃ zH,u7 st zH∧
  ((Unw all o zH∧∃ s,yo o.dst (.one .uW) zH=some s∧next log s)∨
   (Wnt all o zH∧
    (pE all (iL all []) i o=true→log.all (fun p=>eV p.1 ((iL all []).getD i []) || GZ p.2 (tW E o zH))=true∧
     ∃ u,Gp E o zH=some u∧(u.ok=true→∃ s,yo o.dst u.v u.s=some s∧next log s)∧(u.ok=false→KPok u.v u.s))∧
    (pE all (iL all []) i o=false→xA E o zH=true∧∃ v,Gp E o zH=some ⟨v,zH,true⟩∧∃ s,yo o.dst v zH=some s∧next ((i,vC E o zH) :: log) s)))
def uX(Kok:St→Prop)(KPok:ae→St→Prop):Nat→List Nat→List (Nat×List pM)→St→Prop
 |0,_,_,st=>Kok st
 |n + 1,done,log,st=>(match (List.range all.length).filter (rdy all done) with
  |[]=>Kok st
  |i :: r=>(match (i :: r).find? (JS all (iL all [])) with
   |some k=>CT E all k log st (uX Kok KPok n (k :: done)) KPok
   |none=>∀ k∈i :: r,CT E all k log st (uX Kok KPok n (k :: done)) KPok))
theorem CT.mono{i:Nat}{log:List (Nat×List pM)}{st:St}{next abe:List (Nat×List pM)→St→Prop}{KPok Rb:ae→St→Prop}(h:CT E all i log st next KPok)(hn:∀ lg s,next lg s→abe lg s)(hp:∀ v s,KPok v s→Rb v s):CT E all i log st abe Rb:=by
 obtain⟨o,h1,zH,h2,h3⟩:=h;refine⟨o,h1,zH,h2,?_⟩;rcases h3 with ⟨h3,s1,h4,h5⟩ |⟨h3,h4,h5⟩
 ·exact .inl ⟨h3,s1,h4,hn _ _ h5⟩
 ·refine .inr ⟨h3,fun ht=>?_,fun ht=>?_⟩
  ·obtain⟨g1,u,g2,g3,g4⟩:=h4 ht
   exact⟨g1,u,g2,fun hu=>(by obtain⟨s1,g5,g6⟩:=g3 hu;exact⟨s1,g5,hn _ _ g6⟩),fun hu=>hp _ _ (g4 hu)⟩
  ·obtain⟨g1,v,g2,s1,g3,g4⟩:=h5 ht
   exact⟨g1,v,g2,s1,g3,hn _ _ g4⟩
theorem uX.mono{Kok acX:St→Prop}{KPok Rb:ae→St→Prop}(hk:∀ s,Kok s→acX s)(hp:∀ v s,KPok v s→Rb v s):∀{n:Nat} {done:List Nat} {log:List (Nat×List pM)} {st:St},uX E all Kok KPok n done log st→uX E all acX Rb n done log st
 |0,_,_,_,h=>hk _ h
 |n + 1,done,log,st,h=>by
  unfold uX at h ⊢;split
  ·rename_i hf;rw [hf] at h;exact hk _ h
  ·rename_i i r hf
   rw [hf] at h;simp only at h;split
   ·rename_i k hk';rw [hk'] at h;exact h.mono E all (fun lg s=>uX.mono hk hp) hp
   ·rename_i hk';rw [hk'] at h;exact fun k hkm=>(h k hkm).mono E all (fun lg s=>uX.mono hk hp) hp
inductive Zq(n:Nat)(done:List Nat):Prop where
 |sw:iP all (iL all []) n done = [[]]→(∀ Kok KPok log st,uX E all Kok KPok n done log st→Kok st)→((∀ i,rdy all done i=false)∨n=0)→Zq n done
 |JS (m k:Nat):n=m + 1→rdy all done k=true→(∀ o,all[k]? = some o→pE all (iL all []) k o=false)→(∀ r∈iP all (iL all []) m (k :: done),k :: r∈iP all (iL all []) n done)→
  (∀ Kok KPok log st,uX E all Kok KPok n done log st→CT E all k log st (uX E all Kok KPok m (k :: done)) KPok)→Zq n done
 |aes (m:Nat):n=m + 1→(∃ k,rdy all done k=true)→(∀ k,rdy all done k=true→(∀ o,all[k]? = some o→pE all (iL all []) k o=true)∧(∀ r∈iP all (iL all []) m (k :: done),k :: r∈iP all (iL all []) n done)∧
  (∀ Kok KPok log st,uX E all Kok KPok n done log st→CT E all k log st (uX E all Kok KPok m (k :: done)) KPok))→Zq n done
def kZ(n:Nat)(done:List Nat):Prop:=(iP all (iL all []) n done = [[]]∧∀ Kok KPok log st,uX E all Kok KPok n done log st→Kok st)∨
 ∃ m,n=m + 1∧(∃ k,rdy all done k=true)∧∀ k,rdy all done k=true→(∀ o,all[k]? = some o→pE all (iL all []) k o=true)∧(∀ r∈iP all (iL all []) m (k :: done),k :: r∈iP all (iL all []) n done)∧
  (∀ Kok KPok log st,uX E all Kok KPok n done log st→CT E all k log st (uX E all Kok KPok m (k :: done)) KPok)
theorem aaA(n:Nat)(done:List Nat):Zq E all n done:=by
 cases n with
 |zero=>exact .sw rfl (fun _ _ _ _ h=>h) (.inr rfl)
 |succ n=>
  cases hf:(List.range all.length).filter (rdy all done) with
  |nil=>
   refine .sw (by simp only [iP,hf]) (fun _ _ _ _ h=>by unfold uX at h;rw [hf] at h;exact h) (.inl fun i=>?_)
   cases hr:rdy all done i with
   |false=>rfl
   |true=>have:=K0.2 hr;rw [hf] at this;cases this
  |cons i r=>
   cases hs:(i :: r).find? (Go.Fx.JS all (iL all [])) with
   |some k=>
    have hm:=List.mem_of_find?_eq_some hs;rw [←hf] at hm;obtain⟨o,h1,h2⟩:=MW.1 (List.find?_some hs);refine .JS n k rfl (K0.1 hm) (fun o' ho'=>by rw [h1] at ho';cases ho';exact h2) (fun r' P7=>?_) (fun _ _ _ _ h=>?_)
    ·simp only [iP,hf,hs];exact List.mem_map_of_mem P7
    ·unfold uX at h;rw [hf] at h;simp only [hs] at h;exact h
   |none=>
    refine .aes n rfl ⟨i,K0.1 (by rw [hf];exact List.mem_cons_self ..)⟩ fun k hk=>?_
    have hm:=K0.2 hk;rw [hf] at hm;refine⟨fun o ho=>?_,fun r' P7=>?_,fun _ _ _ _ h=>?_⟩
    ·cases ht:pE all (iL all []) k o with
     |true=>rfl
     |false=>exact absurd (MW.2 ⟨o,ho,ht⟩) (by have:=List.find?_eq_none.1 hs k hm;simpa using this)
    ·simp only [iP,hf,hs];exact List.mem_flatMap.2 ⟨k,hm,List.mem_map_of_mem P7⟩
    ·unfold uX at h;rw [hf] at h;simp only [hs] at h;exact h k hm
end
section
variable {E:sd} {all:List Oper}
theorem tm{A:List (List Nat)}{i:Nat}{o:Oper}(h:pE all A i o=false):uP o.op=true:=by unfold pE at h;simp only [Bool.or_eq_false_iff,Bool.not_eq_false'] at h;exact h.1
variable (hD:∀ f s,E.AO f=some s→oT s)
include hD
omit hD in
theorem MN{ι:Type}(x0:ι){R:Type}{r:R}{d:Option Tmp}{v:ae}{st:St}{K:ι→St→Option R}(h:∀ x,oH d v st (K x)=some r):∃ s,yo d v st=some s∧∀ x,K x s=some r:=by obtain⟨s,h1,_⟩:=OW (h x0);refine⟨s,h1,fun x=>?_⟩;obtain⟨s',h3,h4⟩:=OW (h x);rw [h1] at h3;cases h3;exact h4
theorem Y5{ι:Type}(x0:ι){R:Type}{r:R}{i:Nat}{log:List (Nat×List pM)}{st:St}{K:ι→List (Nat×List pM)→St→Option R}{KP:ae→St→Option R}(h:∀ x,Vj E all (iL all []) i log st (K x) KP=some r):
  CT E all i log st (fun lg s=>∀ x,K x lg s=some r) (fun v s=>KP v s=some r):=by
 simp only [Vj] at h;split at h
 ·cases h x0
 ·rename_i o ho
  refine⟨o,ho,?_⟩;have CE:∀{zH:St},(∀ x,Fi E all (iL all []) i o log zH (K x) KP=some r)→
    (pE all (iL all []) i o=true→log.all (fun p=>eV p.1 ((iL all []).getD i []) || GZ p.2 (tW E o zH))=true∧
     ∃ u,Gp E o zH=some u∧(u.ok=true→∃ s,yo o.dst u.v u.s=some s∧∀ x,K x log s=some r)∧(u.ok=false→KP u.v u.s=some r))∧
    (pE all (iL all []) i o=false→xA E o zH=true∧∃ v,Gp E o zH=some ⟨v,zH,true⟩∧∃ s,yo o.dst v zH=some s∧∀ x,K x ((i,vC E o zH) :: log) s=some r):=fun {zH} h=>by
   unfold Fi at h;constructor
   ·intro ht
    simp only [ht,cond_true] at h;cases hl:(log.all fun p=>eV p.1 ((iL all []).getD i []) || GZ p.2 (tW E o zH)) with
    |false=>simp only [hl,cond_false] at h;cases h x0
    |true=>
     simp only [hl,cond_true] at h;obtain⟨u,h1,_⟩:=Ag hD (h x0);have h2:∀ x,sw (fun v st'=>oH o.dst v st' (K x log)) KP u=some r:=fun x=>by obtain⟨u',h3,h4⟩:=Ag hD (h x);rw [h1] at h3;cases h3;exact h4
     refine⟨rfl,u,h1,fun hu=>?_,fun hu=>?_⟩
     ·exact MN x0 (K:=fun x=>K x log) fun x=>by simpa only [sw,hu,cond_true] using h2 x
     ·simpa only [sw,hu,cond_false] using h2 x0
   ·intro ht
    simp only [ht,cond_false] at h;cases hd:xA E o zH with
    |false=>simp only [hd,cond_false] at h;cases h x0
    |true=>
     simp only [hd,cond_true] at h;obtain⟨u,h1,_⟩:=Ag hD (h x0);have hu:=MJ hD (tm ht) hd h1;have h2:∀ x,oH o.dst u.v zH (K x ((i,vC E o zH) :: log))=some r:=fun x=>by obtain⟨u',h3,h4⟩:=Ag hD (h x);rw [h1] at h3;cases h3;rw [hu] at h4;simpa only [sw,cond_true] using h4
     rw [hu] at h1;exact⟨rfl,u.v,h1,MN x0 (K:=fun x=>K x ((i,vC E o zH) :: log)) h2⟩
  have skip:∀{zH:St},(∀ x,oH o.dst (.one .uW) zH (K x log)=some r)→∃ s,yo o.dst (.one .uW) zH=some s∧∀ x,K x log s=some r:=fun {zH} h=>MN x0 (K:=fun x=>K x log) h;split at h
  ·rename_i hg
   exact⟨st,.refl _,.inr ⟨.inl hg,CE h⟩⟩
  ·rename_i j sr hg
   split at h
   ·cases h x0
   ·rename_i g hgd
    split at h
    ·rename_i c wB
     cases c with
     |true=>
      simp only [cond_true] at h;have hs:=Ia wB;have hre:(st.jV g (.one (.eZ .bool true))).ii g=some (.one (.eZ .bool true)):=by rw [qm,if_pos rfl]
      cases sr with
      |true=>simp only [cond_true] at h;exact⟨_,hs,.inr ⟨.inr ⟨j,_,g,hg,hgd,hre⟩,CE h⟩⟩
      |false=>simp only [cond_false] at h;exact⟨_,hs,.inl ⟨⟨j,_,g,hg,hgd,.inr hre⟩,skip h⟩⟩
     |false=>
      simp only [cond_false] at h;have hs:=Ia wB;have hre:(st.jV g (.one (.eZ .bool false))).ii g=some (.one (.eZ .bool false)):=by rw [qm,if_pos rfl]
      cases sr with
      |true=>simp only [cond_true] at h;exact⟨_,hs,.inl ⟨⟨j,_,g,hg,hgd,.inr hre⟩,skip h⟩⟩
      |false=>simp only [cond_false] at h;exact⟨_,hs,.inr ⟨.inr ⟨j,_,g,hg,hgd,hre⟩,CE h⟩⟩
    ·rename_i wB
     exact⟨st,.refl _,.inl ⟨⟨j,_,g,hg,hgd,.inl wB⟩,skip h⟩⟩
    ·cases h x0
theorem SK{R:Type}{r:R}{K:St→Option R}{KP:ae→St→Option R}:∀{n:Nat} {done:List Nat} {log:List (Nat×List pM)} {st:St},(∀ l∈iP all (iL all []) n done,Gt E all (iL all []) l log st K KP=some r)→
  uX E all (fun s=>K s=some r) (fun v s=>KP v s=some r) n done log st
 |0,done,log,st,h=>h [] (List.mem_singleton.2 rfl)
 |n + 1,done,log,st,h=>by
  have one:∀ k,(∀ l∈iP all (iL all []) n (k :: done),k :: l∈iP all (iL all []) (n + 1) done)→CT E all k log st (uX E all (fun s=>K s=some r) (fun v s=>KP v s=some r) n (k :: done)) (fun v s=>KP v s=some r):=fun k hk=>by obtain⟨l0,hl0⟩:=IK (all:=all) (A:=iL all []) (n:=n) (done:=k :: done);refine(Y5 hD (ι:={l // l∈iP all (iL all []) n (k :: done)}) ⟨l0,hl0⟩ (K:=fun x lg s=>Gt E all (iL all []) x.1 lg s K KP) (fun x=>h (k :: x.1) (hk x.1 x.2))).mono E all (fun lg s hn=>SK fun l hl=>hn ⟨l,hl⟩) (fun _ _ h=>h)
  unfold uX;split
  ·rename_i hf
   exact h [] (by simp only [iP,hf];exact List.mem_singleton.2 rfl)
  ·rename_i i r hf
   split
   ·rename_i k hs
    exact one k fun l hl=>by simp only [iP,hf,hs];exact List.mem_map_of_mem hl
   ·rename_i hs
    exact fun k hkm=>one k fun l hl=>by simp only [iP,hf,hs];exact List.mem_flatMap.2 ⟨k,hkm,List.mem_map_of_mem hl⟩
end
end Go.Fx
namespace Go.Fx
theorem vR{all:List Oper}{o:Oper}{j g:Nat}{sr:Bool}(h:o.guard=some (j,sr))(hg:p8 all j=some g):g∈sJ all o:=by simp [sJ,h,hg]
theorem Sa{t:Nat}:∀{l:List Operand},Operand.tmp t∈l→t∈QP l
 |x :: r,h=>by
  rcases List.mem_cons.1 h with rfl | h
  ·exact List.mem_cons_self ..
  ·have:=Sa h
   cases x<;>first | exact List.mem_cons_of_mem _ this | exact this
theorem Fa{all:List Oper}{o:Oper}{t:Nat}(h:Operand.tmp t∈o.op.operands):t∈sJ all o:=
 List.mem_append_right _ (Sa (by simpa using h))
theorem IP{o:Oper}{l:List Nat}:RD o l=true↔∃ d,o.dst=some d∧d∈l:=by
 unfold RD;cases o.dst with
 |none=>simp
 |some d=>simp [gI]
structure WN(all:List Oper):Prop where
 dst:∀(i j:Nat) (a b:Oper) (d:Nat),all[i]? = some a→all[j]? = some b→a.dst=some d→b.dst=some d→i=j
 aet:∀(i j:Nat) (a b:Oper) (d:Nat),all[i]? = some a→all[j]? = some b→b.dst=some d→d∈sJ all a→i≠j→j∈(iL all []).getD i []∨i∈(iL all []).getD j []
 self:∀(i:Nat) (a:Oper) (d:Nat),all[i]? = some a→a.dst=some d→d∉sJ all a
 sel:∀(i:Nat) (a:Oper) cs b,all[i]? = some a→a.op≠.select cs b
 low:∀(i:Nat) (a:Oper) (e:Edge),all[i]? = some a→e∈a.after→eb e=true→e.on < i
theorem Og{all:List Oper}:PM all=true→∀(i j:Nat) (a b:Oper) (d:Nat),i < j→all[i]? = some a→all[j]? = some b→a.dst=some d→b.dst≠some d:=by
 induction all with
 |nil=>intro _ i j a b d _ ha;simp at ha
 |cons o r ih=>
  intro h i j a b d hij ha hb hd hbd;simp only [PM,Bool.and_eq_true,Bool.not_eq_true'] at h;obtain⟨j,rfl⟩:∃ m,j=m + 1:=⟨j - 1,by omega⟩
  rw [List.getElem?_cons_succ] at hb;cases i with
  |zero=>rw [List.getElem?_cons_zero,Option.some.injEq] at ha;subst ha;have h1:=h.1;rw [hd] at h1;have h2:=List.any_eq_false.1 h1 b (List.mem_of_getElem? hb);simp [hbd] at h2
  |succ i=>rw [List.getElem?_cons_succ] at ha;exact ih h.2 i j a b d (by omega) ha hb hd hbd
theorem rB{all:List Oper}{i:Nat}{a:Oper}(h:all[i]? = some a):(a,i)∈all.zipIdx:=by rw [List.mem_zipIdx_iff_getElem?];simpa using h
theorem aap{all:List Oper}(h:C5 all (iL all [])=true):WN all:=by
 simp only [C5,Bool.and_eq_true] at h;obtain⟨⟨⟨h1,h2⟩,h3⟩,h4⟩:=h;refine⟨fun i j a b d ha hb hd hd'=>?_,fun i j a b d ha hb hd hl gY=>?_,fun i a d ha hd hl=>?_,fun i a cs b ha=>?_,fun i a e ha he hb=>?_⟩
 ·rcases Nat.lt_trichotomy i j with hij | hij | hij
  ·exact absurd hd' (Og h1 i j a b d hij ha hb hd)
  ·exact hij
  ·exact absurd hd (Og h1 j i b a d hij hb ha hd')
 ·have:=List.all_eq_true.1 (List.all_eq_true.1 h2 _ (rB ha)) _ (rB hb)
  simp only [Bool.or_eq_true,Bool.not_eq_true'] at this;rcases this with ((e | e) | e) | e
  ·exact absurd (Nat.eq_of_beq_eq_true e) gY
  ·rw [IP.2 ⟨d,hd,hl⟩] at e;cases e
  ·exact .inl (gI.1 e)
  ·exact .inr (gI.1 e)
 ·have:=List.all_eq_true.1 h4 _ (rB ha)
  simp only [Bool.and_eq_true,Bool.not_eq_true'] at this;rw [IP.2 ⟨d,hd,hl⟩] at this;cases this.1
 ·have:=List.all_eq_true.1 h3 a (List.mem_of_getElem? ha)
  intro e;simp [e] at this
 ·have:=List.all_eq_true.1 h4 _ (rB ha)
  simp only [Bool.and_eq_true,List.all_eq_true,Bool.or_eq_true,Bool.not_eq_true'] at this;rcases this.2 e (by simpa using he) with h | h
  ·rw [hb] at h;cases h
  ·simpa [Nat.blt_eq] using h
theorem JG{all:List Oper}{i j:Nat}{a b:Oper}{d:Nat}(ha:all[i]? = some a)(hb:all[j]? = some b)(hd:b.dst=some d)(hl:d∈sJ all a)(hn:j∉(iL all []).getD i []):pE all (iL all []) j b=true:=by
 unfold pE;simp only [Bool.or_eq_true];refine .inr (List.any_eq_true.2 ⟨(a,i),rB ha,?_⟩);simp only [Bool.and_eq_true,Bool.not_eq_true'];refine⟨IP.2 ⟨d,hd,hl⟩,?_⟩;cases hm:eV j ((iL all []).getD i []) with
 |false=>rfl
 |true=>exact absurd (gI.1 hm) hn
section act
variable {all:List Oper} {a b:Act}
def Ps(T:Nat→Prop)(a b:Act):Prop:=∀ t,T t→a.tmps[t]? = b.tmps[t]?
theorem VS{o:Oper}(h:Ps (fun t=>t∈sJ all o) a b):∀ x∈o.op.operands,a.eval x=b.eval x:=fun x hx=>by
 cases x with
 |tmp t=>have:=h t (Fa hx);simp only [Act.eval,Array.getD_eq_getD_getElem?,this]
 |_=>rfl
theorem RH{o:Oper}(hs:∀ cs b,o.op≠.select cs b)(h:Ps (fun t=>t∈sJ all o) a b):execOp a.eval o=execOp b.eval o:=execOp_congr o hs (VS h)
theorem S8{ops:Array Oper}{o:Oper}(h:Ps (fun t=>t∈sJ ops.toList o) a b):Region.wanted o (yielded ops a.tmps)=Region.wanted o (yielded ops b.tmps):=by
 unfold Region.wanted;cases hg:o.guard with
 |none=>rfl
 |some p=>
  obtain⟨j,sr⟩:=p;have:yielded ops a.tmps j=yielded ops b.tmps j:=by
   show(match (((ops[j]?).bind (·.dst)).bind (a.tmps[·]?)) with | some (.bool b)=>some b | _=>none)=(match (((ops[j]?).bind (·.dst)).bind (b.tmps[·]?)) with | some (.bool b)=>some b | _=>none)
   cases hd:(ops[j]?).bind (·.dst) with
   |none=>rfl
   |some g=>
    have hg':p8 ops.toList j=some g:=by simpa [p8] using hd
    simp only [Option.bind_some,h g (vR hg hg')]
  simp only [this]
end act
theorem Na{ops:Array Oper}{o:Oper}{s:St}{G:Gh}{a:Act}(hr:bL G s a)(h:Wnt ops.toList o s):Region.wanted o (yielded ops a.tmps)=true:=by
 rcases h with h |⟨j,sr,g,h1,h2,h3⟩
 ·simp [Region.wanted,h]
 ·have hv:=vL (v:=.one (.eZ .bool sr)) rfl (hr.2.2 g _ h3)
  have KU:(ops[j]?).bind (·.dst)=some g:=by simpa [p8] using h2
  have L5:a.tmps[g]? = some (.bool sr):=by
   rw [Array.getD_eq_getD_getElem?] at hv;cases hq:a.tmps[g]? with
   |none=>rw [hq] at hv;cases hv
   |some u=>rw [hq] at hv;simpa using hv
  simp [Region.wanted,h1,yielded,KU,L5]
theorem M9{ops:Array Oper}{o:Oper}{s:St}{G:Gh}{a:Act}(hr:bL G s a)(h:Unw ops.toList o s):Region.wanted o (yielded ops a.tmps)=false:=by
 obtain⟨j,sr,g,h1,h2,h3⟩:=h;have KU:(ops[j]?).bind (·.dst)=some g:=by simpa [p8] using h2
 rcases h3 with h3 | h3
 ·have hv:a.tmps.getD g undef=undef:=hr.2.2 g _ h3
  rw [Array.getD_eq_getD_getElem?] at hv;cases hq:a.tmps[g]? with
  |none=>simp [Region.wanted,h1,yielded,KU,hq]
  |some u=>rw [hq] at hv;simp only [Option.getD_some] at hv;subst hv;simp [Region.wanted,h1,yielded,KU,hq,undef]
 ·have hv:=vL (v:=.one (.eZ .bool (!sr))) rfl (hr.2.2 g _ h3)
  have L5:a.tmps[g]? = some (.bool (!sr)):=by
   rw [Array.getD_eq_getD_getElem?] at hv;cases hq:a.tmps[g]? with
   |none=>rw [hq] at hv;cases hv
   |some u=>rw [hq] at hv;simpa using hv
  cases sr<;>simp [Region.wanted,h1,yielded,KU,L5]
end Go.Fx
namespace Go.Fx
theorem Od{α:Type}{p q:α→Bool}:∀{l:List α},(∀ x∈l,q x=true→p x=true)→(∃ x∈l,p x=true∧q x=false)→l.countP q < l.countP p
 |[],_,⟨x,hx,_⟩=>by cases hx
 |a :: l,h,⟨x,hx,h1,h2⟩=>by
  have Bi:l.countP q≤l.countP p:=List.countP_mono_left fun y hy hq=>h y (List.mem_cons_of_mem _ hy) hq;rw [List.countP_cons,List.countP_cons];rcases List.mem_cons.1 hx with rfl | hx
  ·simp only [h1,h2,if_true,Bool.false_eq_true,if_false];omega
  ·have:=Od (fun y hy=>h y (List.mem_cons_of_mem _ hy)) ⟨x,hx,h1,h2⟩
   have ha:=h a (List.mem_cons_self ..);by_cases hq:q a=true
   ·simp only [hq,ha hq,if_true];omega
   ·rw [if_neg hq];split<;>omega
theorem QF{a:Act}{d:Option Tmp}{v:Value}{t:Nat}(h:d≠some t):(a.put d v).tmps[t]? = a.tmps[t]?:=by
 cases d with
 |none=>rfl
 |some d=>
  have:d≠t:=fun e=>h (by rw [e])
  simp [Act.put,Array.getElem?_setIfInBounds_ne this]
theorem sm(a:Act)(d:Option Tmp)(v:Value):(a.put d v).defers=a.defers:=by cases d<;>rfl
theorem DD(a:Act)(d:Option Tmp)(v:Value):(a.put d v).tmps.size=a.tmps.size:=by cases d<;>simp [Act.put]
theorem YK{a b:Act}{d:Option Tmp}{v:Value}{t:Nat}(hs:a.tmps.size=b.tmps.size)(h:d=some t):(a.put d v).tmps[t]? = (b.put d v).tmps[t]?:=by subst h;simp [Act.put,Array.getElem?_setIfInBounds,hs]
section
variable {E:sd} {all:List Oper}
theorem MR{o:Oper}{s st:St}(he:∀ x∈o.op.operands,ev E s x=ev E st x):vC E o s=vC E o st:=by
 unfold vC;split<;>rename_i mi
 ·rw [he _ (by simp [mi,Op.operands])]
 ·rw [he _ (by simp [mi,Op.operands])]
 ·rw [he _ (by simp [mi,Op.operands])]
 ·rw [he _ (by simp [mi,Op.operands])]
 ·rename_i c
  have:c.args.toList.map (ev E s)=c.args.toList.map (ev E st):=List.map_congr_left fun x hx=>he x (by simp [mi,Op.operands,Call.operands];exact .inr (by simpa using hx))
  rw [this]
 ·rfl
theorem UF{o:Oper}{s st:St}(h:∀ t∈sJ all o,s.ii t=st.ii t):∀ x∈o.op.operands,ev E s x=ev E st x:=fun x hx=>by
 cases x with
 |tmp t=>simp only [ev,h t (Fa hx)]
 |_=>rfl
theorem S9{o:Oper}{s st:St}(h:∀ t∈sJ all o,s.ii t=st.ii t)(hw:Wnt all o st):Wnt all o s:=by
 rcases hw with hw |⟨j,sr,g,h1,h2,h3⟩
 ·exact .inl hw
 ·exact .inr ⟨j,sr,g,h1,h2,by rw [h g (vR h1 h2)];exact h3⟩
theorem S4{o:Oper}{s st:St}(h:∀ t∈sJ all o,s.ii t=st.ii t)(hw:Unw all o st):Unw all o s:=by obtain⟨j,sr,g,h1,h2,h3⟩:=hw;exact⟨j,sr,g,h1,h2,by rw [h g (vR h1 h2)];exact h3⟩
variable (hD:∀ f s,E.AO f=some s→oT s)
include hD
theorem ad1{o:Oper}{s st:St}{v:ae}(ho:uP o.op=true)(hd:xA E o st=true)(h:Gp E o st=some ⟨v,st,true⟩)(hb:ke st s)(he:∀ x∈o.op.operands,ev E s x=ev E st x)(hk:∀ p∈vC E o st,ss st s p):
  xA E o s=true∧Gp E o s=some ⟨v,s,true⟩:=by
 obtain⟨h1,h2⟩:=Ud ho hd hb he hk;refine⟨h1,?_⟩;have h3:=h2 (K:=some) (r:=v) (by rw [Xf hD h])
 obtain⟨u,h4,h5⟩:=Ag hD h3;have h6:=MJ hD ho h1 h4;rw [h6] at h5 h4;simp only [sw,cond_true,Option.some.injEq] at h5;rw [h4,h5]
where
 Xf {o:Oper} {st:St} {v:ae} (hD:∀ f s,E.AO f=some s→oT s) (h:Gp E o st=some ⟨v,st,true⟩):lS E o st (fun v _=>some v) (fun _ _=>none)=some v:=by rw [Bf hD h];rfl
def Tg(E:sd)(all:List Oper)(i:Nat)(log:List (Nat×List pM))(s:St):Prop:=∃ o,all[i]? = some o∧pE all (iL all []) i o=false∧
 ((Unw all o s∧∀ d,o.dst=some d→s.ii d=some (.one .uW)∧d < s.n)∨
  (Wnt all o s∧xA E o s=true∧(i,vC E o s)∈log∧∃ v,Gp E o s=some ⟨v,s,true⟩∧∀ d,o.dst=some d→s.ii d=some v∧d < s.n))
theorem Tg.lb{k:Nat}{log Mm:List (Nat×List pM)}{s s1:St}(hp:Tg E all k log s)(hb:ke s s1)(wB:∀ o,all[k]? = some o→∀ t,t∈sJ all o∨o.dst=some t→s1.ii t=s.ii t)
  (hk:∀ rd,(k,rd)∈log→∀ p∈rd,ss s s1 p) (hl:∀ x∈log,x∈Mm):Tg E all k Mm s1:=by
 obtain⟨o,h1,h2,h3⟩:=hp;have hr:∀ t∈sJ all o,s1.ii t=s.ii t:=fun t ht=>wB o h1 t (.inl ht);refine⟨o,h1,h2,?_⟩;rcases h3 with ⟨h3,h4⟩ |⟨h3,h4,h5,v,h6,h7⟩
 ·exact .inl ⟨S4 hr h3,fun d hd=>by rw [wB o h1 d (.inr hd),hb.1];exact h4 d hd⟩
 ·have he:=UF (E:=E) hr
  obtain⟨g1,g2⟩:=ad1 hD (tm h2) h4 h6 hb he (hk _ h5);exact .inr ⟨S9 hr h3,g1,by rw [MR he];exact hl _ h5,v,g2,fun d hd=>by rw [wB o h1 d (.inr hd),hb.1];exact h7 d hd⟩
end
end Go.Fx
namespace Go.Fx
structure Inv(E:sd)(X:mt)(ops:Array Oper)(Kok:St→Prop)(KPok:ae→St→Prop)(n:Nat)(done:List Nat)(log:List (Nat×List pM))(s:St)(G:Gh)(as:Act)(ey:Array Bool)(act:Act)(w:World):Prop where
 can:uX E ops.toList Kok KPok n done log s
 cov:∀ l∈iP ops.toList (iL ops.toList []) n done,∀ i,i < ops.size→i∈done∨i∈l
 clo:Clo ops.toList (·∈done)
 TE:Clo ops.toList (fun i=>ey.getD i false=true)
 Mp:∀ i,ey.getD i false=true→i∈done
 lsz:ey.size=ops.size
 Ff:aB X s G w
 ii:bL G s as
 QA:∀ i,i∈done→ey.getD i false=false→Tg E ops.toList i log s
 dfs:act.defers=as.defers
 sz:act.tmps.size=as.tmps.size
 lc:∀ t,(∀ i o,i∈done→ey.getD i false=false→ops.toList[i]? = some o→o.dst≠some t)→act.tmps[t]? = as.tmps[t]?
section
variable {P:Program} {E:sd} (hE:iD P E.iw) (hS:∀ f s,E.AO f=some s→z7 P E.gt f s) (hC:∀ f s,E.AO f=some s→mR s) (hD:∀ f s,E.AO f=some s→oT s)
 {X:mt} (yH:m9 E.gt X.S0) {ops:Array Oper} (wC:WN ops.toList) {Q:Exit→Act→World→Prop} {Kok:St→Prop} {KPok:ae→St→Prop}
 (hK:∀ st G w act,aB X st G w→bL G st act→Kok st→Q .normal act w)
 (hP:∀ av v st G w act,aB X st G w→act.defers=G.ds→aU G av v→KPok av st→Q (.panic [{v,recovered:=false}]) act w)
theorem PS{ey:Array Bool}{i:Nat}(h:i < ey.size):ey.getD i true=ey.getD i false:=by simp [h]
theorem Aj{ey:Array Bool}{i:Nat}(h:i < ey.size)(j:Nat):(ey.setIfInBounds i true).getD j false=if i=j then true else ey.getD j false:=by
 by_cases e:i=j
 ·subst e;simp [h]
 ·rw [getD_set_ne false e,if_neg e]
theorem OU{s s1:St}{log Mm:List (Nat×List pM)}{done:List Nat}{ey:Array Bool}{i:Nat}{o:Oper}(hD:∀ f s,E.AO f=some s→oT s)(wC:WN ops.toList)(ado:Clo ops.toList (·∈done))(hi:i∉done)(ho:ops.toList[i]? = some o)
  (adG:∀ k,k∈done→ey.getD k false=false→Tg E ops.toList k log s)
  (hb:ke s s1) (wB:∀ t,o.dst≠some t→s1.ii t=s.ii t)
  (hk:∀ k rd,k∈done→ey.getD k false=false→(k,rd)∈log→∀ p∈rd,ss s s1 p) (hl:∀ x∈log,x∈Mm)
  (XR:pE ops.toList (iL ops.toList []) i o=false∨∀ k,Reach ops.toList i k→ey.getD k false=true):
  ∀ k,k∈done→ey.getD k false=false→Tg E ops.toList k Mm s1:=by
 intro k hkd zA;refine(adG k hkd zA).lb hD hb (fun ok hok t ht=>wB t fun hd=>?_) (fun rd zL=>hk k rd hkd zA zL) hl;have gY:k≠i:=fun e=>hi (e ▸ hkd);rcases ht with ht | ht
 ·rcases wC.aet k i ok o t hok ho hd ht gY with h | h
  ·exact hi (ado.SG (DV h) hkd)
  ·rcases XR with h' | h'
   ·by_cases hA:i∈(iL ops.toList []).getD k []
    ·exact hi (ado.SG (DV hA) hkd)
    ·rw [JG hok ho hd ht hA] at h';cases h'
   ·rw [h' k (DV h)] at zA;cases zA
 ·exact gY (wC.dst k i ok o t hok ho ht hd)
include hE hD yH wC in
theorem T7{ey:Array Bool}{act:Act}{w:World}:∀{n:Nat} {done:List Nat} {log:List (Nat×List pM)} {s:St} {G:Gh} {as:Act},Inv E X ops Kok KPok n done log s G as ey act w→
  ∃ n' LJ Yb s' G' as',Inv E X ops Kok KPok n' LJ Yb s' G' as' ey act w∧kZ E ops.toList n' LJ
 |n,done,log,s,G,as,h=>by
  cases aaA E (all:=ops.toList) n done with
  |sw h1 h2 _=>exact⟨n,done,log,s,G,as,h,.inl ⟨h1,h2⟩⟩
  |aes m h1 h2 h3=>exact⟨n,done,log,s,G,as,h,.inr ⟨m,h1,h2,h3⟩⟩
  |JS m i hnm hr fo Ga Mc=>
   subst hnm;obtain⟨hid,o',ho',PU⟩:=K8.1 hr;obtain⟨o,ho,zH,Bm,hc⟩:=Mc _ _ _ _ h.can;obtain rfl:o=o':=by rw [ho] at ho';exact Option.some.inj ho'
   have ht:=fo o ho;have EJ:ey.getD i false=false:=by
    cases hl:ey.getD i false with
    |false=>rfl
    |true=>exact absurd (h.Mp i hl) hid
   have Xt:Clo ops.toList (·∈i :: done):=fun a k ha hak=>by
    rcases List.mem_cons.1 ha with rfl | ha
    ·obtain⟨o2,h1,e,h2,h3,rfl⟩:=hak
     rw [ho] at h1;cases h1;exact List.mem_cons_of_mem _ (PU e h2 h3)
    ·exact List.mem_cons_of_mem _ (h.clo a k ha hak)
   have abQ:∀ l∈iP ops.toList (iL ops.toList []) m (i :: done),∀ k,k < ops.size→k∈i :: done∨k∈l:=fun l hl k hk=>by
    rcases h.cov _ (Ga l hl) k hk with h1 | h1
    ·exact .inl (List.mem_cons_of_mem _ h1)
    ·rcases List.mem_cons.1 h1 with rfl | h1
     ·exact .inl (List.mem_cons_self ..)
     ·exact .inr h1
   have aa3:∀ t∈sJ ops.toList o,o.dst≠some t:=fun t ht hd=>wC.self i o t ho hd ht;have go:∀{v:ae} {u:Value} {s1:St} {Mm:List (Nat×List pM)} {G1:Gh},yo o.dst v zH=some s1→aB X zH G1 w→bL G1 zH as→aU G1 v u→uX E ops.toList Kok KPok m (i :: done) Mm s1→
     (∀ x∈log,x∈Mm)→Tg E ops.toList i Mm s1→∃ n' LJ Yb s' G' as',Inv E X ops Kok KPok n' LJ Yb s' G' as' ey act w∧kZ E ops.toList n' LJ:=
    fun {v u s1 Mm G1} An hm hr hv IZ abX hpi=>by
     obtain⟨p1,p2,p3,p4,p5⟩:=AN An;have hb:ke s s1:=Bm.1.trans p1;refine T7 (n:=m) (done:=i :: done) (log:=Mm) (s:=s1) (G:=G1) (as:=as.put o.dst u)
      {
       can:=IZ,cov:=abQ,clo:=Xt,TE:=h.TE,Mp:=fun k hk=>List.mem_cons_of_mem _ (h.Mp k hk),lsz:=h.lsz
       Ff:=SD An hm,ii:=SC An hr hv,QA:=fun k hk zA=>?_,dfs:=by rw [sm];exact h.dfs,sz:=by rw [DD];exact h.sz,lc:=fun t ht=>?_}
     ·rcases List.mem_cons.1 hk with rfl | hk
      ·exact hpi
      ·exact OU hD wC h.clo hid ho h.QA hb (fun t ht=>by rw [p4 t (fun e he e2=>ht (by rw [he,e2])),Bm.2.2.2]) (fun k rd _ _ _ p _=>As (by rw [p2,Bm.2.1]) (by rw [p3,Bm.2.2.1.1]) (by rw [(Prod.mk.inj p1.2.2.2).1,(Prod.mk.inj Bm.1.2.2.2).1]) (by rw [MO An,Bm.2.2.1.2]) p) abX (.inl ht) k hk zA
     ·rw [QF (ht i o (List.mem_cons_self ..) EJ ho)]
      exact h.lc t fun k ok hk=>ht k ok (List.mem_cons_of_mem _ hk)
   rcases hc with ⟨hu,s1,An,IZ⟩ |⟨hw,_,ab5⟩
   ·obtain⟨p1,p2,p3,p4,p5⟩:=AN An
    exact go An (Bm.Ff h.Ff) (Bm.ez h.ii) (show aU G (.one .uW) undef from rfl) IZ (fun _ h=>h)
     ⟨o,ho,ht,.inl ⟨S4 (fun t ht'=>p4 t fun e he e2=>aa3 t ht' (by rw [he,e2])) hu,fun d hd=>⟨(p5 d hd).1,by rw [p1.1];exact(p5 d hd).2⟩⟩⟩
   ·obtain⟨hd,v,xF,s1,An,IZ⟩:=ab5 ht
    obtain⟨p1,p2,p3,p4,p5⟩:=AN An;obtain⟨u,G1,_,Ku,hr1,hv1⟩:=SU hE (tm ht) hd xF yH (Bm.Ff h.Ff) (Bm.ez h.ii);have aa1:∀ t∈sJ ops.toList o,s1.ii t=zH.ii t:=fun t ht'=>p4 t fun e he e2=>aa3 t ht' (by rw [he,e2])
    have he:=UF (E:=E) aa1;obtain⟨g1,g2⟩:=ad1 hD (tm ht) hd xF p1 he (fun p _=>As p2 p3 (Prod.mk.inj p1.2.2.2).1 (MO An) p);exact go An Ku (hr1 _ (Bm.ez h.ii)) hv1 IZ (fun _ h=>List.mem_cons_of_mem _ h)
     ⟨o,ho,ht,.inr ⟨S9 aa1 hw,g1,by rw [MR he];exact List.mem_cons_self ..,v,g2,fun d hd=>⟨(p5 d hd).1,by rw [p1.1];exact(p5 d hd).2⟩⟩⟩
end
end Go.Fx
namespace Go.Fx
theorem bL.SE{G:Gh}{s:St}{a:Act}{d:Option Tmp}{v:ae}{u:Value}(hr:bL G s a)(hd:∀ e,d=some e→s.ii e=some v∧e < s.n)(hv:aU G v u):bL G s (a.put d u):=by
 cases d with
 |none=>exact hr
 |some d=>
  obtain⟨h1,h2⟩:=hd d rfl;have:=hr.put (av:=v) h2 hv;exact⟨this.1,this.2.1,fun i x hx=>this.2.2 i x (by
   rw [qm];by_cases e:d=i
   ·subst e;rw [if_pos rfl,←h1,hx]
   ·rw [if_neg e];exact hx)⟩
theorem Zi{P:Program}{o:Oper}{a b:Act}{N1 N2:Act→World→Prop}{Q1 Q2:Exit→Act→World→Prop}{res:Result Next}(hb:∀ a' w,N1 a' w→∃ v,a' = b.put o.dst v∧N2 (a.put o.dst v) w)(hdd:a.defers=b.defers)
  (hp:∀ c w,Q1 (.panic c) b w→Q2 (.panic c) a w) (ho:LetsOut Q1→LetsOut Q2) (aeW:∀ v v',b.put o.dst v=b.put o.dst v'→a.put o.dst v=a.put o.dst v') (h:o.upon P b N1 Q1 res):o.upon P a N2 Q2 res:=by
 have nx:∀ v w,N1 (b.put o.dst v) w→N2 (a.put o.dst v) w:=fun v w hn=>by obtain⟨v',h1,h2⟩:=hb _ _ hn;rw [aeW v v' h1];exact h2
 cases res with
 |ok n w'=>
  cases n<;>simp only [Oper.upon] at h ⊢
  case value u=>exact nx _ _ h
  case skip=>exact nx _ _ h
  case defer d=>
   obtain⟨v',h1,h2⟩:=hb _ _ h;have:d :: b.defers=b.defers:=by have:=congrArg Act.defers h1;rw [sm,sm] at this;exact this
   exact absurd this (by simp)
  case enter f args=>
   refine Calls.mono h fun e w'' he=>?_;cases e with
   |returned u=>exact nx _ _ he
   |panicked c=>exact hp _ _ he
   |outgrown=>exact ho he
  case row row args=>exact Rows.mono h fun u w'' he=>nx _ _ he
 |halt x w'=>
  cases x<;>simp only [Oper.upon] at h ⊢
  case panic u=>exact hp _ _ h
section
variable {P:Program} {E:sd} (hE:iD P E.iw) (hS:∀ f s,E.AO f=some s→z7 P E.gt f s) (hC:∀ f s,E.AO f=some s→mR s) (hD:∀ f s,E.AO f=some s→oT s)
 {X:mt} (yH:m9 E.gt X.S0) {ops:Array Oper} (wC:WN ops.toList) {Q:Exit→Act→World→Prop} {Kok:St→Prop} {KPok:ae→St→Prop}
 (hK:∀ st G w act,aB X st G w→bL G st act→Kok st→Q .normal act w)
 (hP:∀ av v st G w act,aB X st G w→act.defers=G.ds→aU G av v→KPok av st→Q (.panic [{v,recovered:=false}]) act w)
include hK in
theorem Ln{n:Nat}{done:List Nat}{log:List (Nat×List pM)}{s:St}{G:Gh}{as act:Act}{ey:Array Bool}{w:World}(h:Inv E X ops Kok KPok n done log s G as ey act w)(hh:kZ E ops.toList n done)(fo:∀ i,i < ops.size→ey.getD i false=true):Q .normal act w:=by
 have IZ:Kok s:=by
  rcases hh with ⟨_,h2⟩ |⟨m,_,⟨i,hr⟩,_⟩
  ·exact h2 _ _ _ _ h.can
  ·obtain⟨h1,o,h2,_⟩:=K8.1 hr
   exact absurd (h.Mp i (fo i (by simpa using (List.getElem?_eq_some_iff.1 h2).1))) h1
 have PT:act=as:=by
  have htm:act.tmps=as.tmps:=by
   apply Array.ext h.sz;intro i h1 h2;have:=h.lc i (fun k o hk zA hko=>by
    have bo:k < ops.size:=by simpa using (List.getElem?_eq_some_iff.1 hko).1
    rw [fo k bo] at zA;cases zA)
   simpa [h1,h2] using this
  cases act;cases as;simp only at htm;have:=h.dfs;simp only at this;rw [htm,this]
 rw [PT];exact hK _ _ _ _ h.Ff h.ii IZ
theorem Wo(wC:WN ops.toList){ey:Array Bool}(mA:ey.size=ops.size)(h:Region.ready .any ops ey = []):∀ i,i < ops.size→ey.getD i false=true:=by
 intro i;induction i using Nat.strongRecOn with
 |ind i ih=>
  intro hi;cases hl:ey.getD i false with
  |true=>rfl
  |false=>
   have:i∈Region.ready .any ops ey:=mem_ready.2 ⟨by rw [PS (by omega)];exact hl,ops[i],by simp [hi],fun e he hb=>by
    have Nz:=wC.low i ops[i] e (by simp [hi]) he (by rw [LK];exact hb)
    exact ih e.on Nz (by omega)⟩
   rw [h] at this;cases this
include hE hS hC hD yH wC hK hP in
theorem M8:∀(F0:Nat) {ey:Array Bool} {act:Act} {w:World} {n:Nat} {done:List Nat} {log:List (Nat×List pM)} {s:St} {G:Gh} {as:Act},Inv E X ops Kok KPok n done log s G as ey act w→
  kZ E ops.toList n done→(List.range ops.size).countP (fun i=>!ey.getD i false)≤F0→wpAny P .any ops Q F0 ey act w
 |0,ey,act,w,n,done,log,s,G,as,h,L6,hf=>by
  have fo:∀ i,i < ops.size→ey.getD i false=true:=fun i hi=>by
   have h0:(List.range ops.size).countP (fun i=>!ey.getD i false)=0:=by omega
   have:=List.countP_eq_zero.1 h0 i (List.mem_range.2 hi);simpa using this
  refine⟨List.eq_nil_iff_forall_not_mem.2 fun i hi=>?_,Ln hK h L6 fo⟩;obtain⟨h1,o,h2,_⟩:=mem_ready.1 hi;have bo:i < ops.size:=(Array.getElem?_eq_some_iff.1 h2).1;rw [PS (by rw [h.lsz];exact bo),fo i bo] at h1;cases h1
 |F0 + 1,ey,act,w,n,done,log,s,G,as,h,L6,hf=>by
  refine⟨fun hr=>Ln hK h L6 (Wo wC h.lsz hr),fun i hi=>?_⟩;obtain⟨hl1,o,hoa,aaR⟩:=mem_ready.1 hi;have bo:i < ops.size:=(Array.getElem?_eq_some_iff.1 hoa).1;have Gc:i < ey.size:=by rw [h.lsz];exact bo
  have EJ:ey.getD i false=false:=by rw [←PS Gc];exact hl1
  have ho:ops.toList[i]? = some o:=by simpa using hoa
  have PU:∀ k,N3 ops.toList i k→ey.getD k false=true:=fun k ⟨o2,h1,e,h2,h3,h4⟩=>by rw [ho] at h1;cases h1;rw [←h4];exact aaR e h2 (by rw [←LK];exact h3)
  have P8:∀ k,Reach ops.toList i k→ey.getD k false=true:=fun k hk=>h.TE.ready PU hk;let mV:=ey.setIfInBounds i true;have hlc:Clo ops.toList (fun k=>mV.getD k false=true):=fun a k ha hak=>by
   show(ey.setIfInBounds i true).getD k false=true;rw [Aj Gc];by_cases e:i=k
   ·simp [e]
   ·rw [if_neg e]
    by_cases e2:i=a
    ·subst e2;exact PU k hak
    ·have ha':ey.getD a false=true:=by
      have:=ha;simp only [mV,Aj Gc,if_neg e2] at this;exact this
     exact h.TE a k ha' hak
  have hlz:mV.size=ops.size:=by simp [mV,h.lsz]
  have hun:∀ k,mV.getD k false=false→k≠i∧ey.getD k false=false:=fun k hk=>by
   simp only [mV,Aj Gc] at hk;by_cases e:i=k
   ·simp [e] at hk
   ·rw [if_neg e] at hk;exact⟨fun h=>e h.symm,hk⟩
  have adp:(List.range ops.size).countP (fun k=>!mV.getD k false)≤F0:=by
   have:=Od (p:=fun k=>!ey.getD k false) (q:=fun k=>!mV.getD k false) (l:=List.range ops.size) (fun k _ hk=>by
    have:=hun k (by simpa using hk)
    simpa using this.2) ⟨i,List.mem_range.2 bo,by simpa using EJ,by simp [mV,Gc]⟩
   omega
  have aaX:Ps (fun t=>t∈sJ ops.toList o) act as:=fun t ht=>by
   refine h.lc t fun k ok hk zA hko hd=>?_;by_cases e:k=i
   ·subst e
    rw [ho] at hko;cases hko;exact wC.self _ _ t ho hd ht
   ·rcases wC.aet i k o ok t ho hko hd ht (Ne.symm e) with h1 | h1
    ·rw [P8 k (DV h1)] at zA;cases zA
    ·obtain⟨o2,g1,g2,_⟩:=h.QA k hk zA
     rw [hko] at g1;cases g1;by_cases hA:k∈(iL ops.toList []).getD i []
     ·rw [P8 k (DV hA)] at zA;cases zA
     ·rw [JG ho hko hd ht hA] at g2;cases g2
  have ads:execOp act.eval o=execOp as.eval o:=RH (fun cs b=>wC.sel i o cs b ho) aaX;have ZQ:Region.wanted o (yielded ops act.tmps)=Region.wanted o (yielded ops as.tmps):=S8 aaX;have XM:∀(v:Value) t,(∀ k ok,k∈done→mV.getD k false=false→ops.toList[k]? = some ok→ok.dst≠some t)→(act.put o.dst v).tmps[t]? = (as.put o.dst v).tmps[t]?:=fun v t ht=>by
   by_cases e:o.dst=some t
   ·exact YK h.sz e
   ·rw [QF e,QF e]
    refine h.lc t fun k ok hk zA hko hd=>?_;by_cases e2:k=i
    ·subst e2
     rw [ho] at hko;cases hko;exact e hd
    ·exact ht k ok hk (by simp only [mV,Aj Gc,if_neg (Ne.symm e2)];exact zA) hko hd
  unfold wpOp;simp only [hoa];by_cases hid:i∈done
  ·
   have go:∀{G1:Gh} {v:Value},aB X s G1 w→bL G1 s (as.put o.dst v)→wpAny P .any ops Q F0 mV (act.put o.dst v) w:=fun {G1 v} hm hr=>
    M8 F0 (n:=n) (done:=done) (log:=log) (s:=s) (G:=G1) (as:=as.put o.dst v)
     {
      can:=h.can,cov:=h.cov,clo:=h.clo,TE:=hlc,lsz:=hlz,Ff:=hm,ii:=hr
      Mp:=fun k hk=>(by
       by_cases e:i=k
       ·rw [←e];exact hid
       ·simp only [mV,Aj Gc,if_neg e] at hk;exact h.Mp k hk)
      QA:=fun k hk zA=>h.QA k hk (hun k zA).2,dfs:=by rw [sm,sm];exact h.dfs,sz:=by rw [DD,DD];exact h.sz
      lc:=XM v} L6 adp
   obtain⟨o2,g1,g2,g3⟩:=h.QA i hid EJ;rw [ho] at g1;cases g1;rcases g3 with ⟨hu,hd⟩ |⟨hw,hdy,_,v,xF,hd⟩
   ·rw [ZQ,M9 h.ii hu]
    simp only [Bool.false_eq_true,if_false];exact go h.Ff (h.ii.SE hd (show aU G (.one .uW) undef from rfl))
   ·rw [ZQ,Na h.ii hw]
    simp only [if_true];obtain⟨u,G1,iy,Ku,hr1,hv1⟩:=SU hE (tm g2) hdy xF yH h.Ff h.ii;refine .inl ?_;unfold Oper.wp;rw [ads,iy];exact go Ku ((hr1 _ h.ii).SE hd hv1)
  ·
   have ae8:rdy ops.toList done i=true:=K8.2 ⟨hid,o,ho,fun e he hb=>h.Mp _ (aaR e he (by rw [←LK];exact hb))⟩
   obtain⟨m,hnm,htn,Ga,Mc⟩:∃ m,n=m + 1∧pE ops.toList (iL ops.toList []) i o=true∧(∀ r∈iP ops.toList (iL ops.toList []) m (i :: done),i :: r∈iP ops.toList (iL ops.toList []) n done)∧
     CT E ops.toList i log s (uX E ops.toList Kok KPok m (i :: done)) KPok:=by
    rcases L6 with ⟨h1,_⟩ |⟨m,h1,_,h3⟩
    ·rcases h.cov [] (by rw [h1];exact List.mem_singleton.2 rfl) i bo with h2 | h2
     ·exact absurd h2 hid
     ·cases h2
    ·obtain⟨g1,g2,g3⟩:=h3 i ae8
     exact⟨m,h1,g1 o ho,g2,g3 _ _ _ _ h.can⟩
   subst hnm;have Xt:Clo ops.toList (·∈i :: done):=fun a k ha hak=>by
    rcases List.mem_cons.1 ha with rfl | ha
    ·exact List.mem_cons_of_mem _ (h.Mp k (PU k hak))
    ·exact List.mem_cons_of_mem _ (h.clo a k ha hak)
   have abQ:∀ l∈iP ops.toList (iL ops.toList []) m (i :: done),∀ k,k < ops.size→k∈i :: done∨k∈l:=fun l hl k hk=>by
    rcases h.cov _ (Ga l hl) k hk with h1 | h1
    ·exact .inl (List.mem_cons_of_mem _ h1)
    ·rcases List.mem_cons.1 h1 with rfl | h1
     ·exact .inl (List.mem_cons_self ..)
     ·exact .inr h1
   have go:∀{v:ae} {u:Value} {st' s1:St} {G1:Gh} {w1:World},yo o.dst v st' = some s1→aB X st' G1 w1→bL G1 st' as→aU G1 v u→uX E ops.toList Kok KPok m (i :: done) log s1→ke s st'→(∀ t,st'.ii t=s.ii t)→
     (∀ k rd,k∈done→ey.getD k false=false→(k,rd)∈log→∀ p∈rd,ss s st' p)→wpAny P .any ops Q F0 mV (act.put o.dst u) w1:=fun {v u st' s1 G1 w1} An hm hr hv IZ hbs hrg Hw=>by
    obtain⟨p1,p2,p3,p4,p5⟩:=AN An;have abV:Inv E X ops Kok KPok m (i :: done) log s1 G1 (as.put o.dst u) mV (act.put o.dst u) w1:=
     {
      can:=IZ,cov:=abQ,clo:=Xt,TE:=hlc,lsz:=hlz,Ff:=SD An hm,ii:=SC An hr hv
      Mp:=fun k hk=>(by
       by_cases e:i=k
       ·rw [←e];exact List.mem_cons_self ..
       ·simp only [mV,Aj Gc,if_neg e] at hk;exact List.mem_cons_of_mem _ (h.Mp k hk))
      QA:=fun k hk zA=>(by
       obtain⟨hki,zA⟩:=hun k zA;rcases List.mem_cons.1 hk with e | hk
       ·exact absurd e hki
       ·exact OU hD wC h.clo hid ho h.QA (hbs.trans p1) (fun t ht=>by rw [p4 t (fun e he e2=>ht (by rw [he,e2])),hrg]) (fun k rd a b c p hp=>(Hw k rd a b c p hp).trans (As p2 p3 (Prod.mk.inj p1.2.2.2).1 (MO An) p)) (fun _ h=>h) (.inr P8) k hk zA)
      dfs:=by rw [sm,sm];exact h.dfs,sz:=by rw [DD,DD];exact h.sz
      lc:=fun t ht=>XM u t fun k ok hk=>ht k ok (List.mem_cons_of_mem _ hk)}
    obtain⟨n',LJ,Yb,s',G',as',Xx,hh'⟩:=T7 hE hD yH wC abV;exact M8 F0 Xx hh' adp
   obtain⟨o2,g1,zH,Bm,hc⟩:=Mc;rw [ho] at g1;cases g1;have hr0:=Bm.ez h.ii;rcases hc with ⟨hu,s1,An,IZ⟩ |⟨hw,XR,_⟩
   ·rw [ZQ,M9 hr0 hu]
    simp only [Bool.false_eq_true,if_false];exact go An (Bm.Ff h.Ff) hr0 (show aU G (.one .uW) undef from rfl) IZ Bm.1 Bm.2.2.2 (fun k rd _ _ _ p _=>As Bm.2.1 Bm.2.2.1.1 (Prod.mk.inj Bm.1.2.2.2).1 Bm.2.2.1.2 p)
   ·rw [ZQ,Na hr0 hw]
    simp only [if_true];obtain⟨abX,u,xF,hok,vN⟩:=XR htn;refine .inl ?_;let Q1:Exit→Act→World→Prop:=fun e a w=>match e with
     |.panic c=>a=as→Q (.panic c) act w
     |e=>Q e a w
    have hwp:o.wp P as w (fun a' w'=>∃ v,a' = as.put o.dst v∧wpAny P .any ops Q F0 mV (act.put o.dst v) w') Q1:=
     Hm hE hS (K:=nX) (KP:=NU) (r:=u) xF yH (Bm.Ff h.Ff) hr0
      (fun av v st' G' w' hm hr hv hu=>by
       simp only [nX,Option.some.injEq] at hu;subst hu;obtain⟨s1,An,IZ⟩:=hok rfl;obtain⟨hb,ZP⟩:=Yy hD hC xF;have ZP:=ZP rfl;refine⟨v,rfl,go An hm hr hv IZ (Bm.1.trans hb) (fun t=>?_) (fun k rd hk zA hkr p hp=>?_)⟩
       ·show st'.ii t=s.ii t
        rw [←Bm.2.2.2 t];have e1:st'.ez=zH.ez:=ZP.ez;have e2:st'.jh=zH.jh:=hb.2.1;simp only [St.ii,e1,e2]
       ·have h1:=List.all_eq_true.1 abX _ hkr
        simp only [Bool.or_eq_true] at h1;rcases h1 with h1 | h1
        ·rw [P8 k (DV (gI.1 h1))] at zA;cases zA
        ·refine(As Bm.2.1 Bm.2.2.1.1 (Prod.mk.inj Bm.1.2.2.2).1 Bm.2.2.1.2 p).trans (ZP.lb fun q hq=>?_)
         exact List.all_eq_true.1 (List.all_eq_true.1 h1 p hp) q hq)
      (fun av v st' G' w' hm hv hu=>by
       simp only [NU,Option.some.injEq] at hu;subst hu;intro _;exact hP av v st' G' w' act hm (by rw [h.dfs];exact hr0.1.trans (h.Ff.ds.trans hm.ds.symm)) hv (vN rfl))
    unfold Oper.wp at hwp ⊢;rw [ads];refine Zi (Q1:=Q1) (Q2:=Q) (N2:=wpAny P .any ops Q F0 mV) (fun a' w' h=>h) h.dfs (fun c w' hq=>hq rfl) (fun⟨a,w',hq⟩=>⟨a,w',hq⟩) (fun v v' e=>?_) hwp;cases hd:o.dst with
    |none=>rfl
    |some d=>
     rw [hd] at e;have e1:=congrArg Act.tmps e;simp only [Act.put] at e1 ⊢
     congr 1
     by_cases mu:d < act.tmps.size
     ·have:v=v':=by
       have h2:(as.tmps.setIfInBounds d v)[d]? = (as.tmps.setIfInBounds d v')[d]?:=by rw [e1]
       have aeO:d < as.tmps.size:=by rw [←h.sz];exact mu
       simpa [aeO] using h2
      rw [this]
     ·rw [Array.setIfInBounds_eq_of_size_le (Nat.le_of_not_lt mu),Array.setIfInBounds_eq_of_size_le (Nat.le_of_not_lt mu)]
include hE hS hC hD yH hK hP in
theorem Vk(Xz:P.follows .mixedOrders=true){id:Nat}{R:Type}{r:R}{K:St→Option R}{KP:ae→St→Option R}{st:St}{G:Gh}{w:World}{act:Act}(hd:C5 ops.toList (iL ops.toList [])=true)
  (h:∀ l∈iP ops.toList (iL ops.toList []) ops.toList.length [],IN ops.toList l=true∧Gt E ops.toList (iL ops.toList []) l [] st K KP=some r)
  (abO:∀ s,K s=some r→Kok s) (Xp:∀ av s,KP av s=some r→KPok av s) (hm:aB X st G w) (hr:bL G st act):(Code.region id ops true).wp P Q act w:=by
 have wC:=aap hd;have adl:=SK hD fun l hl=>(h l hl).2;refine wp_region_any Xz ?_;have hz:∀ i d,(Array.replicate ops.size false).getD i d=true→d=true:=fun i d hi=>by
  rcases Nat.lt_or_ge i ops.size with h' | h'
  ·simp [h'] at hi
  ·simpa [Array.getElem?_eq_none,h'] using hi
 have hf:∀ i,(Array.replicate ops.size false).getD i false=false:=fun i=>by
  cases hq:(Array.replicate ops.size false).getD i false with
  |false=>rfl
  |true=>have:=hz i false hq;cases this
 have abV:Inv E X ops Kok KPok ops.toList.length [] [] st G act (Array.replicate ops.size false) act {w with drawn:=w.drawn + 1}:=
  {
   can:=adl.mono E ops.toList abO Xp,cov:=fun l hl i hi=>.inr (gI.1 (List.all_eq_true.1 (h l hl).1 i (List.mem_range.2 (by simpa using hi))))
   clo:=fun a k ha=>by cases ha
   TE:=fun a k ha=>by have ha':(Array.replicate ops.size false).getD a false=true:=ha;rw [hf] at ha';cases ha'
   Mp:=fun i hi=>by rw [hf] at hi;cases hi
   lsz:=by simp,Ff:=hm.drew,ii:=hr,QA:=fun i hi=>by cases hi
   dfs:=rfl,sz:=rfl,lc:=fun t _=>rfl}
 obtain⟨n',LJ,Yb,s',G',as',Xx,hh'⟩:=T7 hE hD yH wC abV;exact M8 hE hS hC hD yH wC hK hP ops.size Xx hh' (by
  refine Nat.le_trans List.countP_le_length ?_;simp)
include hE hS hC hD yH hK hP in
theorem aaj(Xz:P.follows .mixedOrders=true){id:Nat}{R:Type}{r:R}{K:St→Option R}{KP:ae→St→Option R}{st:St}{G:Gh}{w:World}{act:Act}(h:T5 E ops.toList st K KP=some r)
  (abO:∀ s,K s=some r→Kok s) (Xp:∀ av s,KP av s=some r→KPok av s) (hm:aB X st G w) (hr:bL G st act):(Code.region id ops true).wp P Q act w:=by
 unfold T5 at h;cases hd:C5 ops.toList (iL ops.toList []) with
 |false=>simp [hd] at h
 |true=>
  simp only [hd,cond_true] at h;split at h
  ·rename_i l hl
   cases hc:IN ops.toList l with
   |false=>rw [hc] at h;cases h
   |true=>rw [hc,cond_true] at h;exact Vk hE hS hC hD yH hK hP Xz hd (fun l' KV=>by rw [hl] at KV;obtain rfl:=List.mem_singleton.1 KV;exact⟨hc,h⟩) abO Xp hm hr
  ·cases h
end
end Go.Fx
namespace Go.Fx
structure EX(P:Program)(E:sd):Prop where
 iw:iD P E.iw
 mix:P.follows .mixedOrders=true
 AO:∀ f s,E.AO f=some s→z7 P E.gt f s
 det:∀ f s,E.AO f=some s→oT s
 PH:∀ f s,E.AO f=some s→mR s
 aa9:∀ i L,E.nY i=some L→zW L
theorem K7{X:mt}{st:St}{G:Gh}{w:World}{R:Type}{r:R}{act:Act}{d:Option Tmp}{av:ae}{v:Value}{K:St→Option R}(h:oH d av st K=some r)(hm:aB X st G w)(hr:bL G st act)(hv:aU G av v):
  ∃ st',aB X st' G w∧bL G st' (act.put d v)∧K st' = some r:=by
 cases d with
 |none=>exact⟨st,hm,hr,h⟩
 |some d=>
  simp only [oH] at h;cases hc:((look st.jh d).isSome || Nat.ble st.n d) with
  |true=>simp [hc] at h
  |false=>
   simp only [hc,cond_false] at h;simp only [Bool.or_eq_false_iff] at hc;have hd:d < st.n:=by
    rcases Nat.lt_or_ge d st.n with h' | h'
    ·exact h'
    ·have:=Nat.ble_eq_true_of_le h';rw [this] at hc;cases hc.2
   exact⟨_,hm.jV d av,hr.put hd hv,h⟩
section
variable {P:Program} {E:sd} (hE:EX P E) {X:mt} {R:Type} {r:R} (yH:m9 E.gt X.S0)
include hE yH
theorem Jp{ops:Array Oper}{KP:ae→St→Option R}{K:St→Option R}{Q:Exit→Act→World→Prop}
  (hK:∀ st G w act,aB X st G w→bL G st act→K st=some r→Q .normal act w)
  (hP:∀ av v st G w act,aB X st G w→act.defers=G.ds→aU G av v→KP av st=some r→Q (.panic [{v,recovered:=false}]) act w):
  ∀{l:List Oper} {st:St} {G:Gh} {w:World} {act:Act},pG E ops.toList l st K KP=some r→aB X st G w→bL G st act→wpList P ops Q l act w
 |[],st,G,w,act,h,hm,hr=>hK _ _ _ _ hm hr h
 |o :: rest,st,G,w,act,h,hm,hr=>by
  have CE:∀{q:St},aB X q G w→bL G q act→lS E o q (fun v st'=>oH o.dst v st' fun s=>pG E ops.toList rest s K KP) KP=some r→Region.wanted o (yielded ops act.tmps)=true→wpList P ops Q (o :: rest) act w:=fun {q} hm hr hx hw=>by
   simp only [wpList,hw,if_true];exact .inl (Hm hE.iw hE.AO hx yH hm hr (fun av v st' G' w' m' r' v' k'=>by
    obtain⟨s,m2,r2,k2⟩:=K7 k' m' r' v';exact Jp hK hP k2 m2 r2) (fun av v st' G' w' m' v' k'=>hP av v st' G' w' act m' (hr.1.trans (hm.ds.trans m'.ds.symm)) v' k'))
  have skip:∀{q:St},aB X q G w→bL G q act→oH o.dst (.one .uW) q (fun s=>pG E ops.toList rest s K KP)=some r→Region.wanted o (yielded ops act.tmps)=false→wpList P ops Q (o :: rest) act w:=fun {q} hm hr hx hw=>by
   simp only [wpList,hw,Bool.false_eq_true,if_false];obtain⟨s,m2,r2,k2⟩:=K7 hx hm hr (show aU G (.one .uW) undef from rfl)
   exact Jp hK hP k2 m2 r2
  simp only [pG] at h;split at h
  ·rename_i hg;exact CE hm hr h (by simp [Region.wanted,hg])
  ·rename_i j sr hg
   split at h
   ·cases h
   ·rename_i g hgd
    have hy:∀ j',yielded ops act.tmps j' = (match (((ops[j']?).bind (·.dst)).bind (act.tmps[·]?)) with | some (.bool b)=>some b | _=>none):=fun j'=>rfl
    have KU:(ops[j]?).bind (·.dst)=some g:=by simpa [p8] using hgd
    split at h
    ·rename_i c wB
     have hv:=vL (v:=.one (.eZ .bool c)) rfl (hr.2.2 g _ wB);have L5:act.tmps[g]? = some (.bool c):=by
      rw [Array.getD_eq_getD_getElem?] at hv;cases hq:act.tmps[g]? with
      |none=>rw [hq] at hv;cases hv
      |some u=>rw [hq] at hv;simpa using hv
     have hyj:yielded ops act.tmps j=some c:=by rw [hy,KU];simp [L5]
     have Ff:∀ b,c=b→bL G (st.jV g (.one (.eZ .bool b))) act:=fun b e=>hr.refine (by rw [hv,e];exact oi b)
     cases c with
     |true=>
      simp only [cond_true] at h;cases sr with
      |true=>simp only [cond_true] at h;exact CE (hm.jV _ _) (Ff _ rfl) h (by simp [Region.wanted,hg,hyj])
      |false=>simp only [cond_false] at h;exact skip (hm.jV _ _) (Ff _ rfl) h (by simp [Region.wanted,hg,hyj])
     |false=>
      simp only [cond_false] at h;cases sr with
      |true=>simp only [cond_true] at h;exact skip (hm.jV _ _) (Ff _ rfl) h (by simp [Region.wanted,hg,hyj])
      |false=>simp only [cond_false] at h;exact CE (hm.jV _ _) (Ff _ rfl) h (by simp [Region.wanted,hg,hyj])
    ·rename_i wB
     have hv:act.tmps.getD g undef=undef:=hr.2.2 g _ wB;have hyj:yielded ops act.tmps j=none:=by
      rw [hy,KU];rw [Array.getD_eq_getD_getElem?] at hv;cases hq:act.tmps[g]? with
      |none=>simp [hq]
      |some u=>rw [hq] at hv;simp only [Option.getD_some] at hv;subst hv;simp [hq,undef]
     exact skip hm hr h (by simp [Region.wanted,hg,hyj])
    ·cases h
omit hE yH in
def uo(P:Program)(gt:Nat→Option GA)(c:Code)(L:lh):Prop:=
 ∀{R:Type} {r:R} {X:mt} {st:St} {G:Gh} {w:World} {act:Act} {K:Exit→St→Option R} {KP:ae→St→Option R} {Q:Exit→Act→World→Prop},
  L.run st K KP=some r→m9 gt X.S0→aB X st G w→bL G st act→
  (∀ e st G w act,aB X st G w→bL G st act→K e st=some r→Q e act w)→
  (∀ av v st G w act,aB X st G w→act.defers=G.ds→aU G av v→KP av st=some r→Q (.panic [{v,recovered:=false}]) act w)→c.wp P Q act w
abbrev Pq(P:Program)(gt:Nat→Option GA)(id:Nat)(body:Code)(L:lh):Prop:=uo P gt (.block id body) L
noncomputable def rV(P:Program)(E:sd)(c:Code):Prop:=
 Code.rec (motive:=fun _=>Prop) True (fun id ops draw=>match draw,E.nY (id + 1000000) with | true,some L=>uo P E.gt (.region id ops true) L | _,_=>True) (fun _ _ x y=>x∧y) (fun _ _ _ x y=>x∧y)
  (fun id b x=>match E.nY id with | some L=>Pq P E.gt id b L | none=>x) (fun _ _=>True) (fun _ _ _ _ _ _=>True)
  (fun _=>True) (fun _ _=>True) (fun _=>True) (fun _=>True) True (fun _=>True) c
theorem zg(c:Code):rV P E c→∀{st:St} {G:Gh} {w:World} {act:Act} {K:Exit→St→Option R} {KP:ae→St→Option R} {Q:Exit→Act→World→Prop},so E c st K KP=some r→aB X st G w→bL G st act→
  (∀ e st G w act,aB X st G w→bL G st act→K e st=some r→Q e act w)→
  (∀ av v st G w act,aB X st G w→act.defers=G.ds→aU G av v→KP av st=some r→Q (.panic [{v,recovered:=false}]) act w)→c.wp P Q act w:=by
 induction c with
 |skip=>intro _ st G w act K KP Q h hm hr hK hP;exact wp_skip (hK _ _ _ _ _ hm hr h)
 |region id ops draw=>
  intro hL st G w act K KP Q h hm hr hK hP;cases draw with
  |true=>
   have h:(match E.nY (id + 1000000) with | some L=>L.run st K KP | none=>T5 E ops.toList st (fun s=>K .normal s) KP)=some r:=h
   have hL:(match true,E.nY (id + 1000000) with | true,some L=>uo P E.gt (.region id ops true) L | _,_=>True):=hL
   cases hl:E.nY (id + 1000000) with
   |some L=>simp only [hl] at h hL;exact hL h yH hm hr hK hP
   |none=>simp only [hl] at h;exact aaj hE.iw hE.AO hE.PH hE.det yH (fun st G w act m' r' k'=>hK .normal st G w act m' r' k') (Kok:=fun s=>K .normal s=some r) (KPok:=fun av s=>KP av s=some r) hP hE.mix h (fun _ h=>h) (fun _ _ h=>h) hm hr
  |false=>exact wp_region_list (Jp hE yH (fun st G w act=>hK .normal st G w act) hP h hm hr)
 |seq a b Mf Qa=>
  intro hL st G w act K KP Q h hm hr hK hP;refine wp_seq (Mf hL.1 h hm hr (fun e s G w act m r' k=>?_) (fun av v s G w act m r' v' k=>hP av v s G w act m r' v' k));cases e with
  |normal=>exact Qa hL.2 k m r' hK hP
  |_=>exact hK _ _ _ _ _ m r' k
 |cond c t e iht ihe=>
  intro hL st G w act K KP Q h hm hr hK hP;have h:(match (ev E st c).EZ with | some b=>bif b then so E t st K KP else so E e st K KP | none=>none)=some r:=h
  cases hb:(ev E st c).EZ with
  |none=>simp [hb] at h
  |some b=>
   simp only [hb] at h;have hv:=vL hb (fB (yH.mono hm.s0) hr c);cases b with
   |true=>exact wp_cond_true hv (iht hL.1 h hm hr hK hP)
   |false=>exact wp_cond_false hv (ihe hL.2 h hm hr hK hP)
 |block id b ih=>
  intro hL st G w act K KP Q h hm hr hK hP;have h:(match E.nY id with
   |some L=>L.run st K KP
   |none=>so E b st (fun e s=>match e with | .exit i=>(bif Nat.beq i id then K .normal s else K (.exit i) s) | e=>K e s) KP)=some r:=h
  have hL:(match E.nY id with | some L=>Pq P E.gt id b L | none=>rV P E b):=hL
  cases hl:E.nY id with
  |some L=>simp only [hl] at h hL;exact hL h yH hm hr hK hP
  |none=>
   simp only [hl] at h hL;refine wp_block (ih hL h hm hr (fun e s G w act m r' k=>?_) (fun av v s G w act m r' v' k=>hP av v s G w act m r' v' k));cases e with
   |exit i=>
    simp only [Exit.inBlock];by_cases e:i=id
    ·subst e
     simp only [Nat.beq_refl,cond_true] at k;simp only [if_true];exact hK _ _ _ _ _ m r' k
    ·simp only [uC e,cond_false] at k
     simp only [e,if_false];exact hK _ _ _ _ _ m r' k
   |_=>exact hK _ _ _ _ _ m r' k
 |exit id=>intro _ st G w act K KP Q h hm hr hK hP;exact wp_exit (hK _ _ _ _ _ hm hr h)
 |ret=>intro _ st G w act K KP Q h hm hr hK hP;exact wp_ret (hK _ _ _ _ _ hm hr h)
 |_=>intro _ st G w act K KP Q h;cases h
end
end Go.Fx
namespace Go.Fx
abbrev AL:=List (Nat×Option Nat×jF)
def Gh.t7(G:Gh)(al:AL):Gh:={G with
 ψ:=fun nm=>match look al nm with | some (some a,_)=>G.ψ a | _=>.slice none 0 0
 HA:=fun nm=>match look al nm with | some (some a,_)=>G.HA a | _=>[]
 vn:=fun _=>0
 HV:=fun nm _=>match look al nm with | some (some a,_)=>ko (G.HA a) | _=>[]}
def St.t6(st:St)(i:Nat):ae:=(match st.ii i with | some v=>v | none=>.one .any)
structure Jv(st t:St)(al:AL):Prop where
 n:t.n=st.n
 vr:t.DS = []
 arr:∀ nm A,t.arr nm=some A→∃ jM,look al nm=some (jM,A)
 jM:∀ nm a A,look al nm=some (some a,A)→A.sh=false∧st.arr a=some A
 nil:∀ nm A,look al nm=some (none,A)→A.sh=false∧A.l = []∧A.pe=true
 inj:∀ nm nm' a A A',look al nm=some (some a,A)→look al nm' = some (some a,A')→nm=nm'
 ii:∀ i tv,t.ii i=some tv→∀ X G w v,aB X st G w→aU G (st.t6 i) v→aU (G.t7 al) tv v
 dM:∀ o tl,t.dM o=some tl→∃ sl,st.dM o=some sl∧All2 (fun a b=>∀ X G w v,aB X st G w→aY G a v→aY (G.t7 al) b v) (st.jT o 0 sl) (t.jT o 0 tl)
structure abr(st t:St)(al:AL):Prop extends Jv st t al where
 pn:t.pin=st.pin
 pa:∀ a,eV a st.pin=true→(∃ A,look al a=some (some a,A))∧∃ B,t.arr a=some B
 pin:∀ o sl,o < 10000→st.dM o=some sl→∃ tl,t.dM o=some tl
 ur:∀ o j lf sl,o < 10000→dY st.cA o j=some lf→st.dM o=some sl→sl[j]? = some .ur→(∃ lf',dY t.cA o j=some lf')∧∃ tl,t.dM o=some tl∧tl[j]? = some .ur
theorem All2.abD{α β γ:Type}{R:α→γ→Prop}{T:β→γ→Prop}:∀{xs:List α} {ys:List β} {vs:List γ},All2 (fun a b=>∀ v,R a v→T b v) xs ys→All2 R xs vs→All2 T ys vs
 |[],[],[],_,_=>trivial
 |_ :: _,_ :: _,_ :: _,h,k=>⟨h.1 _ k.1,All2.abD h.2 k.2⟩
 |[],[],_ :: _,_,k=>k.elim
 |[],_ :: _,_,h,_=>h.elim
 |_ :: _,[],_,h,_=>h.elim
 |_ :: _,_ :: _,[],_,k=>k.elim
theorem Jv.pe{st t:St}{al:AL}(h:Jv st t al){G:Gh}:∀ x b,eW (G.t7 al) t x b→∃ x',eW G st x' b∧((∃ o,x=(false,o)∧x' = (false,o))∨∃ nm a A,x=(true,nm)∧x' = (true,a)∧look al nm=some (some a,A)):=fun x b hx=>by
 obtain⟨k,n⟩:=x;cases k with
 |false=>obtain⟨⟨tl,ht⟩,rfl⟩:=hx;obtain⟨sl,hs,_⟩:=h.dM n tl ht;exact⟨(false,n),⟨⟨sl,hs⟩,rfl⟩,.inl ⟨n,rfl,rfl⟩⟩
 |true=>
  obtain⟨⟨A,hA,hs⟩,p,hp,rfl⟩:=hx;obtain⟨jM,hl⟩:=h.arr n A hA;cases jM with
  |none=>simp [Gh.t7,hl] at hp
  |some a=>simp only [Gh.t7,hl] at hp;exact⟨(true,a),⟨⟨A,(h.jM n a A hl).2,hs⟩,p,hp,rfl⟩,.inr ⟨n,a,A,rfl,rfl,hl⟩⟩
theorem Jv.ok{st t:St}{al:AL}(h:Jv st t al){X:mt}{G:Gh}{w:World}(hm:aB X st G w)(V1:∀ o p,X.pin o=some p→∃ tl,t.dM o=some tl)
  (hbv:∀ o j u,X.bv o j=some u→(∃ lf',dY t.cA o j=some lf')∧∃ tl,t.dM o=some tl∧tl[j]? = some .ur)
  (hap:∀ a u,X.Zr a=some u→eV a t.pin=true∧(∃ A,t.arr a=some A)∧(G.t7 al).ψ a=u):aB X t (G.t7 al) w:=by
 have pe:=h.pe (G:=G);refine {sl:=fun a=>?_,sh:=hm.sh,ob:=fun o tl ho=>?_,ar:=fun nm A hA=>?_,ah:=fun nm A hA hs=>?_,nd:=fun nm A hA hs=>?_,pX:=fun x y b hx hy=>?_,dS:=fun x b hx=>?_,s6:=fun x b hx=>?_,s0:=hm.s0,sn:=hm.sn,fr:=hm.fr,sz:=hm.sz,os:=hm.os,tp:=hm.tp,out:=hm.out,pin:=fun o p hp=>?_,bv:=fun o j u hv=>(by obtain⟨_,_,r⟩:=hm.bv o j u hv;obtain⟨q1,q2⟩:=hbv o j u hv;exact⟨q1,q2,r⟩),ap:=hap,hv:=fun a=>(by simp only [St.dA,h.vr,look];rfl),ds:=hm.ds,hh:=fun nm A hA hs hn=>?_}
 ·show SlV (match look al a with | some (some a,_)=>G.ψ a | _=>.slice none 0 0)
  split
  ·exact hm.sl _
  ·exact .inl ⟨_,_,_,rfl⟩
 ·obtain⟨sl,hs,ha⟩:=h.dM o tl ho
  obtain⟨arr,elem,mid,g1,g2,g3⟩:=hm.ob o sl hs;exact⟨arr,elem,mid,g1,g2,(ha.imp fun a b hab v hv=>hab X G w v hm hv).abD g3⟩
 ·obtain⟨jM,hl⟩:=h.arr nm A hA
  cases jM with
  |none=>obtain⟨h1,h2,h3⟩:=h.nil nm A hl;refine(gW h1 h3).2 ?_;exact .inl ⟨h2,by simp [Gh.t7,hl],by simp [Gh.t7,hl]⟩
  |some a=>obtain⟨h1,h2⟩:=h.jM nm a A hl;exact(hm.ar a A h2).mono (G:=G) (a:=a) (G':=G.t7 al) (a':=nm) (fun _ _ h=>h) (by simp [Gh.t7,hl]) (by simp [Gh.t7,hl]) (fun _ _ _=>⟨rfl,rfl,rfl⟩)
 ·obtain⟨jM,hl⟩:=h.arr nm A hA
  cases jM with
  |none=>intro p hp;simp [Gh.t7,hl] at hp
  |some a=>simpa [Gh.t7,hl] using hm.ah a A (h.jM nm a A hl).2 hs
 ·obtain⟨jM,hl⟩:=h.arr nm A hA
  cases jM with
  |none=>simp [Gh.t7,hl]
  |some a=>simpa [Gh.t7,hl] using hm.nd a A (h.jM nm a A hl).2 hs
 ·obtain⟨x',D3,cx⟩:=pe x b hx
  obtain⟨y',E9,cy⟩:=pe y b hy;have e:=hm.pX x' y' b D3 E9;rcases cx with ⟨o,rfl,rfl⟩ |⟨nm,a,A,rfl,rfl,hl⟩<;>rcases cy with ⟨o',rfl,rfl⟩ |⟨nm',a',A',rfl,rfl,KV⟩
  ·exact e
  ·simp at e
  ·simp at e
  ·simp only [Prod.mk.injEq,true_and] at e
   subst e;rw [h.inj nm nm' a A A' hl KV]
 ·obtain⟨x',D3,_⟩:=pe x b hx;exact hm.dS x' b D3
 ·obtain⟨x',D3,_⟩:=pe x b hx;exact hm.s6 x' b D3
 ·exact⟨V1 o p hp,(hm.pin o p hp).2⟩
 ·obtain⟨jM,hl⟩:=h.arr nm A hA
  cases jM with
  |none=>simp [Gh.t7,hl,ko]
  |some a=>simp [Gh.t7,hl]
theorem abr.ok{st t:St}{al:AL}(h:abr st t al){X:mt}{G:Gh}{w:World}(hm:aB X st G w):aB X t (G.t7 al) w:=
 h.toJv.ok hm (fun o p hp=>(by obtain⟨⟨sl,hs⟩,_⟩:=hm.pin o p hp;exact h.pin o sl (X.pl o p hp) hs))
  (fun o j u hv=>(by obtain⟨⟨lf,h1⟩,⟨sl,h2,h3⟩,_⟩:=hm.bv o j u hv;exact h.ur o j lf sl (X.bl o j u hv) h1 h2 h3))
  (fun a u hu=>(by
   obtain⟨h1,_,h3⟩:=hm.ap a u hu;obtain⟨⟨A,h4⟩,B,h5⟩:=h.pa a h1;exact⟨(by rw [h.pn];exact h1),⟨B,h5⟩,by simp [Gh.t7,h4,h3]⟩))
theorem Jv.ez{st t:St}{al:AL}(h:Jv st t al){X:mt}{G:Gh}{w:World}(hm:aB X st G w){act:Act}(hr:bL G st act):bL (G.t7 al) t act:=
 ⟨hr.1,hr.2.1.trans h.n.symm,fun i tv ht=>by
  refine h.ii i tv ht X G w _ hm ?_;unfold St.t6;cases hs:st.ii i with
  |none=>trivial
  |some sv=>exact hr.2.2 i sv hs⟩
structure WQ(st t:St):Prop where
 vr:t.DS=st.DS
 pn:t.pin=st.pin
 ap:∀ a A,eV a st.pin=true→st.arr a=some A→∃ B,t.arr a=some B
 n:t.n=st.n
 arr:∀ nm A,t.arr nm=some A→st.arr nm=some A
 ii:∀ i tv,t.ii i=some tv→∀ G v,aU G (st.t6 i) v→aU G tv v
 dM:∀ o tl,t.dM o=some tl→∃ sl,st.dM o=some sl∧All2 (fun a b=>∀ G v,aY G a v→aY G b v) (st.jT o 0 sl) (t.jT o 0 tl)
 pin:∀ o sl,o < 10000→st.dM o=some sl→∃ tl,t.dM o=some tl
 ur:∀ o j lf sl,dY t.cA o j=some lf→st.dM o=some sl→sl[j]? = some .ur→∃ tl,t.dM o=some tl∧tl[j]? = some .ur
theorem WQ.ok{st t:St}(h:WQ st t){X:mt}{G:Gh}{w:World}(hm:aB X st G w)(hbv:∀ o j u,X.bv o j=some u→∃ lf,dY t.cA o j=some lf):aB X t G w:=by
 have pe:∀ x b,eW G t x b→eW G st x b:=fun x b hx=>by
  obtain⟨k,n⟩:=x;cases k with
  |false=>obtain⟨⟨tl,ht⟩,rfl⟩:=hx;obtain⟨sl,hs,_⟩:=h.dM n tl ht;exact⟨⟨sl,hs⟩,rfl⟩
  |true=>obtain⟨⟨A,hA,hs⟩,p,hp,rfl⟩:=hx;exact⟨⟨A,h.arr n A hA,hs⟩,p,hp,rfl⟩
 refine {sl:=hm.sl,sh:=hm.sh,ob:=fun o tl ho=>?_,ar:=fun nm A hA=>hm.ar nm A (h.arr nm A hA),ah:=fun nm A hA hs=>hm.ah nm A (h.arr nm A hA) hs,nd:=fun nm A hA hs=>hm.nd nm A (h.arr nm A hA) hs,pX:=fun x y b hx hy=>hm.pX x y b (pe x b hx) (pe y b hy),dS:=fun x b hx=>hm.dS x b (pe x b hx),s6:=fun x b hx=>hm.s6 x b (pe x b hx),s0:=hm.s0,sn:=hm.sn,fr:=hm.fr,sz:=hm.sz,os:=hm.os,tp:=hm.tp,out:=hm.out,pin:=fun o p hp=>?_,bv:=fun o j u hv=>(by obtain⟨_,⟨sl,h2,h3⟩,r⟩:=hm.bv o j u hv;obtain⟨lf,h1⟩:=hbv o j u hv;exact⟨⟨lf,h1⟩,h.ur o j lf sl h1 h2 h3,r⟩),ap:=fun a u hu=>(by obtain⟨h1,⟨A,h2⟩,h3⟩:=hm.ap a u hu;exact⟨by rw [h.pn];exact h1,h.ap a A h1 h2,h3⟩),hv:=fun a=>(by rw [hm.hv a];simp only [St.dA,h.vr]),ds:=hm.ds,hh:=fun nm A hA hs hn=>hm.hh nm A (h.arr nm A hA) hs hn}
 ·obtain⟨sl,hs,ha⟩:=h.dM o tl ho
  obtain⟨arr,elem,mid,g1,g2,g3⟩:=hm.ob o sl hs;exact⟨arr,elem,mid,g1,g2,(ha.imp fun a b hab v hv=>hab G v hv).abD g3⟩
 ·obtain⟨⟨sl,hs⟩,e⟩:=hm.pin o p hp
  exact⟨h.pin o sl (X.pl o p hp) hs,e⟩
theorem WQ.ez{st t:St}(h:WQ st t){G:Gh}{act:Act}(hr:bL G st act):bL G t act:=
 ⟨hr.1,hr.2.1.trans h.n.symm,fun i tv ht=>by
  refine h.ii i tv ht G _ ?_;unfold St.t6;cases hs:st.ii i with
  |none=>trivial
  |some sv=>exact hr.2.2 i sv hs⟩
end Go.Fx
namespace Go.Fx
inductive Pl where
 |r (i:Nat) | l (o j:Nat) | q (i j:Nat)
def Pl.key:Pl→Nat
 |.r i=>1000000 + i
 |.l o j=>2000000 + o * 1000 + j
 |.q i j=>20000000 + i * 1000 + j
def Md.Qz:Md→Bool
 |.dE=>true
 |.bR=>true
 |_=>false
inductive mq where
 |any | d (t:Ty) | h (m:Md) (t:Ty) | lit (l:ag)
@[reducible] def mq.V:mq→Type
 |.any=>Unit | .d t=>t.ng | .h _ t=>List t.ng | .lit _=>Unit
abbrev kN:=List (Pl×mq)
@[reducible] def PV:kN→Type
 |[]=>Unit
 |p :: r=>p.2.V×PV r
def mq.bM(nm:Nat):(s:mq)→s.V→ag
 |.any,_=>.any
 |.d t,x=>.eZ t x
 |.h _ _,_=>.mu nm
 |.lit l,_=>l
def mq.arr:(s:mq)→s.V→Option jF
 |.h m t,x=>some ⟨t,m,false,x⟩
 |_,_=>none
def lA:(ps:kN)→PV ps→List (Nat×ae)
 |[],_=>[]
 |(.r i,s) :: r,v=>(i,.one (s.bM (Pl.r i).key v.1)) :: lA r v.2
 |(.l _ _,_) :: r,v=>lA r v.2
 |(.q _ _,_) :: r,v=>lA r v.2
def H6:(ps:kN)→PV ps→List (Nat×Nat×ag)
 |[],_=>[]
 |(.q i j,s) :: r,v=>(i,j,s.bM (Pl.q i j).key v.1) :: H6 r v.2
 |(.r _,_) :: r,v=>H6 r v.2
 |(.l _ _,_) :: r,v=>H6 r v.2
def QG(i:Nat):kN→Nat
 |[]=>0
 |(.q i' _,_) :: r=>bif Nat.beq i' i then QG i r + 1 else QG i r
 |_ :: r=>QG i r
def Wn(full:kN):kN→List (Nat×Nat)
 |[]=>[]
 |(.q i 0,_) :: r=>(i,QG i full) :: Wn full r
 |_ :: r=>Wn full r
def qsh(l:List (Nat×Nat×ag))(i:Nat):Nat→Nat→List ag
 |_,0=>[]
 |j,n + 1=>(match dY l i j with | some l=>l | none=>.any) :: qsh l i (j + 1) n
def Ri(ps:kN)(v:PV ps):List (Nat×ae):=(Wn ps ps).map fun p=>(p.1,.agg (qsh (H6 ps v) p.1 0 p.2))
def b8:(ps:kN)→PV ps→List (Nat×Nat×ag)
 |[],_=>[]
 |(.l o j,s) :: r,v=>(o,j,s.bM (Pl.l o j).key v.1) :: b8 r v.2
 |(.r _,_) :: r,v=>b8 r v.2
 |(.q _ _,_) :: r,v=>b8 r v.2
def eH:(ps:kN)→PV ps→List (Nat×jF)
 |[],_=>[]
 |(p,s) :: r,v=>(match s.arr v.1 with | some A=>(p.key,A) :: eH r v.2 | none=>eH r v.2)
structure pW where
 n:Nat
 cf:List (Nat×Nat)
 cs:kN
 vs:kN
 pin:List Nat
def ph(cl vl:List (Nat×Nat×ag))(o:Nat):Nat→Nat→List ag
 |_,0=>[]
 |j,k + 1=>(match dY cl o j with | some _=>.ur | none=>match dY vl o j with | some l=>l | none=>.any) :: ph cl vl o (j + 1) k
def pW.st(L:pW)(c:PV L.cs)(v:PV L.vs):St:=
 ⟨L.n,lA L.vs v ++ Ri L.vs v,L.cf.map fun p=>(p.1,ph (b8 L.cs c) (b8 L.vs v) p.1 0 p.2),eH L.vs v,lA L.cs c,b8 L.cs c,eH L.cs c,L.pin,[]⟩
def vA:ag→ag→Bool
 |.nil,.nil=>true
 |.Jg,.Jg=>true
 |.uW,.uW=>true
 |.mW o f,.mW o' f'=>Nat.beq o o' && Nat.beq f f'
 |.fn f,.fn f'=>Nat.beq f f'
 |_,_=>false
def ae.qls(v:ae):Option (List ag):=bif v.isAgg then v.pF else none
def qOk(ps:kN)(s:St):Bool:=(Wn ps ps).all fun p=>match (s.t6 p.1).qls with | some ls=>Nat.beq ls.length p.2 | none=>false
def St.at(st:St):Pl→ae
 |.r i=>st.t6 i
 |.q i j=>(match (st.t6 i).qls with | some ls=>(match ls[j]? with | some l=>.one l | none=>.one .any) | none=>.one .any)
 |.l o j=>(match st.dM o with | some ls=>(match ls[j]? with | some l=>.one (st.res o j l) | none=>.one .any) | none=>.one .any)
def zf(st:St)(p:Pl):(s:mq)→Option (s.V×AL)
 |.any=>some ((),[])
 |.d t=>(match (st.at p).wa st t with | some x=>some (x,[]) | none=>none)
 |.h m t=>(match st.at p with
  |.one .nil=>(bif m.Qz then some ([],[(p.key,none,⟨t,m,false,[]⟩)]) else none)
  |.one (.mu a)=>(match st.arr a with
   |some A=>(bif A.sh || !m.lc A.md then none else match vb (.slice A.t) (.slice t) A.l with | some x=>some (x,[(p.key,some a,⟨t,m,false,x⟩)]) | none=>none)
   |none=>none)
  |_=>none)
 |.lit l=>(match st.at p with | .one l'=>(bif vA l l' then some ((),[]) else none) | _=>none)
def kX(st:St):(ps:kN)→Option (PV ps×AL)
 |[]=>some ((),[])
 |p :: r=>(match zf st p.1 p.2 with
  |some (x,a)=>(match kX st r with | some (xs,b)=>some ((x,xs),a ++ b) | none=>none)
  |none=>none)
def iG:kN→St→Option St
 |[],st=>some st
 |(p,.d _) :: r,st=>(match (st.at p).qp st with | some st'=>iG r st' | none=>none)
 |_ :: r,st=>iG r st
def zt(al:AL):Bool:=nR (al.map (·.1)) && nR (al.filterMap (·.2.1))
def Dy(cf:List (Nat×Nat))(st:St):Bool:=
 cf.all (fun p=>match st.dM p.1 with | some ls=>Nat.beq ls.length p.2 | none=>false) && st.cf.all fun p=>Nat.ble 10000 p.1 || eV p.1 (cf.map (·.1))
def HJ(st:St):Pl→mq→Bool
 |.r i,s=>(look st.ez i).isNone && (match s with | .h _ _=>(look st.cK (Pl.r i).key).isNone | .lit l=>vA l l | _=>true)
 |.l o j,s=>(match st.dM o with | some ls=>(match ls[j]? with | some .ur=>true | _=>false) | none=>false) && (match s with | .h _ _=>(look st.cK (Pl.l o j).key).isNone | .lit l=>vA l l | _=>true)
 |.q _ _,_=>false
def uQ(st:St)(cs:kN):Bool:=nR (cs.map fun p=>p.1.key) && cs.all fun p=>HJ st p.1 p.2
def fV:(cs:kN)→PV cs→AL
 |[],_=>[]
 |(p,s) :: r,v=>(match s.arr v.1 with | some A=>(p.key,some p.key,A) :: fV r v.2 | none=>fV r v.2)
def VR:List Nat→List Nat→Bool
 |[],[]=>true
 |x :: r,y :: s=>Nat.beq x y && VR r s
 |_,_=>false
def Fd(pin:List Nat)(al:AL):Bool:=pin.all fun q=>match look al q with | some (some b,_)=>Nat.beq q b | _=>false
def ent(L:pW)(st:St):Option (PV L.cs×PV L.vs×St):=
 match iG L.cs st with
 |none=>none
 |some s=>(match iG L.vs s with
  |none=>none
  |some s=>(match kX s L.cs with
   |none=>none
   |some (c,a)=>(match kX s L.vs with
    |none=>none
    |some (v,b)=>(bif Nat.beq L.n s.n && zt (a ++ b) && Dy L.cf s && qOk L.vs s && (VR L.pin s.pin && Fd L.pin (a ++ b)) then some (c,v,s) else none))))
def rnd(L:pW)(al:AL)(s:St):Option (PV L.vs):=
 match iG L.vs s with
 |none=>none
 |some s=>(match kX s L.vs with
  |none=>none
  |some (v,b)=>(bif uQ s L.cs && zt (al ++ b) && Dy L.cf s && qOk L.vs s && Fd L.pin (al ++ b) then some v else none))
end Go.Fx
namespace Go.Fx
theorem eD:∀{l:List Nat},nR l=true→l.Nodup
 |[],_=>List.nodup_nil
 |x :: r,h=>by simp only [nR,Bool.and_eq_true,Bool.not_eq_true'] at h;rw [List.nodup_cons];exact⟨(fun hx=>(by rw [gI.2 hx] at h;cases h.1)),eD h.2⟩
theorem kW{α:Type}:∀{l:List (Nat×α)} {k:Nat} {v:α},(l.map (·.1)).Nodup→(k,v)∈l→look l k=some v
 |(k',v') :: r,k,v,hn,h=>by
  rw [aw];rw [List.map_cons,List.nodup_cons] at hn;by_cases e:k' = k
  ·subst e
   rcases List.mem_cons.1 h with h | h
   ·cases h;simp
   ·exact absurd (List.mem_map_of_mem (f:=(·.1)) h) hn.1
  ·rw [if_neg e]
   rcases List.mem_cons.1 h with h | h
   ·cases h;exact absurd rfl e
   ·exact kW hn.2 h
theorem If:∀{al:AL} {n n' a:Nat} {A A':jF},(al.filterMap (·.2.1)).Nodup→(n,some a,A)∈al→(n',some a,A')∈al→n=n'
 |(k,jM,B) :: r,n,n',a,A,A',hn,h,h'=>by
  have gX:∀{m:Nat} {C:jF},(m,some a,C)∈r→a∈r.filterMap (·.2.1):=fun {m C} hm=>List.mem_filterMap.2 ⟨_,hm,rfl⟩
  rcases List.mem_cons.1 h with h1 | h1<;>rcases List.mem_cons.1 h' with h2 | h2
  ·cases h1;cases h2;rfl
  ·cases h1
   simp only [List.filterMap_cons,List.nodup_cons] at hn;exact absurd (gX h2) hn.1
  ·cases h2
   simp only [List.filterMap_cons,List.nodup_cons] at hn;exact absurd (gX h1) hn.1
  ·refine If (al:=r) ?_ h1 h2
   cases jM with
   |none=>simpa using hn
   |some _=>simp only [List.filterMap_cons,List.nodup_cons] at hn;exact hn.2
def Lb(s:St)(al:AL):Prop:=∀ nm jM A,(nm,jM,A)∈al→A.sh=false∧(match jM with | some a=>s.arr a=some A | none=>A.l = []∧A.pe=true)
structure Src(s:St)(al:AL)(p:Pl)(sp:mq)(x:sp.V):Prop where
 Ff:∀ X G w v,aB X s G w→aU G (s.at p) v→aU (G.t7 al) (.one (sp.bM p.key x)) v
 arr:∀ A,sp.arr x=some A→∃ jM,look al p.key=some (jM,A)
def se(s:St)(al:AL):(ps:kN)→PV ps→Prop
 |[],_=>True
 |(p,sp) :: r,v=>Src s al p sp v.1∧se s al r v.2
theorem Ml{l l':ag}(h:vA l l' = true):l=l':=by cases l<;>cases l'<;>simp_all [vA]
theorem UV{G:Gh}{al:AL}{l l':ag}{v:Value}(h:vA l l' = true)(r:aY G l' v):aY (G.t7 al) l v:=by rw [Ml h];cases l'<;>first | exact r |(cases l<;>simp [vA] at h)
theorem YM{s:St}{p:Pl}{sp:mq}{x:sp.V}{a:AL}(h:zf s p sp=some (x,a)):Lb s a:=by
 cases sp with
 |any=>simp only [zf,Option.some.injEq,Prod.mk.injEq] at h;obtain⟨_,rfl⟩:=h;intro _ _ _ hm;cases hm
 |d t=>
  simp only [zf] at h;split at h
  ·simp only [Option.some.injEq,Prod.mk.injEq] at h;obtain⟨_,rfl⟩:=h;intro _ _ _ hm;cases hm
  ·cases h
 |lit l=>
  simp only [zf] at h;split at h
  ·rename_i l' _
   cases he:vA l l'<;>simp [he] at h;subst h;intro _ _ _ hm;cases hm
  ·cases h
 |h m t=>
  simp only [zf] at h;split at h
  ·cases hw:m.Qz with
   |false=>simp [hw] at h
   |true=>
   simp only [hw,cond_true,Option.some.injEq,Prod.mk.injEq] at h;obtain⟨_,rfl⟩:=h;intro nm jM A hm;simp only [List.mem_singleton,Prod.mk.injEq] at hm;obtain⟨_,rfl,rfl⟩:=hm;exact⟨rfl,rfl,hw⟩
  ·rename_i b _
   split at h
   ·rename_i A hA
    cases hs:(A.sh || !m.lc A.md) with
    |true=>simp [hs] at h
    |false=>
     simp only [hs,cond_false] at h;simp only [Bool.or_eq_false_iff,Bool.not_eq_false'] at hs;split at h
     ·rename_i y hy
      simp only [Option.some.injEq,Prod.mk.injEq] at h;obtain⟨rfl,rfl⟩:=h;intro nm jM B hm;simp only [List.mem_singleton,Prod.mk.injEq] at hm;obtain⟨_,rfl,rfl⟩:=hm;obtain⟨ec,el⟩:=lu hy;have ux:=Md.ww hs.2;obtain⟨t',dp,sh,ll⟩:=A;simp only [Ty.slice.injEq] at ec;subst ec;simp only at el hs ux;obtain⟨rfl,_⟩:=hs;subst el ux;exact⟨rfl,hA⟩
     ·cases h
   ·cases h
  ·cases h
theorem aad{s:St}{p:Pl}{sp:mq}{x:sp.V}{a al:AL}(h:zf s p sp=some (x,a))(qb:∀ e∈a,e∈al)(hn:(al.map (·.1)).Nodup):Src s al p sp x:=by
 cases sp with
 |any=>exact⟨fun _ _ _ _ _ _=>trivial,fun A hA=>by cases hA⟩
 |d t=>
  simp only [zf] at h;split at h
  ·rename_i y hy
   simp only [Option.some.injEq,Prod.mk.injEq] at h;obtain⟨rfl,_⟩:=h;exact⟨fun X G w v hm hv=>CX hm hy hv,fun A hA=>by cases hA⟩
  ·cases h
 |lit l=>
  simp only [zf] at h;split at h
  ·rename_i l' KV
   cases he:vA l l'<;>simp [he] at h;refine⟨fun X G w v hm hv=>?_,fun A hA=>by cases hA⟩
   rw [KV] at hv;exact UV he hv
  ·cases h
 |h m t=>
  simp only [zf] at h;split at h
  ·rename_i uw
   cases hw:m.Qz with
   |false=>simp [hw] at h
   |true=>
   simp only [hw,cond_true,Option.some.injEq,Prod.mk.injEq] at h;obtain⟨rfl,rfl⟩:=h;have hl:=kW hn (qb _ (List.mem_singleton.2 rfl));refine⟨fun X G w v hm hv=>?_,fun A hA=>⟨none,by rw [hl];simp [mq.arr] at hA;rw [hA]⟩⟩
   rw [uw] at hv;show v=(G.t7 al).ψ p.key;simp only [Gh.t7,hl];exact hv
  ·rename_i b uw
   split at h
   ·rename_i A hA
    cases hs:(A.sh || !m.lc A.md) with
    |true=>simp [hs] at h
    |false=>
     simp only [hs,cond_false] at h;split at h
     ·rename_i y hy
      simp only [Option.some.injEq,Prod.mk.injEq] at h;obtain⟨rfl,rfl⟩:=h;have hl:=kW hn (qb _ (List.mem_singleton.2 rfl));refine⟨fun X G w v hm hv=>?_,fun A hA=>⟨some b,by rw [hl];simp [mq.arr] at hA;rw [hA]⟩⟩
      rw [uw] at hv;show v=(G.t7 al).ψ p.key;simp only [Gh.t7,hl];exact hv
     ·cases h
   ·cases h
  ·cases h
theorem pg{s:St}:∀{ps:kN} {v:PV ps} {a:AL},kX s ps=some (v,a)→Lb s a
 |[],v,a,h=>by simp only [kX,Option.some.injEq,Prod.mk.injEq] at h;obtain⟨_,rfl⟩:=h;intro _ _ _ hm;cases hm
 |(p,sp) :: r,v,a,h=>by
  simp only [kX] at h;split at h
  ·rename_i x a1 h1
   split at h
   ·rename_i xs b h2
    simp only [Option.some.injEq,Prod.mk.injEq] at h;obtain⟨_,rfl⟩:=h;intro nm jM A hm;rcases List.mem_append.1 hm with hm | hm
    ·exact YM h1 nm jM A hm
    ·exact pg h2 nm jM A hm
   ·cases h
  ·cases h
theorem uE{s:St}{al:AL}(hn:(al.map (·.1)).Nodup):∀{ps:kN} {v:PV ps} {a:AL},kX s ps=some (v,a)→(∀ e∈a,e∈al)→se s al ps v
 |[],v,a,h,_=>trivial
 |(p,sp) :: r,v,a,h,qb=>by
  simp only [kX] at h;split at h
  ·rename_i x a1 h1
   split at h
   ·rename_i xs b h2
    simp only [Option.some.injEq,Prod.mk.injEq] at h;obtain⟨rfl,rfl⟩:=h;exact⟨aad h1 (fun e he=>qb e (List.mem_append_left _ he)) hn,uE hn h2 (fun e he=>qb e (List.mem_append_right _ he))⟩
   ·cases h
  ·cases h
theorem A9{s:St}{al:AL}:∀{ps:kN} {v:PV ps} {nm:Nat} {A:jF},se s al ps v→look (eH ps v) nm=some A→∃ jM,look al nm=some (jM,A)
 |[],v,nm,A,_,h=>by cases h
 |(p,sp) :: r,v,nm,A,hs,h=>by
  simp only [eH] at h;split at h
  ·rename_i B hB
   rw [aw] at h;by_cases e:p.key=nm
   ·simp only [e,if_true,Option.some.injEq] at h
    subst h;subst e;exact hs.1.arr _ hB
   ·simp only [e,if_false] at h;exact A9 hs.2 h
  ·exact A9 hs.2 h
theorem io{α:Type}:∀(l m:List (Nat×α)) (k:Nat),look (l ++ m) k=(match look l k with | some v=>some v | none=>look m k)
 |[],m,k=>rfl
 |(k',v) :: r,m,k=>by
  simp only [List.cons_append,aw];by_cases e:k' = k
  ·simp [e]
  ·simp only [e,if_false];exact io r m k
theorem wV{s:St}:∀{ps:kN} {v:PV ps} {a:AL},kX s ps=some (v,a)→∀ nm jM A,(nm,jM,A)∈a→∃ B,look (eH ps v) nm=some B
 |[],v,a,h,nm,jM,A,hm=>by simp only [kX,Option.some.injEq,Prod.mk.injEq] at h;obtain⟨_,rfl⟩:=h;cases hm
 |(p,sp) :: r,v,a,h,nm,jM,A,hm=>by
  simp only [kX] at h;split at h
  ·rename_i x a1 h1
   split at h
   ·rename_i xs b h2
    simp only [Option.some.injEq,Prod.mk.injEq] at h;obtain⟨rfl,rfl⟩:=h;have key:(∃ B,look (eH r xs) nm=some B)→∃ B,look (eH ((p,sp) :: r) (x,xs)) nm=some B:=fun⟨B,hB⟩=>by
     simp only [eH];split
     ·rw [aw];split
      ·exact⟨_,rfl⟩
      ·exact⟨B,hB⟩
     ·exact⟨B,hB⟩
    rcases List.mem_append.1 hm with hm | hm
    ·have hs:nm=p.key∧sp.arr x=some A:=by
      cases sp with
      |any=>simp only [zf,Option.some.injEq,Prod.mk.injEq] at h1;obtain⟨_,rfl⟩:=h1;cases hm
      |d t=>simp only [zf] at h1;split at h1<;>simp at h1;obtain⟨_,rfl⟩:=h1;cases hm
      |lit l=>
       simp only [zf] at h1;split at h1
       ·rename_i l' _;cases he:vA l l'<;>simp [he] at h1;subst h1;cases hm
       ·cases h1
      |h m t=>
       simp only [zf] at h1;split at h1
       ·cases hw:m.Qz with
        |false=>simp [hw] at h1
        |true=>simp only [hw,cond_true,Option.some.injEq,Prod.mk.injEq] at h1;obtain⟨rfl,rfl⟩:=h1;simp only [List.mem_singleton,Prod.mk.injEq] at hm;obtain⟨rfl,_,rfl⟩:=hm;exact⟨rfl,rfl⟩
       ·split at h1
        ·rename_i A' _
         cases hs:(A'.sh || !m.lc A'.md) with
         |true=>simp [hs] at h1
         |false=>
          simp only [hs,cond_false] at h1;split at h1
          ·simp only [Option.some.injEq,Prod.mk.injEq] at h1
           obtain⟨rfl,rfl⟩:=h1;simp only [List.mem_singleton,Prod.mk.injEq] at hm;obtain⟨rfl,_,rfl⟩:=hm;exact⟨rfl,rfl⟩
          ·cases h1
        ·cases h1
       ·cases h1
     obtain⟨rfl,e⟩:=hs;exact⟨A,by simp [eH,e,aw]⟩
    ·exact key (wV h2 nm jM A hm)
   ·cases h
  ·cases h
theorem QJ{L:pW}{c:PV L.cs}{v:PV L.vs}{nm:Nat}(h:(∃ B,look (eH L.cs c) nm=some B)∨∃ B,look (eH L.vs v) nm=some B):∃ B,(L.st c v).arr nm=some B:=by
 have e:(L.st c v).arr nm=(match look (eH L.vs v) nm with | some v=>some v | none=>look (eH L.cs c) nm):=rfl
 rw [e];cases hv:look (eH L.vs v) nm with
 |some B=>exact⟨B,rfl⟩
 |none=>
  rcases h with h |⟨B,h⟩
  ·exact h
  ·rw [hv] at h;cases h
theorem yq{s:St}{al:AL}:∀{ps:kN} {v:PV ps} {i:Nat} {tv:ae},se s al ps v→look (lA ps v) i=some tv→∀ X G w u,aB X s G w→aU G (s.t6 i) u→aU (G.t7 al) tv u
 |[],v,i,tv,_,h=>by cases h
 |(.r j,sp) :: r,v,i,tv,hs,h=>by
  simp only [lA] at h;rw [aw] at h;by_cases e:j=i
  ·simp only [e,if_true,Option.some.injEq] at h
   subst h;subst e;exact hs.1.Ff
  ·simp only [e,if_false] at h;exact yq hs.2 h
 |(.l o j,sp) :: r,v,i,tv,hs,h=>yq (ps:=r) hs.2 h
 |(.q _ _,sp) :: r,v,i,tv,hs,h=>yq (ps:=r) hs.2 h
theorem Ee{s:St}{al:AL}:∀{ps:kN} {v:PV ps} {o j:Nat} {lf:ag},se s al ps v→dY (H6 ps v) o j=some lf→∀ X G w u,aB X s G w→aU G (s.at (.q o j)) u→aY (G.t7 al) lf u
 |[],v,o,j,lf,_,h=>by cases h
 |(.r _,sp) :: r,v,o,j,lf,hs,h=>Ee (ps:=r) hs.2 h
 |(.l _ _,sp) :: r,v,o,j,lf,hs,h=>Ee (ps:=r) hs.2 h
 |(.q o' j',sp) :: r,v,o,j,lf,hs,h=>by
  simp only [H6,dY] at h;cases hb:(Nat.beq o' o && Nat.beq j' j) with
  |true=>simp only [hb,cond_true,Option.some.injEq] at h;simp only [Bool.and_eq_true] at hb;have e1:=Nat.eq_of_beq_eq_true hb.1;have e2:=Nat.eq_of_beq_eq_true hb.2;subst h;subst e1;subst e2;exact fun X G w u hm hu=>hs.1.Ff X G w u hm hu
  |false=>simp only [hb,cond_false] at h;exact Ee hs.2 h
theorem YL{X:mt}{st:St}{G:Gh}{w:World}{v:ae}{ls:List ag}{u:Value}(hm:aB X st G w)(h:v.qls=some ls)(hu:aU G v u):∃ cs:List Value,u = .agg cs.toArray∧All2 (aY G) ls cs:=by
 unfold ae.qls at h;cases hi:v.isAgg with
 |false=>rw [hi] at h;cases h
 |true=>rw [hi,cond_true] at h;have h1:=mr hm h hu;obtain⟨cs,e⟩:=Dj hi hu;subst e;exact⟨cs.toList,by simp,h1⟩
theorem Vf{s:St}{al:AL}{ps:kN}{v:PV ps}(hs:se s al ps v){i:Nat}{X:mt}{G:Gh}{w:World}(hm:aB X s G w){sl:List ag}(hq:(s.t6 i).qls=some sl):∀(n j:Nat) (l:List ag) (cs:List Value),l.length=n→(∀ k,sl[j + k]? = l[k]?)→All2 (aY G) l cs→All2 (aY (G.t7 al)) (qsh (H6 ps v) i j n) cs
 |0,j,[],[],_,_,_=>trivial
 |n + 1,j,a :: l,c :: cs,hl,hi,ha=>by
  refine⟨?_,Vf hs hm hq n (j + 1) l cs (by simpa using hl) (fun k=>by have:=hi (k + 1);rw [show j + (k + 1)=j + 1 + k by omega] at this;simpa using this) ha.2⟩
  cases hc:dY (H6 ps v) i j with
  |none=>trivial
  |some lf=>
   refine Ee hs hc X G w c hm ?_;have h0:sl[j]? = some a:=by simpa using hi 0
   simp only [St.at,hq,h0];exact ha.1
 |0,j,[],_ :: _,_,_,ha=>ha.elim
 |n + 1,j,_ :: _,[],_,_,ha=>ha.elim
theorem WR{s:St}{al:AL}{ps:kN}{v:PV ps}(hs:se s al ps v)(hq:qOk ps s=true){i:Nat}{tv:ae}(h:look (Ri ps v) i=some tv):∀ X G w u,aB X s G w→aU G (s.t6 i) u→aU (G.t7 al) tv u:=by
 intro X G w u hm hu;obtain⟨n,hin,rfl⟩:∃ n,(i,n)∈Wn ps ps∧tv = .agg (qsh (H6 ps v) i 0 n):=by unfold Ri at h;have gX:=dV h;obtain⟨⟨k,n⟩,h1,h2⟩:=List.mem_map.1 gX;simp only [Prod.mk.injEq] at h2;obtain⟨rfl,rfl⟩:=h2;exact⟨n,h1,rfl⟩
 have h2:=List.all_eq_true.1 hq _ hin;split at h2
 ·rename_i ls Nc
  obtain⟨cs,e1,e2⟩:=YL hm Nc hu;exact⟨cs,e1,Vf hs hm Nc n 0 ls cs (Nat.eq_of_beq_eq_true h2) (fun k=>by rw [Nat.zero_add]) e2⟩
 ·cases h2
theorem tz{s:St}{al:AL}:∀{ps:kN} {v:PV ps} {o j:Nat} {lf:ag},se s al ps v→dY (b8 ps v) o j=some lf→∀ X G w u,aB X s G w→aU G (s.at (.l o j)) u→aY (G.t7 al) lf u
 |[],v,o,j,lf,_,h=>by cases h
 |(.r _,sp) :: r,v,o,j,lf,hs,h=>tz (ps:=r) hs.2 h
 |(.q _ _,sp) :: r,v,o,j,lf,hs,h=>tz (ps:=r) hs.2 h
 |(.l o' j',sp) :: r,v,o,j,lf,hs,h=>by
  simp only [b8,dY] at h;cases hb:(Nat.beq o' o && Nat.beq j' j) with
  |true=>simp only [hb,cond_true,Option.some.injEq] at h;simp only [Bool.and_eq_true] at hb;have e1:=Nat.eq_of_beq_eq_true hb.1;have e2:=Nat.eq_of_beq_eq_true hb.2;subst h;subst e1;subst e2;exact fun X G w u hm hu=>hs.1.Ff X G w u hm hu
  |false=>simp only [hb,cond_false] at h;exact tz hs.2 h
theorem wT{cl vl:List (Nat×Nat×ag)}:∀{cf:List (Nat×Nat)} {o:Nat} {tl:List ag},look (cf.map fun p=>(p.1,ph cl vl p.1 0 p.2)) o=some tl→∃ len,(o,len)∈cf∧tl=ph cl vl o 0 len
 |[],o,tl,h=>by cases h
 |(q,len) :: r,o,tl,h=>by
  simp only [List.map_cons,aw] at h;by_cases e:q=o
  ·simp only [e,if_true,Option.some.injEq] at h
   subst h;subst e;exact⟨len,by simp,rfl⟩
  ·simp only [e,if_false] at h
   obtain⟨len,h1,h2⟩:=wT h;exact⟨len,List.mem_cons_of_mem _ h1,h2⟩
theorem uS{α β:Type}{f:Nat×α→β}:∀{l:List (Nat×α)} {o:Nat},o∈l.map (·.1)→∃ b,look (l.map fun p=>(p.1,f p)) o=some b
 |[],o,h=>by cases h
 |p :: r,o,h=>by
  simp only [List.map_cons,aw];by_cases e:p.1=o
  ·simp [e]
  ·simp only [e,if_false]
   rcases List.mem_cons.1 h with h | h
   ·exact absurd h.symm e
   ·exact uS h
theorem O9{s:St}{al:AL}{L:pW}{c:PV L.cs}{v:PV L.vs}(hc:se s al L.cs c)(hv:se s al L.vs v){o:Nat}{sl:List ag}(ho:s.dM o=some sl):∀(k j:Nat) (l:List ag),l.length=k→(∀ i,sl[j + i]? = l[i]?)→
  All2 (fun a b=>∀ X G w u,aB X s G w→aY G a u→aY (G.t7 al) b u) (s.jT o j l) ((L.st c v).jT o j (ph (b8 L.cs c) (b8 L.vs v) o j k))
 |0,j,[],_,_=>trivial
 |k + 1,j,a :: l,hl,hi=>by
  refine⟨fun X G w u hm hu=>?_,O9 hc hv ho k (j + 1) l (by simpa using hl) (fun i=>by have:=hi (i + 1);rw [show j + (i + 1)=j + 1 + i by omega] at this;simpa using this)⟩
  have uw:s.at (.l o j) = .one (s.res o j a):=by
   have h0:sl[j]? = some a:=by simpa using hi 0
   simp [St.at,ho,h0]
  have hu':aU G (s.at (.l o j)) u:=by rw [uw];exact hu
  cases ma:dY (b8 L.cs c) o j with
  |some lf=>simp only [ma,St.res];have:(L.st c v).cA=b8 L.cs c:=rfl;rw [this,ma];exact tz hc ma X G w u hm hu'
  |none=>
   simp only [ma];cases hvl:dY (b8 L.vs v) o j with
   |none=>exact trivial
   |some lf=>
    simp only;have h1:=tz hv hvl X G w u hm hu';cases lf with
    |ur=>simp only [St.res];have:(L.st c v).cA=b8 L.cs c:=rfl;rw [this,ma];trivial
    |_=>exact h1
theorem yt{cl vl:List (Nat×Nat×ag)}{o:Nat}:∀{k i j:Nat} {lf:ag},j < k→dY cl o (i + j)=some lf→(ph cl vl o i k)[j]? = some .ur
 |k + 1,i,0,lf,_,h=>by simp only [ph];rw [Nat.add_zero] at h;simp [h]
 |k + 1,i,j + 1,lf,hj,h=>by simp only [ph,List.getElem?_cons_succ];exact yt (by omega) (by rw [show i + 1 + j=i + (j + 1) by omega];exact h)
theorem Se{s:St}{al:AL}{L:pW}{c:PV L.cs}{v:PV L.vs}(hc:se s al L.cs c)(hv:se s al L.vs v)(hg:Lb s al)(E7:zt al=true)(ho:(L.cf.all fun p=>match s.dM p.1 with | some ls=>Nat.beq ls.length p.2 | none=>false)=true)(hn:L.n=s.n)(hq:qOk L.vs s=true):Jv s (L.st c v) al:=by
 simp only [zt,Bool.and_eq_true] at E7;refine {n:=hn,vr:=rfl,arr:=fun nm A h=>?_,jM:=fun nm a A h=>?_,nil:=fun nm A h=>?_,inj:=fun nm nm' a A A' h h'=>?_,ii:=fun i tv h=>?_,dM:=fun o tl h=>?_}
 ·unfold St.arr at h
  split at h
  ·rename_i B hB;cases h;exact A9 hv hB
  ·exact A9 hc h
 ·exact hg nm (some a) A (dV h)
 ·exact hg nm none A (dV h)
 ·exact If (eD E7.2) (dV h) (dV h')
 ·unfold St.ii at h
  split at h
  ·rename_i B hB
   cases h;have hB:look (lA L.vs v ++ Ri L.vs v) i=some tv:=hB;rw [io] at hB;cases hr:look (lA L.vs v) i with
   |some x=>rw [hr] at hB;cases hB;exact yq hv hr
   |none=>rw [hr] at hB;exact WR hv hq hB
  ·exact yq hc h
 ·obtain⟨len,h1,rfl⟩:=wT h
  have h2:=List.all_eq_true.1 ho _ h1;split at h2
  ·rename_i sl KX
   exact⟨sl,KX,O9 hc hv KX len 0 sl (Nat.eq_of_beq_eq_true h2) (fun i=>by rw [Nat.zero_add])⟩
  ·cases h2
theorem Ql{s:St}{al:AL}{L:pW}{c:PV L.cs}{v:PV L.vs}(hc:se s al L.cs c)(hv:se s al L.vs v)(hg:Lb s al)(E7:zt al=true)(ho:Dy L.cf s=true)(hn:L.n=s.n)(hbl:∀ o j lf,dY s.cA o j=some lf→∃ lf',dY (b8 L.cs c) o j=some lf')(hq:qOk L.vs s=true)(Nd:L.pin=s.pin)(Ik:Fd L.pin al=true)
  (sy:∀ nm jM A,(nm,jM,A)∈al→∃ B,(L.st c v).arr nm=some B):abr s (L.st c v) al:=by
 simp only [Dy,Bool.and_eq_true] at ho
 refine {toJv:=Se hc hv hg E7 ho.1 hn hq,pn:=Nd,pa:=fun a ha=>(by
  rw [←Nd] at ha;have h1:=List.all_eq_true.1 Ik a (gI.1 ha);split at h1
  ·rename_i b A hl
   obtain rfl:=Nat.eq_of_beq_eq_true h1;exact⟨⟨A,hl⟩,sy _ _ _ (dV hl)⟩
  ·cases h1),pin:=fun o sl bo h=>?_,ur:=fun o j lf sl bo hl h hj=>?_}
 ·have h2:=List.all_eq_true.1 ho.2 _ (dV h)
  simp only [Bool.or_eq_true] at h2;rcases h2 with h2 | h2
  ·have:=Nat.le_of_ble_eq_true h2;omega
  ·exact uS (f:=fun p=>ph (b8 L.cs c) (b8 L.vs v) p.1 0 p.2) (gI.1 h2)
 ·have h2:=List.all_eq_true.1 ho.2 _ (dV h)
  simp only [Bool.or_eq_true] at h2;obtain⟨lf',P4⟩:=hbl o j lf hl;refine⟨⟨lf',P4⟩,?_⟩;rcases h2 with h2 | h2
  ·have:=Nat.le_of_ble_eq_true h2;omega
  ·obtain⟨tl,htl⟩:=uS (f:=fun p=>ph (b8 L.cs c) (b8 L.vs v) p.1 0 p.2) (gI.1 h2)
   refine⟨tl,htl,?_⟩;obtain⟨len,h1,rfl⟩:=wT htl;have h3:=List.all_eq_true.1 ho.1 _ h1;simp only [h] at h3;have h3:sl.length=len:=Nat.eq_of_beq_eq_true h3;have hjl:j < sl.length:=(List.getElem?_eq_some_iff.1 hj).1;exact yt (by omega) (by rw [Nat.zero_add];exact P4)
end Go.Fx
namespace Go.Fx
theorem nI{X:mt}{w:World}:∀{ps:kN} {st st':St} {G:Gh},iG ps st=some st'→aB X st G w→∃ G',aB X st' G' w∧G.Lk G'∧qU st st'
 |[],st,st',G,h,hm=>by simp only [iG,Option.some.injEq] at h;subst h;exact⟨G,hm,.refl G,.refl _⟩
 |(p,sp) :: r,st,st',G,h,hm=>by
  cases sp with
  |d t=>
   simp only [iG] at h;split at h
   ·rename_i s1 h1
    obtain⟨G1,m1,a1,k1⟩:=Ei h1 hm;obtain⟨G2,m2,a2,k2⟩:=nI h m1;exact⟨G2,m2,a1.trans a2,k1.trans k2⟩
   ·cases h
  |_=>exact nI (ps:=r) h hm
theorem nT:∀{ps:kN} {st st':St},iG ps st=some st'→ke st st'
 |[],st,st',h=>by simp only [iG,Option.some.injEq] at h;subst h;exact .refl _
 |(p,sp) :: r,st,st',h=>by
  cases sp with
  |d t=>
   simp only [iG] at h;split at h
   ·rename_i s1 h1;exact(JR h1).trans (nT h)
   ·cases h
  |_=>exact nT (ps:=r) h
theorem Au{G G':Gh}{st st':St}(k:qU st st')(h:G.Lk G'){act:Act}(r:bL G st act):bL G' st' act:=r.sub h k.n k.ii
theorem PP:∀{l m:List Nat},VR l m=true→l=m
 |[],[],_=>rfl
 |x :: r,y :: s,h=>by simp only [VR,Bool.and_eq_true] at h;rw [Nat.eq_of_beq_eq_true h.1,PP h.2]
 |[],_ :: _,h=>by cases h
 |_ :: _,[],h=>by cases h
theorem Xe{L:pW}{st s:St}{c:PV L.cs}{v:PV L.vs}(h:ent L st=some (c,v,s))(hbl:∀ o j lf,dY s.cA o j=some lf→∃ lf',dY (b8 L.cs c) o j=some lf'){X:mt}{G:Gh}{w:World}{act:Act}(hm:aB X st G w)(hr:bL G st act):
  ∃ G',aB X (L.st c v) G' w∧bL G' (L.st c v) act:=by
 unfold ent at h;split at h
 ·cases h
 ·rename_i s1 h1
  split at h
  ·cases h
  ·rename_i s2 h2
   split at h
   ·cases h
   ·rename_i c' a hc
    split at h
    ·cases h
    ·rename_i v' b hv
     cases hk:(Nat.beq L.n s2.n && zt (a ++ b) && Dy L.cf s2 && qOk L.vs s2 && (VR L.pin s2.pin && Fd L.pin (a ++ b))) with
     |false=>simp [hk] at h
     |true=>
      simp only [hk,cond_true,Option.some.injEq,Prod.mk.injEq] at h;obtain⟨rfl,rfl,rfl⟩:=h;simp only [Bool.and_eq_true] at hk;obtain⟨⟨⟨⟨k1,k2⟩,k3⟩,k4⟩,k5,k6⟩:=hk;obtain⟨G1,m1,a1,q1⟩:=nI h1 hm;obtain⟨G2,m2,a2,q2⟩:=nI h2 m1;have hn:((a ++ b).map (·.1)).Nodup:=by have:=k2;simp only [zt,Bool.and_eq_true] at this;exact eD this.1
      have N:=Ql (L:=L) (uE hn hc (fun e he=>List.mem_append_left _ he)) (uE hn hv (fun e he=>List.mem_append_right _ he))
       (fun nm jM A gX=>by
        rcases List.mem_append.1 gX with gX | gX
        ·exact pg hc nm jM A gX
        ·exact pg hv nm jM A gX) k2 k3 (Nat.eq_of_beq_eq_true k1) hbl k4 (PP k5) k6
       (fun nm jM A gX=>QJ ((List.mem_append.1 gX).imp (wV hc nm jM A) (wV hv nm jM A)))
      exact⟨_,N.ok m2,N.ez m2 (Au q2 a2 (Au q1 a1 hr))⟩
def kM(full:(ps:kN)×PV ps):(ps:kN)→PV ps→Prop
 |[],_=>True
 |(.r i,sp) :: r,v=>look (lA full.1 full.2) i=some (.one (sp.bM (Pl.r i).key v.1))∧(∀ A,sp.arr v.1=some A→look (eH full.1 full.2) (Pl.r i).key=some A)∧kM full r v.2
 |(.l o j,sp) :: r,v=>dY (b8 full.1 full.2) o j=some (sp.bM (Pl.l o j).key v.1)∧(∀ A,sp.arr v.1=some A→look (eH full.1 full.2) (Pl.l o j).key=some A)∧kM full r v.2
 |(.q i j,sp) :: r,v=>True∧(∀ A,sp.arr v.1=some A→look (eH full.1 full.2) (Pl.q i j).key=some A)∧kM full r v.2
def Ob(p:Pl×mq)(x:p.2.V)(f:(ps:kN)×PV ps):(ps:kN)×PV ps:=⟨p :: f.1,(x,f.2)⟩
theorem kM.cons{p:Pl×mq}{x:p.2.V}{full:(ps:kN)×PV ps}:∀{ps:kN} {v:PV ps},kM full ps v→p.1.key∉ps.map (fun p=>p.1.key)→kM (Ob p x full) ps v
 |[],v,_,_=>trivial
 |(.r i,sp) :: r,v,h,hn=>by
  obtain⟨h1,h2,h3⟩:=h;simp only [List.map_cons,List.mem_cons,not_or] at hn;refine⟨?_,fun A hA=>?_,kM.cons h3 hn.2⟩
  ·obtain⟨q,sq⟩:=p
   cases q with
   |r j=>
    have:j≠i:=fun e=>hn.1 (by rw [e])
    simp only [Ob,lA,aw,if_neg this];exact h1
   |l o j=>exact h1
   |q _ _=>exact h1
  ·have:=h2 A hA
   simp only [Ob,eH];split
   ·rw [aw,if_neg hn.1];exact this
   ·exact this
 |(.l o j,sp) :: r,v,h,hn=>by
  obtain⟨h1,h2,h3⟩:=h;simp only [List.map_cons,List.mem_cons,not_or] at hn;refine⟨?_,fun A hA=>?_,kM.cons h3 hn.2⟩
  ·obtain⟨q,sq⟩:=p
   cases q with
   |r i=>exact h1
   |q _ _=>exact h1
   |l o' j'=>
    have:(Nat.beq o' o && Nat.beq j' j)=false:=by
     cases hb:(Nat.beq o' o && Nat.beq j' j) with
     |false=>rfl
     |true=>simp only [Bool.and_eq_true] at hb;exact absurd (by rw [Nat.eq_of_beq_eq_true hb.1,Nat.eq_of_beq_eq_true hb.2]) hn.1
    simp only [Ob,b8,dY,this,cond_false];exact h1
  ·have:=h2 A hA
   simp only [Ob,eH];split
   ·rw [aw,if_neg hn.1];exact this
   ·exact this
 |(.q i j,sp) :: r,v,h,hn=>by
  obtain⟨h1,h2,h3⟩:=h;simp only [List.map_cons,List.mem_cons,not_or] at hn;refine⟨trivial,fun A hA=>?_,kM.cons h3 hn.2⟩;have:=h2 A hA;simp only [Ob,eH];split
  ·rw [aw,if_neg hn.1];exact this
  ·exact this
theorem Ah:∀{ps:kN} {v:PV ps},(ps.map fun p=>p.1.key).Nodup→kM ⟨ps,v⟩ ps v
 |[],v,_=>trivial
 |p :: r,v,hn=>by
  rw [List.map_cons,List.nodup_cons] at hn;have ih:=kM.cons (p:=p) (x:=v.1) (Ah (v:=v.2) hn.2) hn.1;obtain⟨q,sq⟩:=p;cases q with
  |r i=>
   refine⟨by simp [lA,aw],fun A hA=>?_,ih⟩
   simp only at hA;simp [eH,hA,aw]
  |l o j=>
   refine⟨by simp [b8,dY],fun A hA=>?_,ih⟩
   simp only at hA;simp [eH,hA,aw]
  |q i j=>refine⟨trivial,fun A hA=>?_,ih⟩;simp only at hA;simp [eH,hA,aw]
def s8(L:pW)(c:PV L.cs)(s:St):Prop:=L.n=s.n∧s.jh=lA L.cs c∧s.cA=b8 L.cs c∧(s.fN,s.pin)=(eH L.cs c,L.pin)
theorem R1{s:St}{al:AL}{p:Pl}{sp:mq}{x:sp.V}(uw:s.at p = .one (sp.bM p.key x))(hl:∀ l,sp = .lit l→vA l l=true)(ha:∀ A,sp.arr x=some A→look al p.key=some (some p.key,A)):Src s al p sp x:=by
 refine⟨fun X G w u hm hu=>?_,fun A hA=>⟨_,ha A hA⟩⟩;rw [uw] at hu;cases sp with
 |any=>trivial
 |d t=>exact hu
 |lit l=>exact UV (hl l rfl) hu
 |h m t=>have:=ha _ rfl;show u=(G.t7 al).ψ p.key;simp only [Gh.t7,this];exact hu
theorem HK{s:St}{al:AL}{full:(ps:kN)×PV ps}(h1:s.jh=lA full.1 full.2)(h2:s.cA=b8 full.1 full.2)(hn:(al.map (·.1)).Nodup):
  ∀{ps:kN} {v:PV ps},kM full ps v→(ps.all fun p=>HJ s p.1 p.2)=true→(∀ e∈fV ps v,e∈al)→se s al ps v
 |[],v,_,_,_=>trivial
 |(.r i,sp) :: r,v,hf,hk,hs=>by
  obtain⟨f1,f2,f3⟩:=hf;simp only [List.all_cons,Bool.and_eq_true] at hk;obtain⟨k12,k3⟩:=hk;simp only [HJ,Bool.and_eq_true] at k12;obtain⟨k1,k2⟩:=k12;have hlr:look s.ez i=none:=by simpa using k1
  refine⟨R1 (by simp [St.at,St.t6,St.ii,hlr,h1,f1]) (fun l e=>by subst e;exact k2) (fun A hA=>?_),HK h1 h2 hn f3 (by simpa using k3) (fun e he=>hs e ?_)⟩
  ·exact kW hn (hs _ (by simp [fV,hA]))
  ·simp only [fV];split<;>simp [he]
 |(.l o j,sp) :: r,v,hf,hk,hs=>by
  obtain⟨f1,f2,f3⟩:=hf;simp only [List.all_cons,Bool.and_eq_true] at hk;obtain⟨k12,k3⟩:=hk;simp only [HJ,Bool.and_eq_true] at k12;obtain⟨k1,k2⟩:=k12;refine⟨R1 ?_ (fun l e=>by subst e;exact k2) (fun A hA=>?_),HK h1 h2 hn f3 (by simpa using k3) (fun e he=>hs e ?_)⟩
  ·split at k1
   ·rename_i ls ho
    split at k1
    ·rename_i hj
     simp [St.at,ho,hj,St.res,h2,f1]
    ·cases k1
   ·cases k1
  ·exact kW hn (hs _ (by simp [fV,hA]))
  ·simp only [fV];split<;>simp [he]
 |(.q i j,sp) :: r,v,hf,hk,hs=>by simp only [List.all_cons,Bool.and_eq_true,HJ] at hk;cases hk.1
theorem z8{sp:mq}{x:sp.V}{A:jF}(h:sp.arr x=some A):A.sh=false∧∃ m t,sp = .h m t:=by cases sp<;>simp [mq.arr] at h;subst h;exact⟨rfl,_,_,rfl⟩
theorem Ar{s:St}{full:(ps:kN)×PV ps}(h3:s.fN=eH full.1 full.2):
  ∀{ps:kN} {v:PV ps},kM full ps v→(ps.all fun p=>HJ s p.1 p.2)=true→Lb s (fV ps v)
 |[],v,_,_=>by intro _ _ _ h;cases h
 |(p,sp) :: r,v,hf,hk=>by
  simp only [List.all_cons,Bool.and_eq_true] at hk;obtain⟨k1,k3⟩:=hk;have f2:∀ A,sp.arr v.1=some A→look (eH full.1 full.2) p.key=some A:=by cases p<;>exact hf.2.1
  have f3:kM full r v.2:=by cases p<;>exact hf.2.2
  intro nm jM A hm;simp only [fV] at hm;split at hm
  ·rename_i B hB
   rcases List.mem_cons.1 hm with hm | hm
   ·simp only [Prod.mk.injEq] at hm
    obtain⟨rfl,rfl,rfl⟩:=hm;obtain⟨e1,m,t,e2⟩:=z8 hB;refine⟨e1,?_⟩;have vN:look s.cK p.key=none:=by subst e2;cases p<;>first |(simp only [HJ,Bool.and_eq_true] at k1;simpa using k1.2) |(simp only [HJ] at k1;cases k1)
    simp [St.arr,vN,h3,f2 _ hB]
   ·exact Ar h3 f3 (by simpa using k3) nm jM A hm
  ·exact Ar h3 f3 (by simpa using k3) nm jM A hm
theorem s8.ix{L:pW}{c:PV L.cs}{s s':St}(h:s8 L c s)(b:ke s s'):s8 L c s':=⟨h.1.trans b.1.symm,b.2.1.trans h.2.1,b.2.2.1.trans h.2.2.1,b.2.2.2.trans h.2.2.2⟩
theorem Bp:∀{cs:kN} {c:PV cs} (nm:Nat) (jM:Option Nat) (A:jF),(nm,jM,A)∈fV cs c→∃ B,look (eH cs c) nm=some B
 |[],_,nm,jM,A,h=>by cases h
 |(p,s) :: r,c,nm,jM,A,h=>by
  simp only [fV] at h;simp only [eH];split
  ·rename_i B hB
   rw [hB] at h;rw [aw];by_cases e:p.key=nm
   ·exact⟨B,by rw [if_pos e]⟩
   ·rw [if_neg e]
    rcases List.mem_cons.1 h with h | h
    ·cases h;exact absurd rfl e
    ·exact Bp nm jM A h
  ·rename_i hB
   rw [hB] at h;exact Bp nm jM A h
theorem T4{L:pW}{c:PV L.cs}{s:St}{v:PV L.vs}(hb:s8 L c s)(h:rnd L (fV L.cs c) s=some v){X:mt}{G:Gh}{w:World}{act:Act}(hm:aB X s G w)(hr:bL G s act):
  ∃ G',aB X (L.st c v) G' w∧bL G' (L.st c v) act:=by
 unfold rnd at h;split at h
 ·cases h
 ·rename_i s1 h1
  split at h
  ·cases h
  ·rename_i v' b hv
   cases hk:(uQ s1 L.cs && zt (fV L.cs c ++ b) && Dy L.cf s1 && qOk L.vs s1 && Fd L.pin (fV L.cs c ++ b)) with
   |false=>simp [hk] at h
   |true=>
    simp only [hk,cond_true,Option.some.injEq] at h;subst h;simp only [Bool.and_eq_true,uQ] at hk;obtain⟨⟨⟨⟨⟨k0,k1⟩,k2⟩,k3⟩,k4⟩,k6⟩:=hk;have CF:=hb.ix (nT h1);obtain⟨G1,m1,a1,q1⟩:=nI h1 hm;have hn:((fV L.cs c ++ b).map (·.1)).Nodup:=by have:=k2;simp only [zt,Bool.and_eq_true] at this;exact eD this.1
    have hf:=Ah (v:=c) (eD k0);have N:=Ql (L:=L) (HK (full:=⟨L.cs,c⟩) CF.2.1 CF.2.2.1 hn hf k1 (fun e he=>List.mem_append_left _ he)) (uE hn hv (fun e he=>List.mem_append_right _ he))
     (fun nm jM A gX=>by
      rcases List.mem_append.1 gX with gX | gX
      ·exact Ar (full:=⟨L.cs,c⟩) (Prod.mk.inj CF.2.2.2).1 hf k1 nm jM A gX
      ·exact pg hv nm jM A gX) k2 k3 CF.1 (fun o j lf hl=>⟨lf,by rw [←CF.2.2.1];exact hl⟩) k4 (Prod.mk.inj CF.2.2.2).2.symm k6
     (fun nm jM A gX=>QJ ((List.mem_append.1 gX).imp (Bp nm jM A) (wV hv nm jM A)))
    exact⟨_,N.ok m1,N.ez m1 (Au q1 a1 hr)⟩
end Go.Fx
namespace Go.Fx
def qj(st:St)(k:Nat):mq→ae→Bool
 |.d _,.one (.eZ _ _)=>true
 |.h _ _,.one (.mu a)=>Nat.beq a k && (look st.cK k).isNone
 |.lit l,.one l'=>vA l l'
 |.any,.one .any=>true
 |_,_=>false
def N5(st:St):Pl→mq→Bool
 |.r i,s=>(match look st.jh i with | none=>true | some tv=>(look st.ez i).isNone && qj st (Pl.r i).key s tv)
 |.q _ _,_=>true
 |.l o j,s=>(match dY st.cA o j with | none=>true | some lf=>(match st.dM o with | some ls=>(match ls[j]? with | some .ur=>true | _=>false) | none=>false) && qj st (Pl.l o j).key s (.one lf))
def Xr(i:Nat):kN→Bool
 |[]=>false
 |(.r j,_) :: r=>Nat.beq j i || Xr i r
 |_ :: r=>Xr i r
def yG(o j:Nat):kN→Bool
 |[]=>false
 |(.l o' j',_) :: r=>(Nat.beq o' o && Nat.beq j' j) || yG o j r
 |_ :: r=>yG o j r
def Xq(st:St)(nm:Nat):kN→Bool
 |[]=>false
 |(p,.h _ _) :: r=>(Nat.beq p.key nm && (match p with | .r i=>(look st.jh i).isSome | .l o j=>(dY st.cA o j).isSome | .q _ _=>false)) || Xq st nm r
 |_ :: r=>Xq st nm r
def Lo(cs:kN)(st:St):Bool:=
 nR (cs.map fun p=>p.1.key) && cs.all (fun p=>N5 st p.1 p.2) && st.jh.all (fun p=>Xr p.1 cs) && st.cA.all (fun p=>yG p.1 p.2.1 cs) && st.fN.all (fun p=>Xq st p.1 cs)
def Hn(cl bl:List (Nat×Nat×ag))(o:Nat):Nat→List ag→List ag
 |_,[]=>[]
 |j,l :: r=>(match l with | .ur=>(match dY bl o j with | some _=>.ur | none=>match dY cl o j with | some l=>l | none=>.any) | l=>l) :: Hn cl bl o (j + 1) r
def aft(L:pW)(c:PV L.cs)(v:PV L.vs)(st:St):St:=
 ⟨L.n,lA L.vs v ++ (Ri L.vs v ++ (lA L.cs c).filter (fun p=>(look st.jh p.1).isNone)),(L.st c v).cf.map (fun p=>(p.1,Hn (b8 L.cs c) st.cA p.1 0 p.2)),
  eH L.vs v ++ (eH L.cs c).filter (fun p=>(look st.fN p.1).isNone),st.jh,st.cA,st.fN,st.pin,[]⟩
theorem zd{α:Type}(f:Nat→Bool):∀(l:List (Nat×α)) (k:Nat),look (l.filter fun p=>f p.1) k=if f k=true then look l k else none
 |[],k=>by simp [look]
 |(k',v) :: r,k=>by
  have ih:=zd f r k;by_cases hf:f k' = true
  ·simp only [List.filter_cons,hf,if_true,aw]
   by_cases e:k' = k
   ·subst e;simp [hf]
   ·simp only [e,if_false];exact ih
  ·simp only [List.filter_cons,hf,aw]
   by_cases e:k' = k
   ·subst e;simp only [Bool.false_eq_true,if_false];rw [ih];simp [hf]
   ·simp only [e,if_false,Bool.false_eq_true];exact ih
structure QX(st:St)(L:pW)(c:PV L.cs):Prop where
 ii:∀ i tv,look st.jh i=some tv→look (lA L.cs c) i=some tv
 bM:∀ o j lf,dY st.cA o j=some lf→dY (b8 L.cs c) o j=some lf
 arr:∀ nm A,look st.fN nm=some A→look (eH L.cs c) nm=some A
theorem OP{s:St}{p:Pl}{sp:mq}{x:sp.V}{a:AL}{tv:ae}(h:zf s p sp=some (x,a))(uw:s.at p=tv)(hk:qj s p.key sp tv=true):tv = .one (sp.bM p.key x):=by
 cases sp with
 |any=>
  cases tv with
  |one l=>cases l with
   |any=>rfl
   |_=>simp [qj] at hk
  |_=>simp [qj] at hk
 |d t=>
  cases tv with
  |one l=>
   cases l with
   |eZ t' y=>
    simp only [zf,uw,ae.wa,ag.wa] at h;cases hc:vb t' t y with
    |none=>simp [hc] at h
    |some z=>simp only [hc,Option.some.injEq,Prod.mk.injEq] at h;obtain⟨rfl,_⟩:=h;obtain⟨rfl,rfl⟩:=lu hc;rfl
   |_=>simp [qj] at hk
  |_=>simp [qj] at hk
 |lit l=>
  cases tv with
  |one l'=>simp only [qj] at hk;rw [Ml hk];rfl
  |_=>simp [qj] at hk
 |h m t=>
  cases tv with
  |one l=>
   cases l with
   |mu b=>simp only [qj,Bool.and_eq_true] at hk;rw [Nat.eq_of_beq_eq_true hk.1];rfl
   |_=>simp [qj] at hk
  |_=>simp [qj] at hk
theorem TT{s:St}{p:Pl}{m:Md}{t:Ty}{x:(mq.h m t).V}{a:AL}{tv:ae}(h:zf s p (.h m t)=some (x,a))(uw:s.at p=tv)(hk:qj s p.key (.h m t) tv=true){A:jF}(hA:look s.fN p.key=some A):A=⟨t,m,false,x⟩:=by
 cases tv with
 |one l=>
  cases l with
  |mu b=>
   simp only [qj,Bool.and_eq_true] at hk;have e:=Nat.eq_of_beq_eq_true hk.1;subst e;have vN:look s.cK p.key=none:=by simpa using hk.2
   simp only [zf,uw,St.arr,vN,hA] at h;cases hs:(A.sh || !m.lc A.md) with
   |true=>simp [hs] at h
   |false=>
    simp only [hs,cond_false] at h;simp only [Bool.or_eq_false_iff,Bool.not_eq_false'] at hs;have ux:=Md.ww hs.2;split at h
    ·rename_i y hy
     simp only [Option.some.injEq,Prod.mk.injEq] at h;obtain⟨rfl,_⟩:=h;obtain⟨ec,el⟩:=lu hy;obtain⟨t',dp,sh,ll⟩:=A;simp only [Ty.slice.injEq] at ec;subst ec;simp only at el hs ux;obtain⟨rfl,_⟩:=hs;subst el ux;rfl
    ·cases h
  |_=>simp [qj] at hk
 |_=>simp [qj] at hk
theorem Uv{s:St}{full:(ps:kN)×PV ps}:∀{ps:kN} {v:PV ps} {a:AL},kX s ps=some (v,a)→kM full ps v→(ps.all fun p=>N5 s p.1 p.2)=true→
  (∀ i tv,Xr i ps=true→look s.jh i=some tv→look (lA full.1 full.2) i=some tv)∧
  (∀ o j lf,yG o j ps=true→dY s.cA o j=some lf→dY (b8 full.1 full.2) o j=some lf)∧
  (∀ nm A,Xq s nm ps=true→look s.fN nm=some A→look (eH full.1 full.2) nm=some A)
 |[],v,a,_,_,_=>⟨(fun _ _ h _=>(by cases h)),(fun _ _ _ h _=>(by cases h)),(fun _ _ h _=>(by cases h))⟩
 |(p,sp) :: r,v,a,h,hf,hb=>by
  simp only [kX] at h;split at h
  ·rename_i x a1 h1
   split at h
   ·rename_i xs b h2
    simp only [Option.some.injEq,Prod.mk.injEq] at h;obtain⟨rfl,rfl⟩:=h;simp only [List.all_cons,Bool.and_eq_true] at hb;obtain⟨b1,b2⟩:=hb;have f3:kM full r xs:=by cases p<;>exact hf.2.2
    have f2:∀ A,sp.arr x=some A→look (eH full.1 full.2) p.key=some A:=by cases p<;>exact hf.2.1
    obtain⟨g1,g2,g3⟩:=Uv h2 f3 b2;refine⟨fun i tv hh hl=>?_,fun o j lf hh hl=>?_,fun nm A hh hl=>?_⟩
    ·cases p with
     |l o j=>exact g1 i tv hh hl
     |q _ _=>exact g1 i tv hh hl
     |r k=>
      simp only [Xr,Bool.or_eq_true] at hh;rcases hh with hh | hh
      ·obtain rfl:=Nat.eq_of_beq_eq_true hh
       simp only [N5,hl,Bool.and_eq_true] at b1;have vN:look s.ez k=none:=by simpa using b1.1
       have:=OP h1 (tv:=tv) (by simp [St.at,St.t6,St.ii,vN,hl]) b1.2
       rw [this];exact hf.1
      ·exact g1 i tv hh hl
    ·cases p with
     |r k=>exact g2 o j lf hh hl
     |q _ _=>exact g2 o j lf hh hl
     |l o' j'=>
      simp only [yG,Bool.or_eq_true] at hh;rcases hh with hh | hh
      ·simp only [Bool.and_eq_true] at hh
       obtain rfl:=Nat.eq_of_beq_eq_true hh.1;obtain rfl:=Nat.eq_of_beq_eq_true hh.2;simp only [N5,hl,Bool.and_eq_true] at b1;obtain⟨b3,b4⟩:=b1;have uw:s.at (.l o' j') = .one lf:=by
        split at b3
        ·rename_i ls ho
         split at b3
         ·rename_i hj;simp [St.at,ho,hj,St.res,hl]
         ·cases b3
        ·cases b3
       have:=OP h1 (tv:=.one lf) uw b4;simp only [ae.one.injEq] at this;rw [this];exact hf.1
      ·exact g2 o j lf hh hl
    ·cases sp with
     |h m t=>
      simp only [Xq,Bool.or_eq_true,Bool.and_eq_true] at hh;rcases hh with ⟨hk,hh⟩ | hh
      ·obtain rfl:=Nat.eq_of_beq_eq_true hk
       rw [f2 _ rfl];have key:∀ tv,s.at p=tv→qj s p.key (.h m t) tv=true→some (⟨t,m,false,x⟩:jF)=some A:=fun tv uw hk=>by rw [TT h1 uw hk hl]
       cases p with
       |q _ _=>cases hh
       |r k=>
        obtain⟨tv,htv⟩:=Option.isSome_iff_exists.1 hh;simp only [N5,htv,Bool.and_eq_true] at b1;have vN:look s.ez k=none:=by simpa using b1.1
        exact key tv (by simp [St.at,St.t6,St.ii,vN,htv]) b1.2
       |l o j=>
        obtain⟨lf,P4⟩:=Option.isSome_iff_exists.1 hh;simp only [N5,P4,Bool.and_eq_true] at b1;obtain⟨b3,b4⟩:=b1;refine key (.one lf) ?_ b4;split at b3
        ·rename_i ls ho
         split at b3
         ·rename_i hj;simp [St.at,ho,hj,St.res,P4]
         ·cases b3
        ·cases b3
      ·exact g3 nm A hh hl
     |_=>exact g3 nm A hh hl
   ·cases h
  ·cases h
theorem Uw{s:St}{L:pW}{c:PV L.cs}{a:AL}(h:kX s L.cs=some (c,a))(hb:Lo L.cs s=true):QX s L c:=by simp only [Lo,Bool.and_eq_true] at hb;obtain⟨⟨⟨⟨h1,h2⟩,h3⟩,h4⟩,h5⟩:=hb;obtain⟨g1,g2,g3⟩:=Uv (full:=⟨L.cs,c⟩) h (Ah (eD h1)) h2;exact⟨fun i tv hl=>g1 i tv (List.all_eq_true.1 h3 _ (dV hl)) hl,fun o j lf hl=>g2 o j lf (List.all_eq_true.1 h4 _ (Jd hl)) hl,fun nm A hl=>g3 nm A (List.all_eq_true.1 h5 _ (dV hl)) hl⟩
theorem QX.ix{s st:St}{L:pW}{c:PV L.cs}(h:QX s L c)(b:ke st s):QX st L c:=
 ⟨fun i tv hl=>h.ii i tv (by rw [b.2.1];exact hl),fun o j lf hl=>h.bM o j lf (by rw [b.2.2.1];exact hl),fun nm A hl=>h.arr nm A (by rw [(Prod.mk.inj b.2.2.2).1];exact hl)⟩
theorem Om{L:pW}{c:PV L.cs}{v:PV L.vs}{st:St}(hs:QX st L c){o:Nat}:∀(ls:List ag) (j:Nat),
  All2 (fun a b=>∀ G u,aY G a u→aY G b u) ((L.st c v).jT o j ls) ((aft L c v st).jT o j (Hn (b8 L.cs c) st.cA o j ls))
 |[],j=>trivial
 |l :: r,j=>by
  refine⟨fun G u hu=>?_,Om hs r (j + 1)⟩;have CF:(L.st c v).cA=b8 L.cs c:=rfl;have LZ:(aft L c v st).cA=st.cA:=rfl;have nb:∀ l':ag,(match l' with | .ur=>False | _=>True)→(aft L c v st).res o j l' = l':=fun l' h=>by cases l'<;>first | exact h.elim | rfl
  cases l with
  |ur=>
   simp only [St.res,CF] at hu;simp only;cases hl:dY st.cA o j with
   |some lf=>simp only [St.res,LZ,hl];rw [hs.bM o j lf hl] at hu;exact hu
   |none=>
    simp only;cases hc:dY (b8 L.cs c) o j with
    |none=>trivial
    |some lf=>
     rw [hc] at hu;simp only;cases lf with
     |ur=>simp only [St.res,LZ,hl];trivial
     |_=>exact hu
  |_=>exact hu
theorem HN{f:Nat→List ag→List ag}:∀{l:List (Nat×List ag)} {o:Nat} {tl:List ag},look (l.map fun p=>(p.1,f p.1 p.2)) o=some tl→∃ sl,look l o=some sl∧tl=f o sl
 |[],o,tl,h=>by cases h
 |(q,ls) :: r,o,tl,h=>by
  simp only [List.map_cons,aw] at h;rw [aw];by_cases e:q=o
  ·simp only [e,if_true,Option.some.injEq] at h ⊢
   subst h;exact⟨ls,rfl,rfl⟩
  ·simp only [e,if_false] at h ⊢
   exact HN h
theorem zD{f:Nat→List ag→List ag}:∀{l:List (Nat×List ag)} {o:Nat} {sl:List ag},look l o=some sl→look (l.map fun p=>(p.1,f p.1 p.2)) o=some (f o sl)
 |(q,ls) :: r,o,sl,h=>by
  rw [aw] at h;simp only [List.map_cons,aw];by_cases e:q=o
  ·simp only [e,if_true,Option.some.injEq] at h ⊢;rw [h]
  ·simp only [e,if_false] at h ⊢
   exact zD h
theorem Ol{cl bl:List (Nat×Nat×ag)}{o:Nat}:∀{ls:List ag} {i j:Nat} {lf:ag},dY bl o (i + j)=some lf→ls[j]? = some .ur→(Hn cl bl o i ls)[j]? = some .ur
 |[],i,j,lf,_,h=>by simp at h
 |l :: r,i,0,lf,hl,h=>by simp only [List.getElem?_cons_zero,Option.some.injEq] at h;subst h;rw [Nat.add_zero] at hl;simp [Hn,hl]
 |l :: r,i,j + 1,lf,hl,h=>by simp only [Hn,List.getElem?_cons_succ] at h ⊢;exact Ol (by rw [show i + 1 + j=i + (j + 1) by omega];exact hl) h
theorem GX{L:pW}{c:PV L.cs}{v:PV L.vs}{st:St}(hs:QX st L c)(Nd:L.pin=st.pin):WQ (L.st c v) (aft L c v st):=by
 refine {pn:=Nd.symm,vr:=rfl,ap:=fun nm A _ h=>?_,n:=rfl,arr:=fun nm A h=>?_,ii:=fun i tv h G u hu=>?_,dM:=fun o tl h=>?_,pin:=fun o sl _ h=>⟨_,zD (f:=fun o ls=>Hn (b8 L.cs c) st.cA o 0 ls) h⟩,ur:=fun o j lf sl hl h hj=>⟨_,zD (f:=fun o ls=>Hn (b8 L.cs c) st.cA o 0 ls) h,Ol (by rw [Nat.zero_add];exact hl) hj⟩}
 ·have e1:(aft L c v st).arr nm=(match look (eH L.vs v ++ (eH L.cs c).filter fun p=>(look st.fN p.1).isNone) nm with | some v=>some v | none=>look st.fN nm):=rfl
  have e2:(L.st c v).arr nm=(match look (eH L.vs v) nm with | some v=>some v | none=>look (eH L.cs c) nm):=rfl
  rw [e1,io];rw [e2] at h;cases h1:look (eH L.vs v) nm with
  |some B=>exact⟨B,rfl⟩
  |none=>
   simp only [h1] at h ⊢;rw [zd (fun k=>(look st.fN k).isNone)];cases h2:look st.fN nm with
   |none=>simp only [Option.isNone_none,if_true,h];exact⟨A,rfl⟩
   |some B=>simp only [Option.isNone_some,Bool.false_eq_true,if_false];exact⟨B,rfl⟩
 ·have e1:(aft L c v st).arr nm=(match look (eH L.vs v ++ (eH L.cs c).filter fun p=>(look st.fN p.1).isNone) nm with | some v=>some v | none=>look st.fN nm):=rfl
  have e2:(L.st c v).arr nm=(match look (eH L.vs v) nm with | some v=>some v | none=>look (eH L.cs c) nm):=rfl
  rw [e1,io] at h;rw [e2];cases h1:look (eH L.vs v) nm with
  |some B=>simp only [h1] at h ⊢;exact h
  |none=>
   simp only [h1] at h ⊢;rw [zd (fun k=>(look st.fN k).isNone)] at h;cases h2:look st.fN nm with
   |none=>
    simp only [h2,Option.isNone_none,if_true] at h;cases h3:look (eH L.cs c) nm with
    |none=>simp [h3] at h
    |some B=>simpa [h3] using h
   |some B=>rw [h2] at h;simp only [Option.isNone_some,Bool.false_eq_true,if_false] at h;rw [hs.arr nm B h2];exact h
 ·have e1:(aft L c v st).ii i=(match look (lA L.vs v ++ (Ri L.vs v ++ (lA L.cs c).filter fun p=>(look st.jh p.1).isNone)) i with | some v=>some v | none=>look st.jh i):=rfl
  have e2:(L.st c v).ii i=(match look (lA L.vs v ++ Ri L.vs v) i with | some v=>some v | none=>look (lA L.cs c) i):=rfl
  have:(L.st c v).ii i=some tv:=by
   rw [e1,io] at h;rw [e2,io];cases h1:look (lA L.vs v) i with
   |some B=>simp only [h1] at h ⊢;exact h
   |none=>
    simp only [h1] at h ⊢;rw [io] at h;cases h0:look (Ri L.vs v) i with
    |some B=>simp only [h0] at h ⊢;exact h
    |none=>
    simp only [h0] at h ⊢;rw [zd (fun k=>(look st.jh k).isNone)] at h;cases h2:look st.jh i with
    |none=>
     simp only [h2,Option.isNone_none,if_true] at h;cases h3:look (lA L.cs c) i with
     |none=>simp [h3] at h
     |some B=>simpa [h3] using h
    |some B=>rw [h2] at h;simp only [Option.isNone_some,Bool.false_eq_true,if_false] at h;rw [hs.ii i B h2];exact h
  simpa [St.t6,this] using hu
 ·obtain⟨sl,h1,rfl⟩:=HN (f:=fun o ls=>Hn (b8 L.cs c) st.cA o 0 ls) h
  exact⟨sl,h1,Om hs sl 0⟩
end Go.Fx
namespace Go.Fx
def vK:List ag→Bool
 |[]=>true
 |.eZ _ _ :: r=>vK r
 |_=>false
abbrev Dk(W:Type):Type 1:={R:Type}→W→((e:Exit)→(vs:kN)→PV vs→Option R)→(TypeId→List ag→Option R)→Option R
def Qg(o:Nat):kN→Nat
 |[]=>0
 |(.l o' _,_) :: r=>bif Nat.beq o' o then Qg o r + 1 else Qg o r
 |_ :: r=>Qg o r
def Z1(cf:List (Nat×Nat))(full:kN):kN→List (Nat×Nat)
 |[]=>[]
 |(.l o 0,_) :: r=>bif eV o (cf.map (·.1)) then Z1 cf full r else(o,Qg o full) :: Z1 cf full r
 |_ :: r=>Z1 cf full r
def pW.with(L:pW)(vs:kN):pW:=⟨L.n,L.cf ++ Z1 L.cf vs vs,L.cs,vs,L.pin⟩
def OT(id:Nat):Exit→Exit
 |.exit i=>bif Nat.beq i id then .normal else .exit i
 |e=>e
def wE(id:Nat)(L:pW){W:Type}(l:PV L.cs→PV L.vs→Option W)(dk:Dk W):lh where
 run st K KP:=(match ent L st with
  |none=>none
  |some (c,v,s)=>(bif Lo L.cs s then(l c v).bind fun x=>dk x (fun e vs o=>K (OT id e) (aft (L.with vs) c o st)) (fun T ls=>KP (.zC T ls) (aft (L.with []) c () st)) else none))
theorem IQ{L:pW}{st s:St}{c:PV L.cs}{v:PV L.vs}(h:ent L st=some (c,v,s)):ke st s∧L.n=st.n∧L.pin=st.pin∧∃ a,kX s L.cs=some (c,a):=by
 unfold ent at h;split at h
 ·cases h
 ·rename_i s1 h1
  split at h
  ·cases h
  ·rename_i s2 h2
   split at h
   ·cases h
   ·rename_i c' a hc
    split at h
    ·cases h
    ·rename_i v' b hv
     cases hk:(Nat.beq L.n s2.n && zt (a ++ b) && Dy L.cf s2 && qOk L.vs s2 && (VR L.pin s2.pin && Fd L.pin (a ++ b))) with
     |false=>simp [hk] at h
     |true=>simp only [hk,cond_true,Option.some.injEq,Prod.mk.injEq] at h;obtain⟨rfl,rfl,rfl⟩:=h;simp only [Bool.and_eq_true] at hk;have hb:=(nT h1).trans (nT h2);exact⟨hb,(Nat.eq_of_beq_eq_true hk.1.1.1.1).trans hb.1,(PP hk.2.1).trans (Prod.mk.inj hb.2.2.2).2,a,hc⟩
theorem Rh{L:pW}{c:PV L.cs}{v:PV L.vs}{st:St}(hn:L.n=st.n):ke st (aft L c v st):=⟨hn,rfl,rfl,rfl⟩
theorem OK(id:Nat)(L:pW){W:Type}(l:PV L.cs→PV L.vs→Option W)(dk:Dk W):zW (wE id L l dk):=by
 intro R st K K' KP KP' hK hP;simp only [wE];split
 ·rfl
 ·rename_i c v s hs
  obtain⟨_,hn,_,_⟩:=IQ hs;have e1:(fun(e:Exit) (vs:kN) (o:PV vs)=>K (OT id e) (aft (L.with vs) c o st))=(fun e vs o=>K' (OT id e) (aft (L.with vs) c o st)):=funext fun e=>funext fun vs=>funext fun o=>hK _ _ (Rh (L:=L.with _) hn)
  have e2:(fun(T:TypeId) (ls:List ag)=>KP (.zC T ls) (aft (L.with []) c () st))=(fun T ls=>KP' (.zC T ls) (aft (L.with []) c () st)):=funext fun T=>funext fun ls=>hP _ _ (Rh (L:=L.with _) hn)
  rw [e1,e2];rfl
theorem Gz{G G':Gh}(h:G.Lk G'):∀{ls:List ag} {vs:List Value},All2 (aY G) ls vs→All2 (aY G') ls vs:=fun {ls vs} hr=>hr.imp fun l v h'=>h'.sub h
theorem Vg{G:Gh}{al:AL}:∀{ls:List ag} {vs:List Value},vK ls=true→All2 (aY G) ls vs→All2 (aY (G.t7 al)) ls vs
 |[],[],_,_=>trivial
 |.eZ t d :: r,_ :: _,h,hr=>⟨hr.1,Vg (ls:=r) h hr.2⟩
 |[],_ :: _,_,hr=>hr.elim
 |_ :: _,[],_,hr=>hr.elim
theorem Vi{L:pW}{c:PV L.cs}{s:St}{v:PV L.vs}(hb:s8 L c s)(h:rnd L (fV L.cs c) s=some v){X:mt}{G:Gh}{w:World}(hm:aB X s G w):
  ∃ G',aB X (L.st c v) G' w∧∀ T ls u,vK ls=true→aU G (.zC T ls) u→aU G' (.zC T ls) u:=by
 unfold rnd at h;split at h
 ·cases h
 ·rename_i s1 h1
  split at h
  ·cases h
  ·rename_i v' b hv
   cases hk:(uQ s1 L.cs && zt (fV L.cs c ++ b) && Dy L.cf s1 && qOk L.vs s1 && Fd L.pin (fV L.cs c ++ b)) with
   |false=>simp [hk] at h
   |true=>
    simp only [hk,cond_true,Option.some.injEq] at h;subst h;simp only [Bool.and_eq_true,uQ] at hk;obtain⟨⟨⟨⟨⟨k0,k1⟩,k2⟩,k3⟩,k4⟩,k6⟩:=hk;have CF:=hb.ix (nT h1);obtain⟨G1,m1,a1,q1⟩:=nI h1 hm;have hn:((fV L.cs c ++ b).map (·.1)).Nodup:=by have:=k2;simp only [zt,Bool.and_eq_true] at this;exact eD this.1
    have hf:=Ah (v:=c) (eD k0);have N:=Ql (L:=L) (HK (full:=⟨L.cs,c⟩) CF.2.1 CF.2.2.1 hn hf k1 (fun e he=>List.mem_append_left _ he)) (uE hn hv (fun e he=>List.mem_append_right _ he))
     (fun nm jM A gX=>by
      rcases List.mem_append.1 gX with gX | gX
      ·exact Ar (full:=⟨L.cs,c⟩) (Prod.mk.inj CF.2.2.2).1 hf k1 nm jM A gX
      ·exact pg hv nm jM A gX) k2 k3 CF.1 (fun o j lf hl=>⟨lf,by rw [←CF.2.2.1];exact hl⟩) k4 (Prod.mk.inj CF.2.2.2).2.symm k6
     (fun nm jM A gX=>QJ ((List.mem_append.1 gX).imp (Bp nm jM A) (wV hv nm jM A)))
    exact⟨_,N.ok m1,fun T ls u hd hu=>by
     obtain⟨x,cs,e1,e2,e3⟩:=hu;exact⟨x,cs,e1,e2,Vg hd (Gz a1 e3)⟩⟩
noncomputable def gd(L:pW)(c:PV L.cs)(s:St){W:Type}(x:Option W):Option W:=@ite _ (s8 L c s) (Classical.propDecidable _) x none
theorem IX{L:pW}{c:PV L.cs}{s:St}{W:Type}{x:Option W}(h:s8 L c s):gd L c s x=x:=by unfold gd;rw [if_pos h]
theorem D0{L:pW}{c:PV L.cs}{s:St}{W:Type}{x:Option W}{y:W}(h:gd L c s x=some y):s8 L c s∧x=some y:=by
 unfold gd at h;split at h
 ·rename_i hb;exact⟨hb,h⟩
 ·cases h
section
variable {P:Program} {E:sd} (hE:EX P E)
include hE
theorem ZW{id:Nat}{body:Code}{L:pW}{W:Type}{l:Nat→PV L.cs→PV L.vs→Option W}{dk:Dk W}{out:PV L.cs→Exit→St→Option W}{pout:PV L.cs→ae→St→Option W}(hb:rV P E body)
  (h0:∀ c v,l 0 c v=none)
  (h1:∀ k c v,l (k + 1) c v=so E body (L.st c v) (fun e s=>match e with | .normal=>(rnd L (fV L.cs c) s).bind (l k c) | e=>out c e s) (pout c))
  (h2:∀ c e s x,out c e s=some x→∃ vs o,rnd (L.with vs) (fV L.cs c) s=some o∧∀(R:Type) f g,dk (R:=R) x f g=f e vs o)
  (h3:∀ c av s x,pout c av s=some x→∃ T ls,av = .zC T ls∧vK ls=true∧rnd (L.with []) (fV L.cs c) s=some ()∧∀(R:Type) f g,dk (R:=R) x f g=g T ls) (k:Nat):
  Pq P E.gt id (.loop body) (wE id L (l k) dk):=by
 intro R r X st G w act K KP Q h yH hm hr hK hP;simp only [wE] at h;split at h
 ·cases h
 ·rename_i c v s hs
  obtain⟨hbs,hn,Nd,a,zL⟩:=IQ hs;cases hbi:Lo L.cs s with
  |false=>simp [hbi] at h
  |true=>
   simp only [hbi,cond_true] at h;obtain⟨x,hx,h⟩:=Option.bind_eq_some_iff.1 h;have bs0:=Uw zL hbi;have bs:QX st L c:=bs0.ix hbs;obtain⟨G1,m1,r1⟩:=Xe hs (fun o j lf hl=>⟨lf,bs0.bM o j lf hl⟩) hm hr;let Q':Exit→Act→World→Prop:=fun e a w=>match e with
    |.panic ch=>Q (.panic ch) a w
    |e=>Q (OT id e) a w
   have hQ:∀ e a w,Q' e a w→Exit.inBlock id Q e a w:=fun e a w hq=>by
    cases e with
    |exit i=>
     simp only [Exit.inBlock];by_cases e:i=id
     ·subst e;simp only [Q',OT,Nat.beq_refl,cond_true] at hq;simpa using hq
     ·simp only [Q',OT,uC e,cond_false] at hq;simpa [e] using hq
    |_=>exact hq
   have xF:∀ e s G w act,e≠.normal→s8 L c s→aB X s G w→bL G s act→out c e s=some x→Q' e act w:=fun e s G w act gY hb m r' ho=>by
    obtain⟨vs,o,g1,g2⟩:=h2 c e s x ho;rw [g2] at h;obtain⟨G',m',r''⟩:=T4 (L:=L.with vs) (c:=c) (v:=o) hb g1 m r'
    have wk:=GX (L:=L.with vs) (c:=c) (v:=o) (st:=st) ⟨bs.ii,bs.bM,bs.arr⟩ Nd
    have:=hK _ _ _ _ _ (wk.ok m' (fun o j u hu=>(hm.bv o j u hu).1)) (wk.ez r'') h;cases e with
    |panic ch=>exact this
    |_=>exact this
   have ab1:∀ av u s G w act,s8 L c s→aB X s G w→act.defers=G.ds→aU G av u→pout c av s=some x→Q' (.panic [{v:=u,recovered:=false}]) act w:=fun av u s G w act hb m r' hv ho=>by
    obtain⟨T,ls,rfl,hd,g1,g2⟩:=h3 c av s x ho;rw [g2] at h;obtain⟨G',m',hp⟩:=Vi (L:=L.with []) (c:=c) (v:=()) hb g1 m
    have wk:=GX (L:=L.with []) (c:=c) (v:=()) (st:=st) ⟨bs.ii,bs.bM,bs.arr⟩ Nd
    exact hP _ _ _ _ _ _ (wk.ok m' (fun o j u hu=>(hm.bv o j u hu).1)) (r'.trans (m.ds.trans m'.ds.symm)) (hp T ls u hd hv) h
   refine wp_block (wp_mono (Q:=Q') ?_ hQ);intro b kk cs;have key:∀ k v G act w,aB X (L.st c v) G w→bL G (L.st c v) act→l k c v=some x→
     ∃ e a' w',Q' e a' w'∧Arrives P (lone (b.at act (.code body :: .inLoop body :: kk)) cs w) b kk cs e a' w':=by
    intro k;induction k with
    |zero=>intro v G act w _ _ hl;rw [h0] at hl;cases hl
    |succ k ih=>
     intro v G act w m r' hl;rw [h1] at hl;have hl:=(O5 hE.PH hE.aa9 body (K':=fun e s=>gd L c s (match e with | .normal=>(rnd L (fV L.cs c) s).bind (l k c) | e=>out c e s))
      (KP':=fun av s=>gd L c s (pout c av s)) (fun e s hs=>(IX ⟨hs.1.symm,hs.2.1,hs.2.2.1,hs.2.2.2⟩).symm) (fun av s hs=>(IX ⟨hs.1.symm,hs.2.1,hs.2.2.1,hs.2.2.2⟩).symm)).symm.trans hl
     have hwp:=zg hE yH body hb (Q:=Exit.then (fun a w=>∃ e a' w',Q' e a' w'∧Arrives P (lone (b.at a (.code body :: .inLoop body :: kk)) cs w) b kk cs e a' w') Q') hl m r'
      (fun e s G w act m r' hk=>by
       obtain⟨PY,hk⟩:=D0 hk;cases e with
       |normal=>obtain⟨v',g1,g2⟩:=Option.bind_eq_some_iff.1 hk;obtain⟨G',m',r''⟩:=T4 PY g1 m r';exact ih v' G' act w m' r'' g2
       |_=>exact xF _ _ _ _ _ (by simp) PY m r' hk)
      (fun av u s G w act m r' hv hk=>by
       obtain⟨PY,hk⟩:=D0 hk;exact ab1 _ _ _ _ _ _ PY m r' hv hk)
     obtain⟨e,a₁,w₁,hq,oX⟩:=hwp b (.inLoop body :: kk) cs;cases e with
     |normal=>obtain⟨e₂,a₂,w₂,hq₂,adj⟩:=hq;exact⟨e₂,a₂,w₂,hq₂,.of_steps (Steps.trans oX (.one step_inLoop)) adj⟩
     |exit id=>exact⟨_,a₁,w₁,hq,.pass (x:=.inLoop body) rfl (fun _ _=>.inl (by simp)) oX⟩
     |goto l=>exact⟨_,a₁,w₁,hq,.pass (x:=.inLoop body) rfl (fun _ _=>.inl (by simp)) oX⟩
     |ret=>exact⟨_,a₁,w₁,hq,.pass (x:=.inLoop body) rfl (fun _ _=>.inl (by simp)) oX⟩
     |panic ch=>exact⟨_,a₁,w₁,hq,.pass (x:=.inLoop body) rfl (fun _ _=>.inl (by simp)) oX⟩
     |outgrown=>exact⟨_,a₁,w₁,hq,.pass (x:=.inLoop body) rfl (fun _ _=>.inl (by simp)) oX⟩
   obtain⟨e,a',w',hq,oX⟩:=key k v G1 act w m1 r1 hx;exact⟨e,a',w',hq,.of_steps (.one step_loop) oX⟩
theorem acv{id:Nat}{ops:Array Oper}{L:pW}{W:Type}{F:PV L.cs→PV L.vs→Option W}{dk:Dk W}{out:PV L.cs→St→Option W}{pout:PV L.cs→ae→St→Option W}{ls:List (List Nat)}
  (hd:C5 ops.toList (iL ops.toList [])=true) (hc:iP ops.toList (iL ops.toList []) ops.toList.length []=ls)
  (h1:∀ l∈ls,IN ops.toList l=true∧∀ c v,F c v=Gt E ops.toList (iL ops.toList []) l [] (L.st c v) (out c) (pout c))
  (h2:∀ c s x,out c s=some x→∃ vs o,rnd (L.with vs) (fV L.cs c) s=some o∧∀(R:Type) f g,dk (R:=R) x f g=f .normal vs o)
  (h3:∀ c av s x,pout c av s=some x→∃ T ls,av = .zC T ls∧vK ls=true∧rnd (L.with []) (fV L.cs c) s=some ()∧∀(R:Type) f g,dk (R:=R) x f g=g T ls):
  uo P E.gt (.region id ops true) (wE (id + 1000000) L F dk):=by
 intro R r X st G w act K KP Q h yH hm hr hK hP;simp only [wE] at h;split at h
 ·cases h
 ·rename_i c v s hs
  obtain⟨hbs,hn,Nd,a,zL⟩:=IQ hs;cases hbi:Lo L.cs s with
  |false=>simp [hbi] at h
  |true=>
   simp only [hbi,cond_true] at h;obtain⟨x,hx,h⟩:=Option.bind_eq_some_iff.1 h;have bs0:=Uw zL hbi;have bs:QX st L c:=bs0.ix hbs;obtain⟨G1,m1,r1⟩:=Xe hs (fun o j lf hl=>⟨lf,bs0.bM o j lf hl⟩) hm hr;refine Vk hE.iw hE.AO hE.PH hE.det yH (K:=fun s=>gd L c s (out c s)) (KP:=fun av s=>gd L c s (pout c av s)) (r:=x) (Kok:=fun s=>gd L c s (out c s)=some x) (KPok:=fun av s=>gd L c s (pout c av s)=some x)
    (fun s G w act m r' ho=>?_) (fun av u s G w act m r' hv ho=>?_) hE.mix hd (fun l hl=>?_) (fun _ h=>h) (fun _ _ h=>h) m1 r1
   ·obtain⟨hb,ho⟩:=D0 ho
    obtain⟨vs,o,g1,g2⟩:=h2 c s x ho;rw [g2] at h;obtain⟨G',m',r''⟩:=T4 (L:=L.with vs) (c:=c) (v:=o) hb g1 m r'
    have wk:=GX (L:=L.with vs) (c:=c) (v:=o) (st:=st) ⟨bs.ii,bs.bM,bs.arr⟩ Nd
    exact hK _ _ _ _ _ (wk.ok m' (fun o j u hu=>(hm.bv o j u hu).1)) (wk.ez r'') h
   ·obtain⟨hb,ho⟩:=D0 ho
    obtain⟨T,wF,rfl,KT,g1,g2⟩:=h3 c av s x ho;rw [g2] at h;obtain⟨G',m',hp⟩:=Vi (L:=L.with []) (c:=c) (v:=()) hb g1 m
    have wk:=GX (L:=L.with []) (c:=c) (v:=()) (st:=st) ⟨bs.ii,bs.bM,bs.arr⟩ Nd
    exact hP _ _ _ _ _ _ (wk.ok m' (fun o j u hu=>(hm.bv o j u hu).1)) (r'.trans (m.ds.trans m'.ds.symm)) (hp T wF u KT hv) h
   ·rw [hc] at hl
    obtain⟨q1,q2⟩:=h1 l hl;refine⟨q1,?_⟩;rw [q2 c v] at hx;exact(Ef hE.PH (fun s hs=>(IX ⟨hs.1.symm,hs.2.1,hs.2.2.1,hs.2.2.2⟩).symm) (fun av s hs=>(IX ⟨hs.1.symm,hs.2.1,hs.2.2.1,hs.2.2.2⟩).symm)).symm.trans hx
end
end Go.Fx
namespace Go.Fx
@[reducible] def DL:List Ty→Type
 |[]=>Unit
 |t :: r=>t.ng×DL r
def uT:List ae→St→Option St
 |[],st=>some st
 |v :: r,st=>(match v.qp st with | some st'=>uT r st' | none=>none)
def Ot(st:St):(ts:List Ty)→List ae→Option (DL ts)
 |[],[]=>some ()
 |t :: ts,v :: vs=>(match v.wa st t with | some x=>(match Ot st ts vs with | some r=>some (x,r) | none=>none) | none=>none)
 |_,_=>none
def RF:(ts:List Ty)→Nat→DL ts→List (Nat×ae)
 |[],_,_=>[]
 |t :: r,i,d=>(i,.one (.eZ t d.1)) :: RF r (i + 1) d.2
def stD(n:Nat)(ts:List Ty)(d:DL ts):St:=⟨n,RF ts 0 d,[],[],[],[],[],[],[]⟩
def KG(E:sd)(st:St):List ResultVar→Option (List ae)
 |[]=>some []
 |.tmp t :: r=>(match KG E st r with | some l=>some (st.t6 t :: l) | none=>none)
 |.cell t T :: r=>(match st.t6 t with
  |.one (.mW o off)=>(match ym E T (.one (.mW o off)) st (fun v _=>some v),KG E st r with | some v,some l=>some (v :: l) | _,_=>none)
  |_=>none)
def NY(E:sd)(rv:List ResultVar)(rs:List Ty)(st:St):Option (DL rs):=
 match KG E st rv with
 |some vs=>(match uT vs st with | some st'=>Ot st' rs vs | none=>none)
 |none=>none
def aaz:(rs:List Ty)→DL rs→List (Bool×List ag)
 |[],_=>[]
 |t :: r,d=>(t.agg,jO t d.1) :: aaz r d.2
def Sv(rs:List Ty)(d:DL rs):ae:=
 match rs,d with
 |[t],d=>.one (.eZ t d.1)
 |rs,d=>.JT (aaz rs d)
def AP(ts rs:List Ty){W:Type}(F:DL ts→Option W)(dec:W→DL rs):iX where
 run _ args st K _:=(match uT args st with
  |some st'=>(match Ot st' ts args with
   |some d=>(F d).bind fun r=>K (Sv rs (dec r)) (bif rs.all Ty.yk then st else st')
   |none=>none)
  |none=>none)
 Kh args _:=bif rs.all Ty.yk then [] else mZ args
theorem JQ:∀{vs:List ae} {st st':St},uT vs st=some st'→qC (mZ vs) st st'
 |[],st,st',h=>by cases h;exact .refl _ _
 |v :: r,st,st',h=>by
  simp only [uT] at h;split at h
  ·rename_i s1 h1;exact((uI h1).mono fun q hq=>List.mem_append_left _ hq).trans ((JQ h).mono fun q hq=>List.mem_append_right _ hq)
  ·cases h
theorem QI:∀{vs:List ae} {st st':St},uT vs st=some st'→ke st st'
 |[],st,st',h=>by cases h;exact .refl _
 |v :: r,st,st',h=>by
  simp only [uT] at h;split at h
  ·rename_i s1 h1;exact(JR h1).trans (QI h)
  ·cases h
theorem wW(ts rs:List Ty){W:Type}(F:DL ts→Option W)(dec:W→DL rs):mR (AP ts rs F dec):=by
 intro R dst args st K K' KP KP' hK hP;simp only [AP] at hK ⊢;split
 ·rename_i st' hs
  split
  ·refine dT fun r=>hK _ _ ?_
   cases rs.all Ty.yk with
   |true=>exact .refl _ _
   |false=>exact JQ hs
  ·rfl
 ·rfl
theorem AQ(ts rs:List Ty){W:Type}(F:DL ts→Option W)(dec:W→DL rs):oT (AP ts rs F dec):=by
 intro R dst args st K KP;simp only [AP]
 repeat' (first | rfl | apply fJ | intro _ | split)
theorem yw{X:mt}{w:World}:∀{vs:List ae} {st st':St} {G:Gh},uT vs st=some st'→aB X st G w→∃ G',aB X st' G' w∧G.Lk G'∧qU st st'
 |[],st,st',G,h,hm=>by cases h;exact⟨G,hm,.refl G,.refl _⟩
 |v :: r,st,st',G,h,hm=>by
  simp only [uT] at h;split at h
  ·rename_i s1 h1
   obtain⟨G1,m1,a1,k1⟩:=Ei h1 hm;obtain⟨G2,m2,a2,k2⟩:=yw h m1;exact⟨G2,m2,a1.trans a2,k1.trans k2⟩
  ·cases h
def zn(G:Gh):(ts:List Ty)→DL ts→List Value→Prop
 |[],_,[]=>True
 |t :: r,d,v :: vs=>aY G (.eZ t d.1) v∧zn G r d.2 vs
 |_,_,_=>False
theorem Dc{X:mt}{st:St}{G:Gh}{w:World}(hm:aB X st G w):∀{ts:List Ty} {avs:List ae} {d:DL ts} {vs:List Value},Ot st ts avs=some d→All2 (aU G) avs vs→zn G ts d vs
 |[],[],d,[],_,_=>trivial
 |t :: ts,a :: avs,d,v :: vs,h,hr=>by
  simp only [Ot] at h;split at h
  ·rename_i x hx
   split at h
   ·rename_i r P7
    simp only [Option.some.injEq] at h;subst h;exact⟨CX hm hx hr.1,Dc hm P7 hr.2⟩
   ·cases h
  ·cases h
 |[],[],d,_ :: _,_,hr=>hr.elim
 |[],_ :: _,d,_,h,_=>by cases h
 |_ :: _,[],d,_,h,_=>by cases h
 |_ :: _,_ :: _,d,[],_,hr=>hr.elim
theorem zn.ez{G:Gh}{n:Nat}:∀{ts:List Ty} {d:DL ts} {vs:List Value} (pre:List Value),zn G ts d vs→∀ i v,look (RF ts pre.length d) i=some v→aU G v ((pre ++ vs).getD i undef)
 |[],d,[],pre,_,i,v,h=>by cases h
 |t :: r,d,u :: vs,pre,hd,i,v,h=>by
  simp only [RF,aw] at h;by_cases e:pre.length=i
  ·simp only [e,if_true,Option.some.injEq] at h
   subst h;subst e;have:(pre ++ u :: vs).getD pre.length undef=u:=by simp [List.getD_eq_getElem?_getD]
   rw [this];exact hd.1
  ·simp only [e,if_false] at h
   have:=zn.ez (n:=n) (pre ++ [u]) hd.2 i v (by simpa using h)
   simpa using this
 |[],d,_ :: _,_,h,_,_,_=>h.elim
 |_ :: _,d,[],_,h,_,_,_=>h.elim
theorem zn.length{G:Gh}:∀{ts:List Ty} {d:DL ts} {vs:List Value},zn G ts d vs→vs.length=ts.length
 |[],d,[],_=>rfl
 |t :: r,d,u :: vs,hd=>by simp [zn.length hd.2]
 |[],d,_ :: _,h=>h.elim
 |_ :: _,d,[],h=>h.elim
def Rz(S:CS)(w:World):mt:=⟨S,fun _=>False,w,fun _=>none,(fun _ _ h=>(by cases h)),fun _ _=>none,(fun _ _ _ h=>(by cases h)),fun _=>none,[]⟩
def ghD(S:CS):Gh:=⟨S,fun _=>0,fun _=>[],fun _=>[],fun _=>.slice none 0 0,fun _=>[],fun _=>0,fun _ _=>[],[]⟩
theorem T9{S:CS}{w:World}(hS:∀ b o,S b=some o→w.heap[b]? = some o)(n:Nat)(ts:List Ty)(d:DL ts):aB (Rz S w) (stD n ts d) (ghD S) w:=by
 have no:∀ x b,¬ eW (ghD S) (stD n ts d) x b:=fun x b hx=>by
  obtain⟨k,m⟩:=x;cases k with
  |false=>obtain⟨⟨ls,h⟩,_⟩:=hx;cases h
  |true=>obtain⟨⟨A,h,_⟩,_⟩:=hx;cases h
 refine {sl:=fun _=>.inl ⟨_,_,_,rfl⟩,sh:=hS,ob:=fun o ls h=>(by cases h),ar:=fun a A h=>(by cases h),ah:=fun a A h=>(by cases h),nd:=fun a A h=>(by cases h),pX:=fun x y b h=>(no x b h).elim,dS:=fun x b h=>(no x b h).elim,s6:=fun x b h=>(no x b h).elim,s0:=fun b o h=>h,sn:=fun b o h=>.inl h,fr:=fun b _ _=>rfl,sz:=Nat.le_refl _,os:=rfl,tp:=rfl,out:=rfl,pin:=fun o p h=>(by cases h),bv:=fun o j u h=>(by cases h),ap:=fun a u h=>(by cases h),hv:=fun _=>rfl,ds:=rfl,hh:=fun a A h=>(by cases h)}
theorem aB.ac5{X:mt}{st:St}{G:Gh}{w w':World}(hm:aB X st G w){t:St}{G3:Gh}(h3:aB (Rz G.S w) t G3 w'):aB X st {G with S:=G3.S} w'∧G.Lk {G with S:=G3.S}:=by
 have hS:∀ b o,G.S b=some o→G3.S b=some o:=h3.s0;have qb:G.Lk {G with S:=G3.S}:=⟨hS,rfl,rfl,rfl,rfl,rfl,rfl,rfl,rfl⟩
 have sV:∀ b,b < w.heap.size→w'.heap[b]? = w.heap[b]?:=fun b hb=>h3.fr b hb (fun h=>h);have pe:∀ x b,eW {G with S:=G3.S} st x b→eW G st x b:=fun x b hx=>by obtain⟨k,m⟩:=x;cases k<;>exact hx
 refine⟨{sl:=hm.sl,sh:=h3.sh,ob:=fun o ls h=>?_,ar:=fun a A h=>?_,ah:=fun a A h hs p hp=>?_,nd:=hm.nd,pX:=fun x y b hx hy=>hm.pX x y b (pe x b hx) (pe y b hy),dS:=fun x b hx=>?_,s6:=fun x b hx=>hm.s6 x b (pe x b hx),s0:=fun b o h=>hS b o (hm.s0 b o h),sn:=fun b o h=>?_,fr:=fun b h1 h2=>?_,sz:=Nat.le_trans hm.sz h3.sz,os:=h3.os.trans hm.os,tp:=h3.tp.trans hm.tp,out:=h3.out.trans hm.out,pin:=hm.pin,bv:=fun o j u h=>(by obtain⟨h1,⟨l,h2,h5⟩,xt,qQ,h4,h6⟩:=hm.bv o j u h;exact⟨h1,⟨l,h2,h5⟩,xt,qQ,by rw [sV _ (eW.lt hm (x:=(false,o)) ⟨⟨l,h2⟩,rfl⟩)];exact h4,h6⟩),ap:=hm.ap,hv:=hm.hv,ds:=hm.ds,hh:=hm.hh},qb⟩
 ·obtain⟨arr,elem,mid,g1,g2,g3⟩:=hm.ob o ls h
  exact⟨arr,elem,mid,by rw [sV _ (eW.lt hm (x:=(false,o)) ⟨⟨ls,h⟩,rfl⟩)];exact g1,g2,Gz qb g3⟩
 ·exact(hm.ar a A h).mono (G:=G) (a:=a) (G':={G with S:=G3.S}) (a':=a) hS rfl rfl (fun _ _ _=>⟨rfl,rfl,rfl⟩)
 ·rw [sV p.1 (eW.lt hm (x:=(true,a)) ⟨⟨A,h,hs⟩,p,hp,rfl⟩)];exact hm.ah a A h hs p hp
 ·have D3:=pe x b hx
  have bo:=eW.lt hm D3;cases hc:G3.S b with
  |none=>rfl
  |some o=>
   rcases h3.sn b o hc with h | h | h
   ·have:=hm.dS x b D3;rw [show G.S b=some o from h] at this;cases this
   ·exact h.elim
   ·have h:w.heap.size≤b:=h;omega
 ·rcases h3.sn b o h with h | h | h
  ·exact hm.sn b o h
  ·exact h.elim
  ·have:=hm.sz;have h:w.heap.size≤b:=h;exact .inr (.inr (by omega))
 ·rw [sV b (by have:=hm.sz;omega)];exact hm.fr b h1 h2
def Gs:List Value→Value
 |[v]=>v
 |vs=>.tuple vs.toArray
theorem Xb{G G':Gh}(hS:G'.S=G.S):∀{ts:List Ty} {d:DL ts} {vs:List Value},zn G ts d vs→zn G' ts d vs
 |[],d,[],_=>trivial
 |t :: r,d,v :: vs,h=>by obtain⟨cs,e1,e2⟩:=h.1;exact⟨⟨cs,e1,by rw [hS];exact e2⟩,Xb hS h.2⟩
 |[],d,_ :: _,h=>h.elim
 |_ :: _,d,[],h=>h.elim
theorem Of{G G':Gh}:∀{ts:List Ty} {d:DL ts} {vs:List Value},ts.all Ty.yk=true→zn G ts d vs→zn G' ts d vs
 |[],d,[],_,_=>trivial
 |t :: r,d,v :: vs,hn,h=>by simp only [List.all_cons,Bool.and_eq_true] at hn;obtain⟨cs,e1,e2⟩:=h.1;exact⟨⟨cs,e1,vD hn.1 e2⟩,Of hn.2 h.2⟩
 |[],d,_ :: _,_,h=>h.elim
 |_ :: _,d,[],_,h=>h.elim
theorem Bq{P:Program}{E:sd}(hE:iD P E.iw){X:mt}{st:St}{G:Gh}{w:World}{act:Act}(hm:aB X st G w)(hr:bL G st act):∀{rv:List ResultVar} {avs:List ae},KG E st rv=some avs→
  ∃ yJ:List Value,(rv.mapM fun(x:ResultVar)=>(match x with
   |.tmp t=>pure (act.tmps.getD t undef)
   |.cell a t=>do loadVar t (←asAddr (act.tmps.getD a undef)):Sem Value)).run P w = .ok yJ w∧All2 (aU G) avs yJ
 |[],avs,h=>by cases h;exact⟨[],rfl,trivial⟩
 |.tmp t :: r,avs,h=>by
  simp only [KG] at h;split at h
  ·rename_i l hl
   cases h;obtain⟨yJ,h1,h2⟩:=Bq hE hm hr hl;refine⟨act.tmps.getD t undef :: yJ,?_,?_,h2⟩
   ·rw [List.mapM_cons,Sem.run_bind]
    simp only [Sem.run_pure,Result.andThen_ok];rw [Sem.run_bind,h1];rfl
   ·unfold St.t6
    cases hs:st.ii t with
    |none=>trivial
    |some sv=>exact hr.2.2 t sv hs
  ·cases h
 |.cell t T :: r,avs,h=>by
  simp only [KG] at h;split at h
  ·rename_i o off wB
   split at h
   ·rename_i v l hv hl
    simp only [Option.some.injEq] at h;subst h;obtain⟨yJ,h1,h2⟩:=Bq hE hm hr hl;have hp:aU G (.one (.mW o off)) (act.tmps.getD t undef):=by
     rw [←wB];unfold St.t6;cases hs:st.ii t with
     |none=>rw [St.t6,hs] at wB;cases wB
     |some sv=>exact hr.2.2 t sv hs
    obtain⟨av,u,h3,h4,h5⟩:=Jj hE hv hm hp;cases h5;have hq:∃ a,act.tmps.getD t undef = .pointer (some a):=⟨_,hp⟩;obtain⟨a,ha⟩:=hq;rw [ha] at h3;refine⟨u :: yJ,?_,h4,h2⟩;have h3':(do loadVar T (←asAddr (act.tmps.getD t undef)):Sem Value).run P w = .ok u w:=by rw [ha];have:=h3;simpa [Instr.loadAt,Instr.sureAddr,asAddr] using this
    rw [List.mapM_cons,Sem.run_bind];dsimp only;rw [h3'];simp only [Result.andThen_ok];rw [Sem.run_bind,h1];rfl
   ·cases h
  ·cases h
theorem JN{P:Program}{E:sd}(hE:iD P E.iw){X:mt}{st:St}{G:Gh}{w:World}{act:Act}{fn:Func}{avs:List ae}(hm:aB X st G w)(hr:bL G st act)(h:KG E st fn.results.toList=some avs):
  ∃ yJ:List Value,(results fn act.tmps).run P w = .ok (Gs yJ) w∧All2 (aU G) avs yJ:=by
 obtain⟨yJ,h1,h2⟩:=Bq hE hm hr h;refine⟨yJ,?_,h2⟩;obtain⟨g,g1,g2⟩:∃ g:ResultVar→Sem Value,results fn act.tmps=(do let vs ←fn.results.mapM g;pure (if h:vs.size=1 then vs[0] else .tuple vs))∧g=fun(x:ResultVar)=>(match x with
   |.tmp t=>pure (act.tmps.getD t undef)
   |.cell a t=>do loadVar t (←asAddr (act.tmps.getD a undef)):Sem Value):=⟨_,rfl,by funext x;cases x<;>rfl⟩
 rw [g1,Array.mapM_eq_mapM_toList,g2,Sem.run_bind,Sem.run_map,h1];simp only [Result.andThen_ok,Sem.run_pure]
 congr 1
 match yJ with
 |[]=>rfl
 |[v]=>rfl
 |v :: u :: r=>simp [Gs]
theorem Vx{G:Gh}:∀{rs:List Ty} {d:DL rs} {vs:List Value},zn G rs d vs→All2 (fun(p:Bool×List ag) u=>if p.1=true then ∃ cs:List Value,u = .agg cs.toArray∧All2 (aY G) p.2 cs else ∃ l,p.2 = [l]∧aY G l u) (aaz rs d) vs
 |[],d,[],_=>trivial
 |t :: r,d,v :: vs,h=>by
  refine⟨?_,Vx h.2⟩;obtain⟨cs,e1,e2⟩:=h.1;cases ha:t.agg with
  |true=>simp only [ha,if_true] at e1 ⊢;exact⟨cs,e1,lw e2⟩
  |false=>simp only [ha,Bool.false_eq_true,if_false] at e1 ⊢;cases t<;>simp [Ty.agg] at ha<;>exact⟨_,rfl,_,by simp [Ty.agg,e1],e2⟩
 |[],d,_ :: _,h=>h.elim
 |_ :: _,d,[],h=>h.elim
theorem K6{G:Gh}{rs:List Ty}{x:DL rs}{vs:List Value}(h:zn G rs x vs):aU G (Sv rs x) (Gs vs):=by
 cases rs with
 |nil=>
  cases vs with
  |nil=>exact⟨[],rfl,trivial⟩
  |cons _ _=>exact h.elim
 |cons t rs=>
  cases vs with
  |nil=>exact h.elim
  |cons v vs=>
   cases rs with
   |nil=>
    cases vs with
    |nil=>exact h.1
    |cons _ _=>exact h.2.elim
   |cons t2 rs=>
    cases vs with
    |nil=>exact h.2.elim
    |cons v2 vs=>exact⟨v :: v2 :: vs,rfl,Vx h⟩
section
variable {P:Program} {E:sd} (hE:EX P E)
include hE
omit hE in
theorem aB.abN{X:mt}{st:St}{G:Gh}{w w':World}(hm:aB X st G w)(sV:∀ b,b < w.heap.size→w'.heap[b]? = w.heap[b]?)(mA:w.heap.size≤w'.heap.size)(hos:w'.os=w.os)(htp:w'.tape=w.tape)(xF:w'.output=w.output):aB X st G w':=by
 have old:∀{b:Nat} {o:Obj},w.heap[b]? = some o→w'.heap[b]? = some o:=fun {b o} h=>by rw [sV b (fW h)];exact h
 exact {
  sl:=hm.sl,sh:=fun b o h=>old (hm.sh b o h),ob:=fun o ls h=>(by obtain⟨arr,elem,mid,g1,g2,g3⟩:=hm.ob o ls h;exact⟨arr,elem,mid,old g1,g2,g3⟩),ar:=hm.ar,ah:=fun a A h hs p hp=>old (hm.ah a A h hs p hp),nd:=hm.nd,pX:=hm.pX,dS:=hm.dS,s6:=hm.s6,s0:=hm.s0,sn:=hm.sn,fr:=fun b h1 h2=>(by rw [sV b (by have:=hm.sz;omega)];exact hm.fr b h1 h2),sz:=Nat.le_trans hm.sz mA,os:=hos.trans hm.os,tp:=htp.trans hm.tp,out:=xF.trans hm.out,pin:=hm.pin
  bv:=fun o j u h=>(by obtain⟨h1,h2,xt,qQ,h4,h5⟩:=hm.bv o j u h;exact⟨h1,h2,xt,qQ,old h4,h5⟩),ap:=hm.ap,hv:=hm.hv,ds:=hm.ds,hh:=hm.hh}
omit hE in
theorem LM{G1:Gh}{ts:List Ty}{d:DL ts}{vs:List Value}{n:Nat}(hdr:zn G1 ts d vs)(hn:ts.length≤n):bL (ghD G1.S) (stD n ts d) {tmps:=vs.toArray ++ Array.replicate (n - vs.toArray.size) undef,defers:=[]}:=by
 have hl:=hdr.length;refine⟨rfl,by simp [stD];omega,fun i v hv=>?_⟩
 have aeP:zn (ghD G1.S) ts d vs:=by
  have key:∀{ts:List Ty} {d:DL ts} {vs:List Value},zn G1 ts d vs→zn (ghD G1.S) ts d vs:=by
   intro ts;induction ts with
   |nil=>intro d vs h;cases vs<;>exact h
   |cons t r ih=>intro d vs h;cases vs with
    |nil=>exact h
    |cons v vs=>exact⟨h.1,ih h.2⟩
  exact key hdr
 have h1:(stD n ts d).ii i=look (RF ts 0 d) i:=by simp only [St.ii,stD];cases look (RF ts 0 d) i<;>rfl
 rw [h1] at hv;have h2:=zn.ez (n:=0) [] aeP i v hv;simp only [List.nil_append] at h2;have hi:i < vs.length:=by
  rw [hl];have:∀{ts:List Ty} {d:DL ts} {k i:Nat} {v:ae},look (RF ts k d) i=some v→i < k + ts.length:=by
   intro ts;induction ts with
   |nil=>intro d k i v h;cases h
   |cons t r ih=>
    intro d k i v h;simp only [RF,aw] at h;by_cases e:k=i
    ·subst e;simp
    ·simp only [e,if_false] at h
     have:=ih h;simp only [List.length_cons];omega
  have:=this hv;omega
 rw [Array.getD_eq_getD_getElem?,Array.getElem?_append_left (by simpa using hi)]
 simpa [List.getD_eq_getElem?_getD] using h2
theorem SJ{X:mt}{st vU:St}{G G1:Gh}{w w':World}(hm:aB X st G w)(m1:aB X vU G1 w)(a1:G.Lk G1)(k1:qU st vU){rs:List Ty}{x:DL rs}{fn:Func}{s:St}{G3:Gh}{act:Act}{R:Type}{r:R}{K:ae→St→Option R}
  (hr:K (Sv rs x) (bif rs.all Ty.yk then st else vU)=some r) (m3:aB (Rz G1.S w) s G3 w') (r3:bL G3 s act) (I1:NY E fn.results.toList rs s=some x):
  ∃ v,(results fn act.tmps).run P w' = .ok v w'∧∃ av st' G',aB X st' G' w'∧(∀ act,bL G st act→bL G' st' act)∧aU G' av v∧K av st' = some r:=by
 unfold NY at I1;split at I1
 ·rename_i avs hav
  split at I1
  ·rename_i s' Bk
   obtain⟨vs',iy,h2⟩:=JN hE.iw m3 r3 hav;obtain⟨G4,m4,a4,k4⟩:=yw Bk m3;have adr:=Dc m4 I1 (h2.imp fun a v h=>h.sub a4);cases KX:rs.all Ty.yk with
   |true=>rw [KX] at hr;exact⟨_,iy,Sv rs x,st,G,hm.abN (fun b hb=>m4.fr b hb (fun h=>h)) m4.sz m4.os m4.tp m4.out,fun act ra=>ra,K6 (Of KX adr),hr⟩
   |false=>rw [KX] at hr;obtain⟨mc,afv⟩:=m1.ac5 m4;exact⟨_,iy,Sv rs x,vU,_,mc,fun act ra=>(Au k1 a1 ra).sub afv rfl (fun _=>rfl),K6 (Xb (G:=G4) (G':={G1 with S:=G4.S}) rfl adr),hr⟩
  ·cases I1
 ·cases I1
theorem ZE{f:FuncId}{fn:Func}{c:Code}{ts rs:List Ty}{W:Type}{F:DL ts→Option W}(pack:DL rs→W){dec:W→DL rs}(Tv:∀ r,dec (pack r)=r)(hf:P.funcs[f]? = some fn)(hb:fn.body=some c)(Am:∀ args w,(callFunc f args).run P w = .ok (.enter f args) w)(hL:rV P E c)
  (hn:ts.length≤fn.ntmps)
  (h:∀ d,F d=so E c (stD fn.ntmps ts d) (fun e s=>match e with | .normal=>(NY E fn.results.toList rs s).map pack | .ret=>(NY E fn.results.toList rs s).map pack | _=>none) (fun _ _=>none)):z7 P E.gt f (AP ts rs F dec):=by
 intro R r X st G w dst args vs K KP hr yH hm _ ha;simp only [AP] at hr;split at hr
 ·rename_i vU hs
  split at hr
  ·rename_i d hd
   obtain⟨y,hx,hr⟩:=Option.bind_eq_some_iff.1 hr;obtain⟨G1,m1,a1,k1⟩:=yw hs hm;have AX:m9 E.gt (Rz G1.S w).S0:=yH.mono m1.s0;have hdr:=Dc m1 hd (ha.imp fun a v h=>h.sub a1);refine⟨Am _ _,calls_of_wp hf hb ?_⟩;have Ap:∀ s G3 w' act,aB (Rz G1.S w) s G3 w'→bL G3 s act→(NY E fn.results.toList rs s).map pack=some y→act.defers = []∧∃ v,(results fn act.tmps).run P w' = .ok v w'∧
     ∃ av st' G',aB X st' G' w'∧(∀ act,bL G st act→bL G' st' act)∧aU G' av v∧K av st' = some r:=fun s G3 w' act m3 r3 I1=>by
    refine⟨r3.1.trans m3.ds,?_⟩;obtain⟨x,adM,hy⟩:=Option.map_eq_some_iff.1 I1;rw [←hy,Tv] at hr;exact SJ hE hm m1 a1 k1 hr m3 r3 adM
   rw [h] at hx;refine zg hE AX c hL hx (T9 m1.sh _ _ _) (LM hdr hn) (fun e s G3 w' act m3 r3 hk=>?_) (fun av v s G3 w' act m3 r3 hv hk=>by cases hk)
   cases e with
   |normal=>exact Ap s G3 w' act m3 r3 hk
   |ret=>exact Ap s G3 w' act m3 r3 hk
   |_=>cases hk
  ·cases hr
 ·cases hr
end
end Go.Fx
namespace Go.Fx
noncomputable def wb(t:St)(G:Gh)(w:World):mt where
 S0:=G.S
 Wg:=fun b=>∃ x,eW G t x b
 w0:=w
 pin:=fun o=>if o < 10000 then(match t.dM o with | some _=>some (G.φ o,G.pre o,G.post o) | none=>none) else none
 pl:=fun o p h=>by
  by_cases bo:o < 10000
  ·exact bo
  ·simp [bo] at h
 bv:=fun o j=>if o < 10000 then(match t.dM o,dY t.cA o j with
  |some ls,some _=>(match ls[j]?,w.heap[G.φ o]? with
   |some .ur,some (.cells arr elem fz)=>arr.toList[(G.pre o).length + j]?
   |_,_=>none)
  |_,_=>none) else none
 bl:=fun o j u h=>by
  by_cases bo:o < 10000
  ·exact bo
  ·simp [bo] at h
 Zr:=fun a=>if eV a t.pin=true then(match t.arr a with | some _=>some (G.ψ a) | none=>none) else none
theorem Gh.OG{G:Gh}{ds:List Deferred}{l:ag}{v:Value}(r:aY G l v):aY {G with ds:=ds} l v:=by cases l<;>exact r
theorem Gh.acS{G:Gh}{ds:List Deferred}{a:ae}{v:Value}(r:aU G a v):aU {G with ds:=ds} a v:=by
 cases a with
 |one l=>exact OG r
 |agg ls=>obtain⟨cs,e,hr⟩:=r;exact⟨cs,e,hr.imp fun _ _=>OG⟩
 |JT vs=>
  obtain⟨us,e,hr⟩:=r;refine⟨us,e,hr.imp fun p u L8=>?_⟩;split at L8
  ·rename_i hc;simp only [hc,if_true];obtain⟨cs,e,hr⟩:=L8;exact⟨cs,e,hr.imp fun _ _=>OG⟩
  ·rename_i hc
   obtain⟨l,e,hr⟩:=L8;simp only [hc,if_false];exact⟨l,e,OG hr⟩
 |zC t ls=>obtain⟨u,cs,e1,e2,hr⟩:=r;exact⟨u,cs,e1,e2,hr.imp fun _ _=>OG⟩
theorem aB.YU{X:mt}{t:St}{G:Gh}{w:World}(hm:aB X t G w)(ds:List Deferred)(p:Nat→Option (Nat×List Value×List Value))(pl:∀ o q,p o=some q→o < 10000)
  (hp:∀ o q,p o=some q→(∃ ls,t.dM o=some ls)∧q=(G.φ o,G.pre o,G.post o)):aB {X with ds:=ds,pin:=p,pl:=pl} t {G with ds:=ds} w:=
 {
  sl:=hm.sl,sh:=hm.sh,ob:=fun o ls h=>(by obtain⟨a,e,m,h1,h2,h3⟩:=hm.ob o ls h;exact⟨a,e,m,h1,h2,h3.imp fun _ _=>Gh.OG⟩),ar:=hm.ar,ah:=hm.ah,nd:=hm.nd,pX:=fun x y b h1 h2=>hm.pX x y b (by cases x with | mk k o=>cases k<;>exact h1) (by cases y with | mk k o=>cases k<;>exact h2)
  dS:=fun x b h=>hm.dS x b (by cases x with | mk k o=>cases k<;>exact h),s6:=fun x b h=>hm.s6 x b (by cases x with | mk k o=>cases k<;>exact h),s0:=hm.s0,sn:=hm.sn,fr:=hm.fr,sz:=hm.sz,os:=hm.os,tp:=hm.tp,out:=hm.out,pin:=hp,bv:=hm.bv,ap:=hm.ap,hv:=hm.hv,ds:=rfl,hh:=hm.hh}
theorem aB.ds0{X:mt}{t:St}{G:Gh}{w:World}(hm:aB X t G w):aB {X with ds:=[]} t {G with ds:=[]} w:=
 hm.YU [] X.pin X.pl hm.pin
theorem aB.enter{X:mt}{t:St}{G:Gh}{w:World}(hm:aB X t G w):aB (wb t G w) t {G with ds:=[]} w:=by
 replace hm:=hm.ds0
 refine {sl:=hm.sl,sh:=hm.sh,ob:=hm.ob,ar:=hm.ar,ah:=hm.ah,nd:=hm.nd,pX:=hm.pX,dS:=hm.dS,s6:=fun x b h=>.inl ⟨x,by cases x with | mk k o=>cases k<;>exact h⟩,s0:=fun b o h=>h,sn:=fun b o h=>.inl h,fr:=fun b _ _=>rfl,sz:=Nat.le_refl _,os:=rfl,tp:=rfl,out:=rfl,pin:=fun o p h=>?_,bv:=fun o j u h=>?_,ap:=fun a u h=>?_,hv:=hm.hv,ds:=hm.ds,hh:=hm.hh}
 ·simp only [wb] at h
  split at h
  ·split at h
   ·rename_i ls ho
    simp only [Option.some.injEq] at h;exact⟨⟨ls,ho⟩,h.symm⟩
   ·cases h
  ·cases h
 ·simp only [wb] at h
  split at h
  ·split at h
   ·rename_i ls lf ho hl
    split at h
    ·rename_i arr elem fz hj hh
     obtain⟨xt,qQ,mid,g1,g2,g3⟩:=hm.ob o ls ho;rw [g1] at hh;cases hh;exact⟨⟨lf,hl⟩,⟨ls,ho,hj⟩,_,_,g1,h⟩
    ·cases h
   ·cases h
  ·cases h
 ·simp only [wb] at h
  split at h
  ·rename_i hp
   split at h
   ·rename_i A hA;simp only [Option.some.injEq] at h;exact⟨hp,⟨A,hA⟩,h⟩
   ·cases h
  ·cases h
theorem TA{t:St}{G:Gh}{w:World}{a:Nat}{A:jF}(hp:eV a t.pin=true)(ha:t.arr a=some A):(wb t G w).Zr a=some (G.ψ a):=by simp [wb,hp,ha]
theorem OB{t:St}{G:Gh}{w:World}{o:Nat}{ls:List ag}(bo:o < 10000)(ho:t.dM o=some ls):(wb t G w).pin o=some (G.φ o,G.pre o,G.post o):=by simp [wb,bo,ho]
theorem Mh{X:mt}{t:St}{G:Gh}{w:World}(hm:aB X t G w){o j:Nat}{ls:List ag}{lf:ag}(bo:o < 10000)(ho:t.dM o=some ls)(hl:dY t.cA o j=some lf)(hj:ls[j]? = some .ur):
  ∃ arr elem u,w.heap[G.φ o]? = some (.cells arr elem (0,0))∧arr.toList[(G.pre o).length + j]? = some u∧(wb t G w).bv o j=some u:=by
 obtain⟨arr,elem,mid,g1,g2,g3⟩:=hm.ob o ls ho;have hml:mid.length=ls.length:=by have:=All2.length g3;rw [iK] at this;exact this.symm
 have hjl:j < ls.length:=(List.getElem?_eq_some_iff.1 hj).1;have:(G.pre o).length + j < arr.toList.length:=by rw [g2];simp;omega
 refine⟨arr,elem,arr.toList[(G.pre o).length + j],g1,List.getElem?_eq_getElem this,?_⟩;simp only [wb,bo,if_true,ho,hl,hj,g1];exact List.getElem?_eq_getElem this
end Go.Fx
