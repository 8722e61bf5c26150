/- Proved here: laws.FnHuntTries returns true at every input (the tied card), no condition beyond the card. -/
import Derived.Test.YtooajghcoijkaaaGreatDoorFa
import Derived.MapKept
import Derived.Laws.BytesString
import Derived.Deep.MidRow
set_option linter.unusedVariables false
set_option linter.unusedSimpArgs false
set_option linter.unusedSectionVars false
set_option linter.defProp false
set_option maxRecDepth 100000
namespace Go.Fx
theorem RM{A:jS}(h:A.md.lG .bx=true):A.md=.bx:=Md.xC h
section ops
variable {P:Program} {E:tn} (hE:iO P E.iE) {X:mS} {w:World} {R:Type} {r:R}
include hE
set_option maxHeartbeats 2000000 in
theorem Sf{st:St}{G:Gh}{T ty:TypeId}{dst b:Nat}{x:ae}{vx vy:Value}{K:ae→St→Option R}(h:rp E T dst x b st K=some r)(hm:az X st G w)(hx:aO G x vx)(hy:aS G (.mT b) vy):
  ∃ av v st' G' w',(Builtin.append_ #[T,T] ty #[vx,vy]).run P w=.ok v w'∧az X st' G' w'∧(∀ act,bO G st act→bO G' st' act)∧aO G' av v∧K av st' = some r:=by
 unfold rp at h;split at h
 ·rename_i s bb0 y' e z hT
  cases AC:E.iE e with
  |none=>simp[AC] at h
  |some ei=>
   simp only[AC] at h;split at h
   ·rename_i t B hty hB Mv
    cases hc:(Nat.beq ei.size t.size&&Nat.ble ei.bytes 16384&&!(B.sh||!Md.lG B.md .bx ||(look st.fQ b).isSome||eV b st.pin||st.dc true dst)) with
    |false=>rw[hc] at h;cases h
    |true=>
     simp only[hc,aja] at h;simp only[Q3,aOa,aGa,boa] at hc;obtain⟨⟨q1,q2⟩,⟨⟨⟨Kn,hBm⟩,hBb⟩,hBp⟩,AE⟩:=hc;have q1:=Q4 q1;have q2:=aZa q2;have hBb:look st.fQ b=none:=by simpa using hBb
     split at h
     ·rename_i m Gw
      obtain⟨ety,hm0⟩:=lT Gw;have afB:=RM hBm;obtain⟨Bt,Bmd,Bsh,Bl⟩:=B;simp only[Ty.slice.injEq] at ety;subst ety;simp only at hm0 Kn afB;subst hm0 Kn afB;have hu:=(hE T _ hT).slice;obtain⟨i,d,zz,i1,i2,i3,i4,i5,i6,i7,i8,i9,_⟩:=hE e ei AC;have hzs:zz.cells.size=i.size:=by rw[i3,←i9,←i6];simp
      have Qn:st.arr b=some ⟨Bt,.bx,false,m⟩:=sm hB;have ag8:=(ia rfl rfl).1 (hm.ar b _ Qn);have hvy:vy=G.ψ b:=hy;have aaC:(∃ A,st.arr b=some A∧A.sh=false)∧eV b st.pin=false:=⟨⟨_,Qn,rfl⟩,hBp⟩;have rO:(m=[]∧G.HA b=[]∧vy=.slice none 0 0)∨∃(bb cap:Nat) (arr:Array Value) (elem:TypeId) (cells:List Value) (rest:List Value) (H':gj),vy=.slice (some ⟨bb,0,none⟩) m.length cap∧G.HA b=(bb,Obj.cells arr elem (0,0))::H'∧
        RepL (gh G.S true Bt) cells m H'∧(∀ j u,cells[j]? = some u→w.cell? ((⟨bb,0,none⟩:Addr).add j)=some u):=by
       rcases ag8 with ⟨e1,e2,e3⟩|⟨bb,cap,arr,elem,cells,rest,H',e1,e2,e3,e4,e5,e6⟩
       ·simp only[aJa,a_a] at e3
        exact .inl ⟨e1,e2,hvy.trans e3⟩
       ·simp only[aJa,a_a] at e1
        have tU:=hm.ah b _ Qn rfl (bb,Obj.cells arr elem (0,0)) (by rw[e2];simp)
        refine .inr ⟨bb,cap,arr,elem,cells,rest,H',hvy.trans e1,e2,e6,fun j u hj=>?_⟩;rw[bYa];exact oq (pre:=[]) tU (by simpa using e3) rfl j u hj
      have hnl:∀{news:List Value} {H:gj},RepL (gh G.S true Bt) news m H→news.length=m.length * i.size:=fun hr=>by rw[RepL.size (fun c x H hr=>gh.size hr) hr,i3,q1]
      have low:∀{q:Nat},((∃ A,st.arr q=some A∧A.sh=false)∧eV q st.pin=false)→∀ p∈G.HA q,p.1<w.heap.size∧w.heap[p.1]? = some p.2:=fun {q} hq p hp=>by obtain⟨⟨A,hA,hs⟩,_⟩:=hq;have:=hm.ah q A hA hs p hp;exact⟨fZ this,this⟩
      have Gs:∀(C:List Nat) (rr:List Bt.nH),b∈C→C.Nodup→(∀ c∈C,((∃ A,st.arr c=some A∧A.sh=false)∧eV c st.pin=false))→(∀ c∈C,look st.fQ c=none)→(∀ c∈C,c≠b→G.HA c=[])→bD ([]:List Bt.nH) m=some rr→
        ∃ v G' w',(Builtin.append_ #[T,T] ty #[.slice none 0 0,vy]).run P w=.ok v w'∧az X {st with cO:=(dst,⟨Bt,.bx,false,rr⟩)::lm C st.cO} G' w'∧(∀ act,bO G st act→bO G' {st with cO:=(dst,⟨Bt,.bx,false,rr⟩)::lm C st.cO} act)∧aO G' (.one (.mT dst)) v:=by
       intro C rr hbC hnC hC hCb hCe L1;obtain⟨jy,aek⟩:=D4 L1;have ael:m=rr:=aek.symm;subst ael;rcases rO with ⟨rfl,hH,rfl⟩|⟨bb,cap,arr,elem,cells,rest,H',rfl,hH,Bv,rF⟩
       ·obtain⟨G',m',r',hv,_⟩:=hm.uj (w':=w) (dst:=dst) (C:=C) (A':=⟨Bt,.bx,false,[]⟩) (hd:=.slice none 0 0) (HH:=[]) (st':={st with cO:=(dst,⟨Bt,.bx,false,[]⟩)::lm C st.cO}) hC rfl rfl
         (.inl ⟨rfl,rfl,rfl⟩) b_a (fun p hp=>by cases hp) (fun p hp=>by cases hp) (fun _ _ _=>rfl) (awa _) rfl rfl rfl (rK.cO _ _) (yx hCb) Mv AE
        exact⟨_,G',w,oV hu i1 none none 0 0 0 (awa _),m',r',hv⟩
       ·by_cases rQ:0<m.length
        ·simp only[aCa,aWa] at jy
         have h48:m.length * i.bytes≤281474976710656:=by
          have:m.length * i.bytes≤4294967296 * 16384:=cFa jy (by rw[i4];exact q2)
          omega
         have iH:=run_append_nil (P:=P) w T ty e i zz hu i1 i5 ⟨bb,0,none⟩ m.length cap cells (hnl Bv) rF rQ (by omega) h48
         have L4:=grownCap_ge w m.length 0 e;let blk:Obj:=.cells (cells.toArray++Builtin.zeroCells zz.cells (grownCap w m.length 0 e - m.length)) e (0,0);have I0:kx (RepL (gh G.S true Bt)) Bt.size [.slice (some ⟨w.heap.size,0,none⟩) m.length (grownCap w m.length 0 e)] m ((w.heap.size,blk)::H'):=
          .inr ⟨w.heap.size,grownCap w m.length 0 e,_,e,cells,(Builtin.zeroCells zz.cells (grownCap w m.length 0 e - m.length)).toList,H',rfl,rfl,by simp,by
           rw[bZa,cEa,hzs,bFa,hnl Bv,←bra,i3,q1];exact bna _ (by omega),L4,Bv⟩
         have ZO:=hm.nd b _ Qn rfl;rw[hH,aHa,a2a] at ZO;obtain⟨G',m',r',hv,_⟩:=hm.drew.uj (w':=w.drew.alloc blk) (dst:=dst) (C:=C) (A':=⟨Bt,.bx,false,m⟩) (hd:=.slice (some ⟨w.heap.size,0,none⟩) m.length (grownCap w m.length 0 e)) (HH:=(w.heap.size,blk)::H')
          (st':={st with cO:=(dst,⟨Bt,.bx,false,m⟩)::lm C st.cO}) hC rfl rfl I0
          (by
           rw[aHa,a2a];refine⟨fun ib=>?_,ZO.2⟩;obtain⟨p,hp,e⟩:=a0a.1 ib;have:=(low aaC p (by rw[hH];exact Q8 _ hp)).1
           simp only at e;omega)
          (fun p hp=>by
           rcases ama.1 hp with rfl|hp
           ·exact .inr (awa _)
           ·exact .inl ⟨b,hbC,p,by rw[hH];exact Q8 _ hp,rfl⟩)
          (fun p hp=>by
           rcases ama.1 hp with rfl|hp
           ·exact va w.drew _
           ·have:=low aaC p (by rw[hH];exact Q8 _ hp)
            rw[iY w.drew _ this.1];exact this.2)
          (fun b hb _=>iY w.drew _ hb) (by rw[tr];exact Nat.le_succ _) rfl rfl rfl (rK.cO _ _) (yx hCb) Mv AE
         exact⟨_,G',_,iH,m',r',hv⟩
        ·have hm0:m=[]:=by cases m<;>simp at rQ ⊢
         subst hm0;obtain⟨G',m',r',hv,_⟩:=hm.uj (w':=w) (dst:=dst) (C:=C) (A':=⟨Bt,.bx,false,[]⟩) (hd:=.slice none 0 0) (HH:=[]) (st':={st with cO:=(dst,⟨Bt,.bx,false,[]⟩)::lm C st.cO}) hC rfl rfl
          (.inl ⟨rfl,rfl,rfl⟩) b_a (fun p hp=>by cases hp) (fun p hp=>by cases hp) (fun _ _ _=>rfl) (awa _) rfl rfl rfl (rK.cO _ _) (yx hCb) Mv AE
         exact⟨_,G',w,oV hu i1 none _ 0 0 _ (awa _),m',r',hv⟩
      cases x with
      |agg ls=>simp[ae.bP] at h
      |Lm ls=>simp[ae.bP] at h
      |AH t ls=>simp[ae.bP] at h
      |one l=>
       simp only[ae.bP] at h;cases l with
       |nil=>
        simp only at h;obtain⟨rr,Qs,h⟩:=axa.1 h;have hvx:vx=.slice none 0 0:=hx;subst hvx;obtain⟨v,G',w',f1,f2,f3,f4⟩:=Gs [b] rr (Q7.2 rfl) (by simp) (fun c hc=>by rw[Q7.1 hc];exact aaC) (fun c hc=>by rw[Q7.1 hc];exact hBb) (fun c hc hG=>absurd (Q7.1 hc) hG) Qs
        exact⟨_,v,_,G',w',f1,f2,f3,f4,h⟩
       |mT a=>
        simp only at h;cases hA:look st.cO a with
        |none=>simp[hA] at h
        |some A=>
         simp only[hA] at h;cases NH:(A.sh||!Md.lG A.md .bx ||(look st.fQ a).isSome||eV a st.pin||Nat.beq a b) with
         |true=>simp[NH] at h
         |false=>
          simp only[NH,aqa] at h;simp only[aGa,boa] at NH;obtain⟨⟨⟨⟨Qm,hAm⟩,hAb⟩,O0⟩,hab⟩:=NH;have hAb:look st.fQ a=none:=by simpa using hAb
          have hab:a≠b:=fun e=>by rw[e] at hab;simp at hab
          cases NI:wd (.slice A.t) (.slice Bt) A.l with
          |none=>simp[NI] at h
          |some l=>
           simp only[NI] at h;obtain⟨ety,hl⟩:=lT NI;have Zz:=RM hAm;obtain⟨At,Amd,Ash,Al⟩:=A;simp only[Ty.slice.injEq] at ety;subst ety;simp only at hl Qm Zz;subst hl Qm Zz;obtain⟨rr,Qs,hK⟩:=axa.1 h;have jT:st.arr a=some ⟨At,.bx,false,l⟩:=sm hA;have tH:=(ia rfl rfl).1 (hm.ar a _ jT);have hvx:vx=G.ψ a:=hx;have aeJ:(∃ A,st.arr a=some A∧A.sh=false)∧eV a st.pin=false:=⟨⟨_,jT,rfl⟩,O0⟩;have hC:∀ c∈[a,b],(∃ A,st.arr c=some A∧A.sh=false)∧eV c st.pin=false:=fun c hc=>by
            simp only[ama,bUa,bDa] at hc;rcases hc with rfl|rfl
            ·exact aeJ
            ·exact aaC
           have hCb:∀ c∈[a,b],look st.fQ c=none:=fun c hc=>by
            simp only[ama,bUa,bDa] at hc;rcases hc with rfl|rfl
            ·exact hAb
            ·exact hBb
           have hnC:[a,b].Nodup:=by simp[hab]
           have ac2:∀ p∈G.HA a,∀ p'∈G.HA b,p.1≠p'.1:=fun p hp p' AF e=>by have:=hm.qs (true,a) (true,b) p.1 ⟨⟨_,jT,rfl⟩,p,hp,rfl⟩ ⟨⟨_,Qn,rfl⟩,p',AF,e.symm⟩;simp only[ala,cba] at this;exact hab this
           rcases tH with ⟨e1,e2,e3⟩|⟨ba,cap,arr,elem,cells,rest,Ha,e1,e2,e3,e4,e5,e6⟩
           ·simp only at e1
            subst e1;simp only[aJa,a_a] at e3;rw[hvx,e3];obtain⟨v,G',w',f1,f2,f3,f4⟩:=Gs [a,b] rr (by simp) hnC hC hCb (fun c hc hG=>by
             simp only[ama,bUa,bDa] at hc;rcases hc with rfl|rfl
             ·exact e2
             ·exact absurd rfl hG) Qs
            exact⟨_,v,_,G',w',f1,f2,f3,f4,hK⟩
           ·simp only[aJa,a_a] at e1
            rw[hvx,e1];obtain⟨jy,rfl⟩:=D4 Qs;have e6:RepL (gh G.S true At) cells l Ha:=e6;have e4:cap * At.size≤arr.size:=e4;have e5:l.length≤cap:=e5;have tU:=hm.ah a _ jT rfl (ba,Obj.cells arr elem (0,0)) (by rw[e2];simp)
            have mD:cells.length=l.length * At.size:=RepL.size (fun c x H hr=>gh.size hr) e6;have afV:=hm.nd a _ jT rfl;have ZN:=afV;rw[e2,aHa,a2a] at ZN;rcases Nat.eq_zero_or_pos m.length with hm0|rQ
            ·have hm0:m=[]:=cBa hm0
             subst hm0;rw[bga] at hK;obtain⟨xb,xc,ahD⟩:∃ xb xc,vy=.slice xb 0 xc:=by
              rcases rO with ⟨_,_,e⟩|⟨bb,cap,_,_,_,_,_,e,_⟩
              ·exact⟨_,_,e⟩
              ·exact⟨_,_,e⟩
             obtain⟨G',m',r',hv,_⟩:=hm.uj (w':=w) (dst:=dst) (C:=[a,b]) (A':=⟨At,.bx,false,l⟩) (hd:=.slice (some ⟨ba,0,none⟩) l.length cap) (HH:=G.HA a) (st':={st with cO:=(dst,⟨At,.bx,false,l⟩)::lm [a,b] st.cO}) hC rfl rfl
              (.inr ⟨ba,cap,arr,elem,cells,rest,Ha,rfl,e2,e3,e4,e5,e6⟩) afV (fun p hp=>.inl ⟨a,by simp,p,hp,rfl⟩) (fun p hp=>(low aeJ p hp).2) (fun _ _ _=>rfl) (awa _) rfl rfl rfl (rK.cO _ _) (yx hCb) Mv AE
             exact⟨_,_,_,G',w,by rw[ahD];exact oV hu i1 _ _ _ _ _ e5,m',r',hv,hK⟩
            ·rcases rO with ⟨hm0,_,_⟩|⟨bb,afa,aie,ah5,news,ah6,Hb,rfl,hHb,Bv,rF⟩
             ·rw[hm0] at rQ;simp at rQ
             have ZO:=hm.nd b _ Qn rfl;rw[hHb,aHa,a2a] at ZO;have inB:∀ p∈Hb,p∈G.HA b:=fun p hp=>by rw[hHb];exact Q8 _ hp
             have inA:∀ p∈Ha,p∈G.HA a:=fun p hp=>by rw[e2];exact Q8 _ hp
             have adg:((Ha++Hb).map (·.1)).Nodup:=by rw[bua,bba];refine⟨ZN.2,ZO.2,fun x1 h1 x2 h2 e=>?_⟩;obtain⟨p,hp,rfl⟩:=a0a.1 h1;obtain⟨p',AF,rfl⟩:=a0a.1 h2;exact ac2 p (inA p hp) p' (inB p' AF) e
             have aah:∀ p∈Ha++Hb,p.1<w.heap.size∧w.heap[p.1]? = some p.2:=fun p hp=>by
              rcases aoa.1 hp with hp|hp
              ·exact low aeJ p (inA p hp)
              ·exact low aaC p (inB p hp)
             have Zv:∀ p∈Ha++Hb,∃ c∈[a,b],∃ q∈G.HA c,q.1=p.1:=fun p hp=>by
              rcases aoa.1 hp with hp|hp
              ·exact⟨a,by simp,p,inA p hp,rfl⟩
              ·exact⟨b,by simp,p,inB p hp,rfl⟩
             by_cases NQ:l.length+m.length≤cap
             ·have xF:0+l.length * i.size+news.length≤arr.size:=by
               rw[hnl Bv,aWa,←bra,i3,q1];exact bEa (bna _ NQ) e4
              have hth:=BZ tU xF;have iH:=run_append_room_cells (P:=P) w T ty e i hu i1 ba 0 l.length cap ⟨bb,0,none⟩ m.length afa news (hnl Bv) rF (RepL.one (fun c x H hr=>gh.one hr) Bv) NQ
               (fun j hj=>(hth j hj).1) (fun j hj=>(hth j hj).2)
              obtain⟨arr',g1,g2,g3,g4,g5,g6,g7⟩:=om ba news (0+l.length * i.size) w tU xF;have RY:arr'.toList=(cells++news)++arr.toList.drop (0+l.length * i.size+news.length):=by
               rw[g2];have:arr.toList.take (0+l.length * i.size)=cells:=by rw[e3,aWa,i3,q1,←mD];simp
               rw[this];simp
              have ZV:arr'.size=arr.size:=by rw[←bea,g2];simp;omega
              have hG:∀ p∈Ha++Hb,p.1≠ba:=fun p hp e=>by
               rcases aoa.1 hp with hp|hp
               ·exact ZN.1 (by show ba∈_;rw[←e];exact aIa (f:=(·.1)) hp)
               ·exact ac2 (ba,Obj.cells arr elem (0,0)) (by rw[e2];simp) p (inB p hp) e.symm
              obtain⟨G',m',r',hv,_⟩:=hm.uj (w':=w.setCells ba (0+l.length * i.size) news) (dst:=dst) (C:=[a,b]) (A':=⟨At,.bx,false,l++m⟩) (hd:=.slice (some ⟨ba,0,none⟩) (l++m).length cap) (HH:=(ba,Obj.cells arr' elem (0,0))::(Ha++Hb)) (st':={st with cO:=(dst,⟨At,.bx,false,l++m⟩)::lm [a,b] st.cO}) hC rfl rfl
               (.inr ⟨ba,cap,arr',elem,cells++news,_,Ha++Hb,rfl,rfl,RY,by rw[ZV];exact e4,by simpa using NQ,e6.append Bv⟩)
               (by
                rw[aHa,a2a];refine⟨fun ib=>?_,adg⟩;obtain⟨p,hp,e⟩:=a0a.1 ib;exact hG p hp e)
               (fun p hp=>by
                rcases ama.1 hp with rfl|hp
                ·exact .inl ⟨a,by simp,(ba,Obj.cells arr elem (0,0)),by rw[e2];simp,rfl⟩
                ·exact .inl (Zv p hp))
               (fun p hp=>by
                rcases ama.1 hp with rfl|hp
                ·exact g1
                ·rw[g3 _ (hG p hp)];exact(aah p hp).2)
               (fun k hk hn=>g3 k fun e=>hn a (by simp) (ba,Obj.cells arr elem (0,0)) (by rw[e2];simp) e.symm) (by rw[g4];exact awa _) g5 g6 g7 (rK.cO _ _) (yx hCb) Mv AE
              simp only[aua] at hv;exact⟨_,_,_,G',_,iH,m',r',hv,hK⟩
             ·have holds:∀ j u,cells[j]? = some u→w.cell? ((⟨ba,0,none⟩:Addr).add j)=some u:=fun j u hj=>by
               rw[bYa];exact oq (pre:=[]) tU (by simpa using e3) rfl j u hj
              have hby:(l.length+m.length) * i.bytes≤140737488355328:=by
               have:(l.length+m.length) * i.bytes≤4294967296 * 16384:=cFa jy (by rw[i4];exact q2)
               omega
              have xF:=growslice_fits (need:=l.length+m.length) (old:=cap) (bytes:=i.bytes) (by omega) hby
              have iH:=run_append_grow (P:=P) w T ty e i zz hu i1 i5 ⟨ba,0,none⟩ l.length cap cells (by rw[mD,i3,q1]) holds ⟨bb,0,none⟩ m.length afa news (hnl Bv) rF (by omega) (by omega) xF
              have L4:=grownCap_ge w (l.length+m.length) cap e;let blk:Obj:=.cells (cells.toArray++news.toArray++Builtin.zeroCells zz.cells (grownCap w (l.length+m.length) cap e - (l.length+m.length))) e (0,0);have I0:kx (RepL (gh G.S true At)) At.size [.slice (some ⟨w.heap.size,0,none⟩) (l++m).length (grownCap w (l.length+m.length) cap e)] (l++m) ((w.heap.size,blk)::(Ha++Hb)):=
               .inr ⟨w.heap.size,grownCap w (l.length+m.length) cap e,_,e,cells++news,(Builtin.zeroCells zz.cells (grownCap w (l.length+m.length) cap e - (l.length+m.length))).toList,Ha++Hb,rfl,rfl,by simp,by
                rw[bZa,bZa,cEa,hzs,bFa,bFa,hnl Bv,mD,i3,q1,←bra,←bra];exact bna _ (by omega),by simpa using L4,e6.append Bv⟩
              obtain⟨G',m',r',hv,_⟩:=hm.drew.uj (w':=w.drew.alloc blk) (dst:=dst) (C:=[a,b]) (A':=⟨At,.bx,false,l++m⟩) (hd:=.slice (some ⟨w.heap.size,0,none⟩) (l++m).length (grownCap w (l.length+m.length) cap e)) (HH:=(w.heap.size,blk)::(Ha++Hb))
               (st':={st with cO:=(dst,⟨At,.bx,false,l++m⟩)::lm [a,b] st.cO}) hC rfl rfl I0
               (by
                rw[aHa,a2a];refine⟨fun ib=>?_,adg⟩;obtain⟨p,hp,e⟩:=a0a.1 ib;have:=(aah p hp).1;simp only at e;omega)
               (fun p hp=>by
                rcases ama.1 hp with rfl|hp
                ·exact .inr (awa _)
                ·exact .inl (Zv p hp))
               (fun p hp=>by
                rcases ama.1 hp with rfl|hp
                ·exact va w.drew _
                ·have:=aah p hp
                 rw[iY w.drew _ this.1];exact this.2)
               (fun b hb _=>iY w.drew _ hb) (by rw[tr];exact Nat.le_succ _) rfl rfl rfl (rK.cO _ _) (yx hCb) Mv AE
              simp only[aua] at hv;exact⟨_,_,_,G',_,iH,m',r',hv,hK⟩
       |_=>simp at h
     ·cases h
   ·cases h
 ·cases h
theorem Sg{st:St}{G:Gh}{T ty:TypeId}{dst:Nat}{x y:ae}{vx vy:Value}{K:ae→St→Option R}(h:rq E T dst x y st K=some r)(hm:az X st G w)(hx:aO G x vx)(hy:aO G y vy)(hwx:Hi st x)(hwy:Hi st y):
  ∃ av v st' G' w',(Builtin.append_ #[T,T] ty #[vx,vy]).run P w=.ok v w'∧az X st' G' w'∧(∀ act,bO G st act→bO G' st' act)∧aO G' av v∧K av st' = some r:=by
 unfold rq at h;split at h
 ·rename_i b hb
  unfold Zi at hb;split at hb
  ·rename_i b' hl
   have hye:y=.one (.mT b'):=by cases y<;>simp[ae.bP] at hl;rw[hl]
   split at hb
   ·rename_i B hB
    cases hc:(!B.sh&&Md.lG B.md .bx) with
    |false=>simp[hc] at hb
    |true=>simp only[hc,aja,OQ] at hb;subst hb;rw[hye] at hy;exact Sf hE h hm hx hy
   ·cases hb
  ·cases hb
 ·split at h
  ·rename_i a v sz i off hl
   have hxe:x=.one (.Ft a v sz i off):=by cases x<;>simp[ae.bP] at hl;rw[hl]
   cases hc:(Nat.beq v (st.dC a)&&Nat.blt off sz&&SE st a sz) with
   |false=>rw[hc] at h;cases h
   |true=>
    rw[hc,aja] at h;simp only[Q3] at hc;obtain⟨⟨hv,Vl⟩,mX⟩:=hc;obtain rfl:=Q4 hv;rw[b6a] at Vl;unfold SE at mX;split at mX
    ·rename_i A hA
     obtain rfl:=Q4 mX;obtain⟨s1,G1,O,h⟩:=Sp h hm;obtain⟨b1,b2,b3,b4,b5,b6,b7⟩:=O.iG;have aen:s1.dC a=st.dC a:=by simp only[St.dC,b7]
     have ht:∀ off u,off<A.t.size→vY G1 a (st.dC a) A.t.size i off u→u=G1.ψ (Mb a (st.dC a) off):=fun off u ho hu=>O.acH A off u hA ho hu;obtain⟨m2,h⟩:=UM h O.GF (by rw[aen];exact ht)
     generalize hs2:({s1 with ci:=(pZ s1.ci []).map fun p=>(p.1,p.2.map (qQ a (s1.dC a) A.t.size))}:St)=s2 at m2 h
     have hx1:aO G1 (.one (.mT (Mb a (st.dC a) off))) vx:=by have:=O.val x vx hwx hx;rw[hxe] at this;exact ht off vx Vl this
     obtain⟨av,v,st',G',w',k1,k2,k3,k4,k5⟩:=La hE (ty:=ty) h m2 hx1 (O.val y vy hwy hy);refine⟨av,v,st',G',w',k1,k2,fun act ra=>k3 act ?_,k4,k5⟩;have r1:=O.eB act ra;rw[←hs2];exact⟨r1.1,r1.2.1,r1.2.2⟩
    ·cases mX
  ·exact La hE h hm hx hy
theorem JF{S:DN}:∀{t:Ty} {d:t.nH} {cs:List Value} {H:gj} {off:Nat} {n:Int},t.su=true→gh S true t cs d H→Dq t d off=some n→∃ b k c,cs[off]? = some (.slice b k c)∧n=(k:Int)
 |.slice u,d,cs,H,off,n,_,h,hn=>by
  cases off with
  |succ k=>simp[Dq] at hn
  |zero=>
   simp only[Dq,OQ] at hn;rcases h with ⟨e1,_,e⟩|⟨b,cap,arr,elem,cells,rest,H',e,_⟩
   ·subst e;exact⟨none,0,0,rfl,by rw[←hn,e1];rfl⟩
   ·subst e;exact⟨_,_,_,rfl,hn.symm⟩
 |.da a b,d,cs,H,off,n,hna,h,hn=>by
  simp only[Ty.su,Q3] at hna;obtain⟨c1,c2,H1,H2,rfl,rfl,h1,h2⟩:=h;have hl:=gh.size h1;simp only[Dq] at hn;cases hb:Nat.blt off a.size with
  |true=>simp only[hb,aja] at hn;rw[b6a] at hb;obtain⟨bb,k,c,g1,g2⟩:=JF hna.1 h1 hn;exact⟨bb,k,c,by rw[aVa (by omega)];exact g1,g2⟩
  |false=>
   simp only[hb,aqa] at hn;have hb:¬ off<a.size:=fun h=>by
    have:Nat.blt off a.size=true:=by rw[b6a];exact h
    rw[this] at hb;cases hb
   obtain⟨bb,k,c,g1,g2⟩:=JF hna.2 h2 hn;exact⟨bb,k,c,by rw[aTa (by omega),hl];exact g1,g2⟩
 |.one a,d,cs,H,off,n,hna,h,hn=>by exact JF (t:=a) hna h hn
 |.int _,_,_,_,off,_,_,_,hn=>by cases off<;>simp[Dq] at hn
 |.bool,_,_,_,off,_,_,_,hn=>by cases off<;>simp[Dq] at hn
 |.str,_,_,_,off,_,_,_,hn=>by cases off<;>simp[Dq] at hn
 |.arr _ _,_,_,_,_,_,hna,_,_=>by cases hna
end ops
end Go.Fx
namespace Go.Fx
def KT(e:MapEntry)(p:ab×Int):Prop:=e.key=kw p.1∧e.val=.int .i64 p.2
theorem Np{S:DN}:∀{es:List MapEntry} {l:List (ab×Int)} {H:gj},RepL (gh S false mpT) (es.flatMap fun e=>[e.key,e.val]) l H→All2 KT es l
 |[],[],_,_=>trivial
 |[],p::l,H,⟨c1,c2,H1,H2,e1,_,r,_⟩=>by have:=gh.size r;have e:c1=[]:=(bXa.1 e1.symm).1;rw[e] at this;cases this
 |e::es,[],H,h=>by cases h.1
 |e::es,p::l,H,⟨c1,c2,H1,H2,e1,_,r,rl⟩=>by obtain⟨d1,d2,K1,K2,rfl,_,r1,r2⟩:=r;have h1:d1=[kw p.1]:=r1.1;have h2:d2=[.int .i64 p.2]:=r2.1;subst h1 h2;simp only[bSa,a4a,aYa,aJa] at e1;obtain⟨g1,g2,rfl⟩:=e1;exact⟨⟨g1,g2⟩,Np rl⟩
theorem OG{S:DN}:∀{es:List MapEntry} {l:List (ab×Int)},All2 KT es l→RepL (gh S false mpT) (es.flatMap fun e=>[e.key,e.val]) l []
 |[],[],_=>⟨rfl,rfl⟩
 |e::es,p::l,h=>by refine⟨[e.key,e.val],_,[],[],rfl,rfl,⟨[kw p.1],[.int .i64 p.2],[],[],?_,rfl,⟨rfl,rfl⟩,⟨rfl,rfl⟩⟩,OG h.2⟩;rw[h.1.1,h.1.2];rfl
 |[],_::_,h=>h.elim
 |_::_,[],h=>h.elim
theorem abb{a b:ab}(h:kw a=kw b):a=b:=by simp only[kw,Value.string.injEq,ByteArray.mk.injEq] at h;exact List.toArray_inj h
theorem aa2(a b:ab):Instr.sameNow .string (kw a) (kw b)=some (decide (b=a)):=by
 obtain⟨r,h1,h2⟩:=MapKept.sameNow_of_keys (d:=.string) (a:=kw a) (b:=kw b) trivial trivial;rw[h1];congr 1
 by_cases e:b=a
 ·subst e;simp[h2.2 rfl]
 ·have:r≠true:=fun hr=>e (abb (h2.1 hr)).symm
  simp[e,this]
theorem Kg{s:ab}:∀{es:List MapEntry} {l:List (ab×Int)} {i:Nat},All2 KT es l→
  (Instr.findNow .string (kw s) es i=some none∧qE l s=0∧∀ v,ro l s v=l++[(s,v)])∨
  ∃ j v e,Instr.findNow .string (kw s) es i=some (some (i+j,.int .i64 v))∧qE l s=v∧es[j]? = some e∧e.key=kw s∧∀ u,ro l s u=l.set j (s,u)
 |[],[],i,_=>.inl ⟨rfl,rfl,fun _=>rfl⟩
 |e::es,p::l,i,h=>by
  obtain⟨⟨hk,hv⟩,ht⟩:=h;have hs:=aa2 s p.1;rw[←hk] at hs;by_cases hp:p.1=s
  ·simp only[hp,decide_true] at hs
   exact .inr ⟨0,p.2,e,by simp[Instr.findNow,hs,hv],by simp[qE,hp],rfl,by rw[hk,hp],fun u=>by simp[ro,hp]⟩
  ·simp only[hp,cga] at hs
   rcases Kg (s:=s) (i:=i+1) ht with ⟨h1,h2,h3⟩|⟨j,v,e',h1,h2,h3,h4,h5⟩
   ·exact .inl ⟨by simp[Instr.findNow,hs,h1],by simp[qE,hp,h2],fun v=>by simp[ro,hp,h3]⟩
   ·exact .inr ⟨j+1,v,e',by simp[Instr.findNow,hs,h1];omega,by simp[qE,hp,h2],by simpa using h3,h4,fun u=>by simp[ro,hp,h5]⟩
 |[],_::_,_,h=>h.elim
 |_::_,[],_,h=>h.elim
theorem abG{es:List MapEntry}{l:List (ab×Int)}(h:All2 KT es l){j:Nat}{e:MapEntry}{p:ab×Int}(he:KT e p):All2 KT (es.set j e) (l.set j p):=by
 induction es generalizing l j with
 |nil=>cases l with
  |nil=>simp[All2]
  |cons=>exact h.elim
 |cons x es ih=>cases l with
  |nil=>exact h.elim
  |cons y l=>
   cases j with
   |zero=>exact⟨he,h.2⟩
   |succ j=>exact⟨h.1,ih h.2⟩
section ops
variable {P:Program} {E:tn} (hE:iO P E.iE) {X:mS} {st:St} {G:Gh} {w:World} {R:Type} {r:R}
include hE
theorem WD{T:TypeId}(h:K8 E T=true):∃ k v j,P.underlying T=some (.map k v)∧P.underlying k=some .string∧P.underlying v=some (.int .i64)∧P.info? v=some j∧j.zero=some (.int .i64 0):=by
 unfold K8 at h;split at h
 ·rename_i s b y k v z hT
  obtain⟨i,d,zz,i1,i2,i3,i4,i5,i6,i7,i8,i9,i10,i11⟩:=hE T _ hT;obtain⟨j1,j2,j,j3,j4⟩:=i11 k v rfl;cases d with
  |map k' v'=>obtain⟨rfl,rfl⟩:=i7;exact⟨k,v,j,i2,j1,j2,j3,j4⟩
  |_=>exact i7.elim
 ·cases h
theorem Sj{T:TypeId}{dst:Nat}{K:ae→St→Option R}(h:ru E T dst st K=some r)(hm:az X st G w):
  ∃ av v st' G' w',(Instr.makeMap T none).run P w=.ok v w'∧az X st' G' w'∧(∀ act,bO G st act→bO G' st' act)∧aO G' av v∧K av st' = some r:=by
 unfold ru at h;split at h
 ·rename_i ha
  cases hc:(K8 E T&&!st.dc true dst) with
  |false=>rw[hc] at h;cases h
  |true=>
   rw[hc,aja] at h;simp only[Q3,aOa] at hc;obtain⟨G2,m2,r2,Gx,_⟩:=hm.NY (w':=w.alloc (.map #[] 0)) (dst:=dst) (C:=[]) (A':=⟨mpT,.mp,false,[]⟩) (hd:=.map (some w.heap.size)) (HH:=[(w.heap.size,.map #[] 0)])
    (st':=st.gP dst ⟨mpT,.mp,false,[]⟩) (fun c hc=>by cases hc) rfl (.inr (.inl ⟨_,rfl⟩)) (fun G' e1 e2 e3=>⟨w.heap.size,#[],0,e2,e3,rfl,rfl⟩) (by simp)
    (fun p hp=>by rw[Q7.1 hp];exact .inr (awa _)) (fun p hp=>by rw[Q7.1 hp];exact va w _)
    (fun b hb _=>iY w _ hb) (by rw[tr];omega) rfl rfl rfl ⟨rfl,fun _=>rfl,fun _=>rfl,fun o j l=>by simp,rfl,rfl,rfl⟩
    (fun q=>by rw[dI];by_cases e:dst=q<;>simp[e,cea (a:=q)]) ha hc.2
   exact⟨_,_,_,G2,_,rfl,m2,r2,Gx,h⟩
 ·cases h
theorem aao{a:Nat}{A:jS}(hm:az X st G w)(hA:st.arr a=some A)(hs:A.sh=false)(vm:A.md=.mp){l:List (ab×Int)}(hc:wd (.slice A.t) (.slice mpT) A.l=some l):
  ∃ b es yB,G.ψ a=.map (some b)∧G.HA a=[(b,Obj.map es yB)]∧w.heap[b]? = some (.map es yB)∧All2 KT es.toList l:=by
 obtain⟨ety,hl⟩:=lT hc;obtain⟨At,Amd,Ash,Al⟩:=A;simp only[Ty.slice.injEq] at ety;subst ety;simp only at hl hs vm;subst hl hs vm;obtain⟨b,es,yB,e1,e2,e3⟩:=hm.ar a _ hA;have tU:=hm.ah a _ hA rfl (b,Obj.map es yB) (by rw[e2];simp)
 exact⟨b,es,yB,e1,e2,tU,Np e3⟩
theorem Ub{T:TypeId}{x k:ae}{vx vk:Value}{K:ae→St→Option R}(h:uu E T x k st K=some r)(hm:az X st G w)(hx:aO G x vx)(hk:aO G k vk):
  ∃ av v,(Instr.lookup T vx vk false).run P w=.ok v w∧aO G av v∧K av st=some r:=by
 unfold uu at h;split at h
 ·rename_i a s hl hs
  have hxe:x=.one (.mT a):=by cases x<;>simp[ae.bP] at hl;rw[hl]
  rw[hxe] at hx;have hx:vx=G.ψ a:=hx;cases Dr hs hk;split at h
  ·rename_i A hA
   cases hc:(K8 E T&&!A.sh&&Md.lG A.md .mp) with
   |false=>rw[hc] at h;cases h
   |true=>
    rw[hc,aja] at h;simp only[Q3,aOa] at hc;obtain⟨⟨hT,du⟩,vm⟩:=hc;split at h
    ·rename_i l mD
     obtain⟨kt,vt,j,u1,u2,u3,u4,u5⟩:=WD hE hT;obtain⟨b,es,yB,e1,e2,e3,e4⟩:=aao hE hm hA du (Md.xC vm) mD;have HL:∀ em,(Instr.checkKey em 10000 kt (kw s)).run P w=.ok () w:=fun em=>MapKept.run_checkKey u2 (k:=kw s) trivial em 9999;rcases Kg (s:=s) (i:=0) e4 with ⟨h1,h2,_⟩|⟨j',v,e,h1,h2,_⟩
     ·refine⟨_,.int .i64 (qE l s),?_,kU _ _,h⟩
      rw[hx,e1,h2];simp[Instr.lookup,aEa u1,b7a e3,HL,cfa u2 h1,zeroValue,typeInfo,u4,u5,Result.andThen]
     ·refine⟨_,.int .i64 (qE l s),?_,kU _ _,h⟩
      rw[hx,e1,h2];simp[Instr.lookup,aEa u1,b7a e3,HL,cfa u2 h1,Result.andThen]
    ·cases h
  ·cases h
 ·cases h
theorem Ot{T:TypeId}{x k v:ae}{vx vk vv:Value}{K:ae→St→Option R}(h:nZ E T x k v st K=some r)(hm:az X st G w)(hx:aO G x vx)(hk:aO G k vk)(hv:aO G v vv):
  ∃ st' G' w',(Instr.mapUpdate T vx vk vv).run P w=.ok () w'∧az X st' G' w'∧(∀ act,bO G st act→bO G' st' act)∧K (.one .vV) st' = some r:=by
 unfold nZ at h;split at h
 ·rename_i a s n hl hs hn
  have hxe:x=.one (.mT a):=by cases x<;>simp[ae.bP] at hl;rw[hl]
  rw[hxe] at hx;have hx:vx=G.ψ a:=hx;cases Dr hs hk;cases qy hn hv;split at h
  ·rename_i A hA
   cases hc:(K8 E T&&!A.sh&&Md.lG A.md .mp) with
   |false=>rw[hc] at h;cases h
   |true=>
    rw[hc,aja] at h;simp only[Q3,aOa] at hc;obtain⟨⟨hT,du⟩,vm⟩:=hc;split at h
    ·rename_i l mD
     obtain⟨kt,vt,j,u1,u2,u3,u4,u5⟩:=WD hE hT;have jT:=sm hA;obtain⟨b,es,yB,e1,e2,e3,e4⟩:=aao hE hm jT du (Md.xC vm) mD;have HL:∀ em,(Instr.checkKey em 10000 kt (kw s)).run P w=.ok () w:=fun em=>MapKept.run_checkKey u2 (k:=kw s) trivial em 9999;have ahG:∃ es' J9,(Instr.mapUpdate T (.map (some b)) (kw s) (.int .i64 n)).run P w=.ok () {w with heap:=w.heap.setIfInBounds b (.map es' J9)}∧All2 KT es'.toList (ro l s n):=by
      rcases Kg (s:=s) (i:=0) e4 with ⟨h1,_,h3⟩|⟨j',u,e,h1,_,h3,h4,h5⟩
      ·refine⟨es.push {key:=kw s,val:=.int .i64 n,born:=yB},yB+1,?_,?_⟩
       ·simp[Instr.mapUpdate,aEa u1,b7a e3,HL,cfa u2 h1,MapKept.run_setObj_map _ e3,Result.andThen]
       ·rw[h3,Array.toList_push]
        exact e4.append ⟨⟨rfl,rfl⟩,trivial⟩
      ·refine⟨es.modify j' fun e=>{e with key:=kw s,val:=.int .i64 n},yB,?_,?_⟩
       ·rw[aWa] at h1
        have ahp:((es[j']?).map (·.key)).getD (kw s)=kw s:=by rw[←bva,h3];exact h4
        have xH:(Instr.keyThatStays (kw s) (kw s)).run P w=.ok (kw s) w:=MapKept.run_keyThatStays (d:=.string) (k:=kw s) trivial;simp only[Instr.mapUpdate,aMa,aEa u1,aFa,b7a e3,HL,cfa u2 h1,ahp,xH,MapKept.run_setObj_map _ e3]
       ·rw[h5]
        have:(es.modify j' fun e=>{e with key:=kw s,val:=.int .i64 n}).toList=es.toList.set j' {e with key:=kw s,val:=.int .i64 n}:=by
         apply bHa;intro i;rw[bva,cva,cNa];by_cases hi:j' = i
         ·subst hi
          have bg:=(aka.1 h3).1;rw[bva] at h3;simp only[ava,h3,bIa,bg]
         ·simp only[hi,Q9,bva]
        rw[this];exact abG e4 ⟨rfl,rfl⟩
     obtain⟨es',J9,iH,ahh⟩:=ahG;obtain⟨hs1,hs2⟩:=MapKept.heap_set (o':=.map es' J9) e3;let G1:Gh:={G with HA:=fun q=>if q=a then [(b,Obj.map es' J9)] else G.HA q}
     have Pp:eW G st (true,a) b:=⟨⟨A,jT,du⟩,(b,Obj.map es yB),by rw[e2];simp,rfl⟩
     have O4:wH X st (st.gP a ⟨mpT,.mp,false,ro l s n⟩) G G1 w {w with heap:=w.heap.setIfInBounds b (.map es' J9)} (fun y=>y=(true,a)) (fun y=>y=(true,a)) []:=by
      refine {
           n:=rfl,ir:=fun _=>rfl,bl:=rfl,pn:=rfl,S:=rfl,bP:=fun lf v _ hr=>aS.leF (G:=G) (G':=G1) (F:=[]) (fun _ _ h=>h) (fun _ _=>⟨rfl,rfl⟩) (fun q _=>⟨rfl,awa _,fun _ _=>rfl⟩) (by simp) hr,fm:=fun y hy=>(by cases hy),sl:=hm.sl,dN:=fun q ls hq=>.inr ⟨by simp,by simp,hq,rfl,rfl,rfl⟩,arr:=fun q B hq=>?_,
           gz:=fun y c hy hyo=>?_,qs:=fun y z c hy hz _ _=>hy.trans hz.symm,hv:=hm.hv,old:=fun c hc hn=>hs2 c fun e=>hn (true,a) rfl (by rw[e];exact Pp),sz:=by simp,os:=rfl,tp:=rfl,out:=rfl,VJ:=fun q ls hq _=>⟨hq,by simp⟩,VI:=fun q B hp hq=>⟨?_,rfl⟩}
      ·rw[dI] at hq
       by_cases e:a=q
       ·subst e
        simp only[ava,OQ] at hq;subst hq;refine .inl ⟨rfl,⟨b,es',J9,e1,by simp[G1],OG ahh⟩,fun _=>⟨fun p hp=>?_,by simp[G1],fun hG=>by simp[jS.nest] at hG⟩⟩
        simp only[G1,ava,Q7] at hp;rw[hp];exact hs1
       ·simp only[e,Q9] at hq
        have hG:q≠a:=fun h=>e h.symm;exact .inr ⟨by simp[hG],hq,rfl,by simp[G1,hG],fun _=>by simp[hG],rfl,fun _ _ _=>⟨rfl,rfl,rfl⟩⟩
      ·subst hy
       obtain⟨_,p,hp,rfl⟩:=hyo;simp only[G1,ava,Q7] at hp;exact .inl ⟨(true,a),rfl,by rw[hp];exact Pp⟩
      ·rw[dI]
       by_cases e:a=q
       ·exact⟨_,by rw[a7a e]⟩
       ·exact⟨B,by rw[aza e];exact hq⟩
     exact⟨_,G1,_,by rw[hx,e1];exact iH,O4.ok hm,fun act=>O4.eB,h⟩
    ·cases h
  ·cases h
 ·cases h
theorem Th{S:DN}{m:Bool}{t:Ty}:∀(n:Nat) {l r:List Value},Ni (tX t) n l=some r→∃ c,l=c++r∧RepL (gh S m t) c (List.replicate n (qa t)) []
 |0,l,r,h=>by simp only[Ni,OQ] at h;subst h;exact⟨[],rfl,rfl,rfl⟩
 |n+1,l,r,h=>by
  simp only[Ni] at h;cases h1:tX t l with
  |none=>simp[h1] at h
  |some q=>simp only[h1] at h;obtain⟨c1,e1,g1⟩:=FF (S:=S) (m:=m) h1;obtain⟨c2,e2,g2⟩:=Th n h;exact⟨c1++c2,by rw[e1,e2];simp,c1,c2,[],[],rfl,rfl,g1,g2⟩
theorem T5{T:TypeId}{dst:Nat}{K:ae→St→Option R}(h:sw E T dst st K=some r)(hm:az X st G w){cs:Array Value}(hz:∀ ti,E.iE T=some ti→cs.toList=ti.zero):
  ∃ av st' G',az X st' G' (w.alloc (.cells cs T))∧(∀ act,bO G st act→bO G' st' act)∧aO G' av (.pointer (some ⟨w.heap.size,0,none⟩))∧K av st' = some r:=by
 unfold sw at h;split at h
 ·rename_i ti hT ha
  split at h
  ·rename_i m e hd
   split at h
   ·rename_i t ht
    cases hc:(Nat.beq t.size 1&&!t.agg&&!st.dc true dst&&Z4 (Ni (tX t) ti.size ti.zero)) with
    |false=>rw[hc] at h;cases h
    |true=>
     rw[hc,aja] at h;have NJ:=hc;simp only[Q3,aOa] at NJ;obtain⟨⟨⟨h1,h2⟩,h3⟩,h4⟩:=NJ;have ZX:RepL (gh G.S false t) cs.toList (List.replicate ti.size (qa t)) []:=by
      cases hcz:Ni (tX t) ti.size ti.zero with
      |none=>rw[hcz] at h4;cases h4
      |some q=>
       cases q with
       |cons=>rw[hcz] at h4;cases h4
       |nil=>obtain⟨c,e1,g1⟩:=Th hE (S:=G.S) (m:=false) ti.size hcz;rw[bga] at e1;rw[hz ti hT,e1];exact g1
     obtain⟨G2,m2,r2,Gx,_⟩:=hm.NY (w':=w.alloc (.cells cs T)) (dst:=dst) (C:=[]) (A':=⟨t,.arr,false,List.replicate ti.size (qa t)⟩) (hd:=.pointer (some ⟨w.heap.size,0,none⟩)) (HH:=[(w.heap.size,.cells cs T)])
      (st':=st.gP dst ⟨t,.arr,false,List.replicate ti.size (qa t)⟩) (fun c hc=>by cases hc) rfl (.inr (.inr ⟨_,rfl⟩)) (fun G' e1 e2 e3=>⟨w.heap.size,cs,T,e2,e3,by rw[e1];exact ZX⟩) (by simp)
      (fun p hp=>by rw[Q7.1 hp];exact .inr (awa _)) (fun p hp=>by rw[Q7.1 hp];exact va w _)
      (fun b hb _=>iY w _ hb) (by rw[tr];omega) rfl rfl rfl ⟨rfl,fun _=>rfl,fun _=>rfl,fun o j l=>by simp,rfl,rfl,rfl⟩
      (fun q=>by rw[dI];by_cases e:dst=q<;>simp[e,cea (a:=q)]) ha h3
     exact⟨_,_,G2,m2,r2,Gx,h⟩
   ·cases h
  ·cases h
 ·cases h
end ops
end Go.Fx
namespace Go.Fx
theorem KX{S:DN}{m:Bool}:∀{cs:List Value} {l:List Int} {H:gj},RepL (gh S m (.int .u8)) cs l H→cs=l.map (Value.int .u8)
 |cs,[],H,h=>h.1
 |cs,x::l,H,⟨c1,c2,H1,H2,e1,e2,r,rl⟩=>by rw[e1,KX rl,show c1=[.int .u8 x] from r.1];rfl
theorem X5(l:List Int):l.foldl (fun r n=>r.push (UInt8.ofNat n.toNat)) ByteArray.empty=⟨(l.map fun n=>UInt8.ofNat n.toNat).toArray⟩:=by
 have key:∀(l:List Int) (s:ByteArray),(l.foldl (fun r n=>r.push (UInt8.ofNat n.toNat)) s)=⟨(s.data.toList++l.map fun n=>UInt8.ofNat n.toNat).toArray⟩:=fun l=>by
  induction l with
  |nil=>intro s;simp
  |cons n l ih=>intro s;rw[b5a,ih];simp[ByteArray.push]
 rw[key];simp
theorem QU{P:Program}{w:World}{S:DN}{b:Nat}{arr:Array Value}{elem:TypeId}{fz:Nat×Nat}{pre cells rest:List Value}{l:List Int}{m:Bool}{H:gj}(cap:Nat)
  (hb:w.heap[b]? = some (.cells arr elem fz)) (he:arr.toList=pre++(cells++rest)) (hr:RepL (gh S m (.int .u8)) cells l H):
  (Conv.bytesToString (.slice (some ⟨b,pre.length,none⟩) l.length cap)).run P w=.ok (kw (l.map fun n=>UInt8.ofNat n.toNat)) w:=by
 have hc:=KX hr;subst hc;have hl:=run_loadCells_list (P:=P) w ⟨b,pre.length,none⟩ (l.map (Value.int .u8)) (fun j v hv=>by
  rw[bYa];simp only[World.cell?,hb];have hj:j<l.length:=by have:=(aka.1 hv).1;simpa using this
  have:arr[pre.length+j]? = some v:=by
   rw[←bva,he,aTa (by omega),bca,aVa (by simpa using hj)]
   exact hv
  simp[this])
 rw[cya] at hl;rw[run_bytesToString w _ _ cap l (by simpa using hl),X5];rfl
theorem S8{P:Program}{w:World}{S:DN}(du:∀ b o,S b=some o→w.heap[b]? = some o){v:Value}{l:List Int}(h:Ca S (RepL (gh S false (.int .u8))) [v] l []):
  ∃ a n c,v=.slice a n c∧(Conv.bytesToString v).run P w=.ok (kw (l.map fun n=>UInt8.ofNat n.toNat)) w:=by
 rcases h with ⟨_,⟨rfl,iG,cap,hb⟩|⟨b,cap,arr,elem,fz,pre,cells,rest,e1,e2,e3,e4,e5⟩⟩
 ·simp only[aJa,a_a] at hb
  subst hb;refine⟨_,_,_,rfl,?_⟩;cases iG with
  |none=>simp[Conv.bytesToString,kw];rfl
  |some a=>
   have hl:=run_loadCells_list (P:=P) w a [] (by simp)
   rw[run_bytesToString w a 0 cap [] (by simpa using hl)]
   rfl
 ·simp only[aJa,a_a] at e1
  subst e1;exact⟨_,_,_,rfl,QU cap (du _ _ e2) e3 e4⟩
theorem XM{P:Program}{w:World}{S:DN}{m:Bool}{v:Value}{l:List Int}{H:gj}(hH:∀ p∈H,w.heap[p.1]? = some p.2)(h:kx (RepL (gh S m (.int .u8))) 1 [v] l H):
  ∃ a n c,v=.slice a n c∧(Conv.bytesToString v).run P w=.ok (kw (l.map fun n=>UInt8.ofNat n.toNat)) w:=by
 rcases h with ⟨rfl,rfl,hb⟩|⟨b,cap,arr,elem,cells,rest,H',e1,e2,e3,e4,e5,e6⟩
 ·simp only[aJa,a_a] at hb
  subst hb;exact⟨_,_,_,rfl,by simp[Conv.bytesToString,kw];rfl⟩
 ·simp only[aJa,a_a] at e1
  subst e1;subst e2;exact⟨_,_,_,rfl,QU (pre:=[]) cap (hH _ (ata ..)) (by simpa using e3) e6⟩
section ops
variable {P:Program} {E:tn} (hE:iO P E.iE) {X:mS} {st:St} {G:Gh} {w:World} {R:Type} {r:R}
include hE
theorem Jp{S D:TypeId}{x:ae}{vx:Value}{K:ae→St→Option R}(h:pW E S D x st K=some r)(hm:az X st G w)(hx:aO G x vx):
  ∃ av v,(convert S D vx).run P w=.ok v w∧aO G av v∧K av st=some r:=by
 unfold pW at h;cases hS:E.iE S with
 |none=>simp[hS] at h
 |some si=>
  cases hD:E.iE D with
  |none=>simp[hS,hD] at h
  |some di=>
   simp only[hS,hD] at h;obtain⟨d1,u1,t1⟩:=(hE S _ hS).vV;obtain⟨d2,u2,t2⟩:=(hE D _ hD).vV;split at h
   ·rename_i k k' n hd
    rw[hd] at t2;cases d2<;>simp[zv] at t2;subst t2;cases qy (v:=.one (.eZ (.int k') n)) rfl hx;refine⟨_,_,?_,kU k _,h⟩;cases d1<;>simp[convert,aEa u1,aEa u2,Conv.intToInt]
   ·rename_i s hs hd
    rw[hd] at t2;rw[hs] at t1;cases d2<;>simp[zv] at t2;cases d1<;>simp[zv] at t1;cases Dr (v:=.one (.eZ .str s)) rfl hx;exact⟨_,_,by simp[convert,aEa u1,aEa u2,kw],KM _,h⟩
   ·rename_i _ e lf hs hd
    rw[hd] at t2;rw[hs] at t1;cases d2<;>simp[zv] at t2;cases d1<;>simp[zv] at t1;subst t1;have se:∀{l':List Int} {s b:Nat} {y:Option Ty} {z:List Value},E.iE e=some ⟨s,b,y,.int .u8,z⟩→(∃ a n c,vx=.slice a n c∧(Conv.bytesToString vx).run P w=.ok (kw (l'.map fun n=>UInt8.ofNat n.toNat)) w)→
      K (.one (.eZ .str (l'.map fun n=>UInt8.ofNat n.toNat))) st=some r→∃ av v,(convert S D vx).run P w=.ok v w∧aO G av v∧K av st=some r:=fun {l' _ _ _ _} hT hb hK=>by
     obtain⟨d3,u3,t3⟩:=(hE _ _ hT).vV;cases d3<;>simp[zv] at t3;subst t3;obtain⟨a,n,c,rfl,iH⟩:=hb;exact⟨_,_,by rw[run_convert_bytes_string w S D e a n c u1 u3 u2];exact iH,KM _,hK⟩
    split at h
    ·rename_i l' hT
     obtain⟨cs,e1,e2⟩:=hx;simp only[Ty.agg,asa,Q9] at e1;subst e1;simp only[gh,asa,Q9] at e2;exact se hT (S8 hm.sh e2) h
    ·rename_i a hT
     cases hA:st.arr a with
     |none=>simp[hA] at h
     |some A=>
      simp only[hA] at h;cases hsw:(A.sh||A.gz) with
      |false=>simp[hsw] at h
      |true=>
      simp only[hsw,aja] at h;split at h
      ·rename_i l' hc
       obtain⟨ec,el⟩:=lT hc;have tH:=hm.ar a _ hA;have hv:vx=G.ψ a:=hx;rw[hv] at se ⊢;have hah:=hm.ah a _ hA;cases du:A.sh with
       |true=>
        replace tH:=(xV du).1 tH
        obtain⟨t,dp,sh,ll⟩:=A;simp only[Ty.slice.injEq] at ec;subst ec;simp only at el;subst el;exact se hT (S8 hm.sh tH) h
       |false=>
        replace tH:=(ia du (by simpa[du] using hsw)).1 tH
        replace hah:=hah du
        generalize A.bx=dp at tH;obtain⟨t,_,sh,ll⟩:=A;simp only[Ty.slice.injEq] at ec;subst ec;simp only at el;subst el;exact se hT (XM hah tH) h
      ·cases h
    ·cases h
   ·cases h
theorem MI{t:TypeId}{ts:List TypeId}{ty:TypeId}{v:Value}{vs:List Value}{s b:Nat}{y:Option Ty}{z:List Value}{e:TypeId}(hT:E.iE t=some ⟨s,b,y,.slice e,z⟩){a:Option Addr}{n c:Nat}(hv:v=.slice a n c):
  (Builtin.len_ (t::ts).toArray ty (v::vs).toArray).run P w=.ok (.int .i64 (n:Int)) w:=by
 have:=(hE _ _ hT).slice;subst hv;simp[Builtin.len_,aEa this];rfl
theorem Ua{x:ae}{n:Int}{v:Value}(h:lenOf st x.bP=some n)(hs:x.OM = none)(hm:az X st G w)(hx:aO G x v):∃ a m c,v=.slice a m c∧n=(m:Int):=by
 cases x with
 |one l=>
  cases l with
  |eZ t d=>
   cases t<;>simp[ae.bP,lenOf,ae.OM] at h hs;subst h;obtain⟨cs,e1,e2⟩:=hx;simp only[Ty.agg,asa,Q9] at e1;subst e1;simp only[gh,asa,Q9] at e2;rcases e2 with ⟨_,⟨rfl,iG,cap,hb⟩|⟨b,cap,arr,elem,fz,pre,cells,rest,e1,_⟩⟩
   ·simp only[aJa,a_a] at hb;exact⟨_,_,_,hb,by simp⟩
   ·simp only[aJa,a_a] at e1;exact⟨_,_,_,e1,rfl⟩
  |nil=>simp[ae.bP,lenOf] at h;subst h;exact⟨_,_,_,hx,rfl⟩
  |mT a=>
   simp only[ae.bP,lenOf] at h;cases hA:st.arr a with
   |none=>simp[hA] at h
   |some A=>
    cases hmp:A.Vn with
    |true=>simp[hA,hmp] at h
    |false=>
    simp only[hA,hmp,aqa,OQ] at h;subst h;have tH:=hm.ar a A hA;have hv:v=G.ψ a:=hx;cases hs:A.sh with
    |true=>
     rcases(xV hs).1 tH with ⟨_,⟨e0,iG,cap,hb⟩|⟨b,cap,arr,elem,fz,pre,cells,rest,e1,_⟩⟩
     ·simp only[aJa,a_a] at hb;exact⟨_,_,_,hv.trans hb,by rw[e0];simp⟩
     ·simp only[aJa,a_a] at e1;exact⟨_,_,_,hv.trans e1,rfl⟩
    |false=>
     rcases IE hs hmp tH with ⟨e0,hb⟩|⟨b,cap,e1⟩
     ·exact⟨_,_,_,hv.trans hb,by rw[e0];simp⟩
     ·exact⟨_,_,_,hv.trans e1,rfl⟩
  |_=>simp[ae.bP,lenOf] at h
 |_=>simp[ae.bP,lenOf] at h
omit hE in
theorem Ny{k:IntKind}:∀{vs:List ae} {us:List Value} {a n:Int},xD k (fun x y=>bif decide (y<x) then y else x) a vs=some n→All2 (aO G) vs us→
  (us.foldlM Builtin.min2 (.int k a)).run P w=.ok (.int k n) w
 |[],[],a,n,h,_=>by simp[xD] at h;subst h;simp
 |v::vs,u::us,a,n,h,hr=>by
  simp only[xD] at h;cases hv:v.F7 with
  |none=>simp[hv] at h
  |some p=>obtain⟨k',b⟩:=p;simp only[hv] at h;cases qy hv hr.1;have:=Ny h hr.2;rw[List.foldlM_cons,aMa];simp only[Builtin.min2,baa,aFa];rw[←this];by_cases hb:b<a<;>simp[hb]
omit hE in
theorem Nx{k:IntKind}:∀{vs:List ae} {us:List Value} {a n:Int},xD k (fun x y=>bif decide (y > x) then y else x) a vs=some n→All2 (aO G) vs us→
  (us.foldlM Builtin.max2 (.int k a)).run P w=.ok (.int k n) w
 |[],[],a,n,h,_=>by simp[xD] at h;subst h;simp
 |v::vs,u::us,a,n,h,hr=>by
  simp only[xD] at h;cases hv:v.F7 with
  |none=>simp[hv] at h
  |some p=>obtain⟨k',b⟩:=p;simp only[hv] at h;cases qy hv hr.1;have:=Nx h hr.2;rw[List.foldlM_cons,aMa];simp only[Builtin.max2,baa,aFa];rw[←this];by_cases hb:b > a<;>simp[hb]
theorem QG{a vr sz i off:Nat}{A:jS}{u:Value}{x:A.t.nH}{n:Int}(hm:az X st G w)(hr:aS G (.Ft a vr sz i off) u)(hA:st.arr a=some A)(hc:(A.sh||!Md.lG A.md .bx||!Nat.beq vr (st.dC a)||!Nat.beq sz A.t.size||!A.t.su)=false)
  (hx:bC A.l (i:Int)=some x) (hn:Dq A.t x off=some n):∃ b m c,u=.slice b m c∧n=(m:Int):=by
 obtain⟨r1,⟨xb,xn,xc,hus⟩,⟨b0,agk,Za,r3,r4⟩,r5⟩:=hr;simp only[aGa,boa] at hc;obtain⟨⟨⟨⟨du,vm⟩,hvr⟩,mX⟩,hna⟩:=hc;have vm:=RM vm;obtain rfl:=Q4 hvr;obtain rfl:=Q4 mX;have hi:A.l[i]? = some x:=by simpa[bC] using hx
 have tH:=(ia du (show A.gz=true by simp[jS.gz,vm])).1 (hm.ar a A hA)
 rw[show A.bx=true by simp[jS.bx,vm]] at tH
 rcases tH with ⟨e1,_⟩|⟨b',cap',arr,elem,cells,rest,H',e1,e2,e3,e4,e5,e6⟩
 ·rw[e1] at hi;simp at hi
 ·have hhd:=hm.hh a A hA du (by simp[jS.nest,vm])
  rw[e2] at hhd;obtain⟨pre,cc,post,Hp,Hc,Hq,k1,k2,k3,k4,k5⟩:=RepL.at (fun c x H hr=>gh.size hr) e6 hi;obtain⟨bb,kk,cc0,g1,g2⟩:=JF hE hna k4 hn;have bg:=(aka.1 g1).1;rw[←hm.hv,hhd] at r5;simp only[kF] at r5;rw[e3,k1,←k2,a3a,aTa (by omega),bca,a3a,aVa bg,g1] at r5
  simp only[OQ] at r5;exact⟨_,_,_,r5.symm,g2⟩
theorem Sh{b:Builtin}{dst:Nat}{ts:List TypeId}{ty:TypeId}{vs:List ae}{us:List Value}{cs:Array Bool}{K:ae→St→Option R}(h:nL E b dst ts vs st K=some r)(hm:az X st G w)(hv:All2 (aO G) vs us)(hw:∀ x∈vs,Hi st x):
  ∃ av v st' G' w',(builtin b ts.toArray ty cs us.toArray).run P w=.ok (.value v) w'∧az X st' G' w'∧(∀ act,bO G st act→bO G' st' act)∧aO G' av v∧K av st' = some r:=by
 unfold nL at h;split at h
 ·rename_i v
  obtain⟨u,rfl⟩:∃ u,us=[u]:=by
   cases us with
   |nil=>exact hv.elim
   |cons u us=>cases us with
    |nil=>exact⟨u,rfl⟩
    |cons _ _=>exact hv.2.elim
  cases ts with
  |nil=>simp at h
  |cons t ts=>
   simp only[bda,bza] at h;split at h
   ·rename_i hT
    split at h
    ·rename_i s hs
     cases Dr hs hv.1;have hu:=(hE _ _ hT).str;exact⟨_,_,st,G,w,by simp[builtin,Builtin.len_,aEa hu,kw,goInt];rfl,hm,fun _ h=>h,kU .i64 _,h⟩
    ·cases h
   ·rename_i hT
    split at h
    ·rename_i a vr sz i off hl
     have hr:=hv.1;rw[show v=.one (.Ft a vr sz i off) by cases v<;>simp[ae.bP] at hl;rw[hl]] at hr
     split at h
     ·rename_i A hA
      cases hc:(A.sh||!Md.lG A.md .bx||!Nat.beq vr (st.dC a)||!Nat.beq sz A.t.size||!A.t.su) with
      |true=>rw[hc] at h;cases h
      |false=>
       rw[hc,aqa] at h;obtain⟨x,hx,h⟩:=axa.1 h;split at h
       ·rename_i n hn
        obtain⟨b,m,c,hv',rfl⟩:=QG hE hm hr hA hc hx hn;exact⟨_,_,st,G,w,by simp only[builtin,aMa,MI hE hT hv',aFa,baa],hm,fun _ h=>h,kU .i64 _,h⟩
       ·cases h
     ·cases h
    ·split at h
     ·rename_i n hn hs
      obtain⟨a,m,c,hv',rfl⟩:=Ua hE hn hs hm hv.1;exact⟨_,_,st,G,w,by simp only[builtin,aMa,MI hE hT hv',aFa,baa],hm,fun _ h=>h,kU .i64 _,h⟩
     ·cases h
   ·cases h
 ·rename_i s x
  split at h
  ·rename_i t u
   cases htu:Nat.beq t u with
   |false=>simp[htu] at h
   |true=>
    simp only[htu,aja] at h;obtain rfl:=Q4 htu;cases us with
    |nil=>exact hv.elim
    |cons u1 us=>
     cases us with
     |nil=>exact hv.2.elim
     |cons u2 us=>
      cases us with
      |cons _ _=>exact hv.2.2.elim
      |nil=>
       obtain⟨av,v,st',G',w',h1,h2,h3,h4,h5⟩:=Sg hE (ty:=ty) h hm hv.1 hv.2.1 (hw _ (by simp)) (hw _ (by simp))
       exact⟨av,v,st',G',w',by simp only[builtin,aMa,h1,aFa,baa],h2,h3,h4,h5⟩
  ·cases h
 ·rename_i v vs
  cases us with
  |nil=>exact hv.elim
  |cons u us=>
   split at h
   ·rename_i k a hi
    split at h
    ·rename_i n hn
     cases qy hi hv.1;exact⟨_,_,st,G,w,by simp only[builtin,Builtin.min_,aMa,Ny hn hv.2,aFa,baa],hm,fun _ h=>h,kU _ _,h⟩
    ·cases h
   ·cases h
 ·rename_i v vs
  cases us with
  |nil=>exact hv.elim
  |cons u us=>
   split at h
   ·rename_i k a hi
    split at h
    ·rename_i n hn
     cases qy hi hv.1;exact⟨_,_,st,G,w,by simp only[builtin,Builtin.max_,aMa,Nx hn hv.2,aFa,baa],hm,fun _ h=>h,kU _ _,h⟩
    ·cases h
   ·cases h
 ·cases h
end ops
end Go.Fx
namespace Go.Fx
theorem VB{G:Gh}(v:Value):aO G (MD v) v:=by
 unfold MD;split
 ·exact kU _ _
 ·exact oJ _
 ·rename_i s
  have:kw s.data.toList=.string s:=by simp[kw]
  rw[←this];exact KM _
 ·rfl
 ·rfl
 ·trivial
def nG(gt:Nat→Option GA)(S:DN):Prop:=∀ g D,gt g=some D→∃ arr elem fz,S g=some (.cells arr elem fz)∧RepL (gh S false D.t) arr.toList D.l []
theorem nG.mono{gt:Nat→Option GA}{S S':DN}(h:nG gt S)(hS:∀ b o,S b=some o→S' b=some o):nG gt S':=fun g D hg=>by obtain⟨arr,elem,fz,h1,h3⟩:=h g D hg;exact⟨arr,elem,fz,hS _ _ h1,h3.EH hS⟩
theorem fB{E:tn}{G:Gh}{st:St}{act:Act}(hg:nG E.gt G.S)(hr:bO G st act)(o:Operand):aO G (ev E st o) (act.eval o):=by
 cases o with
 |tmp t=>
  simp only[ev,Act.eval];cases h:st.ir t with
  |none=>trivial
  |some v=>exact hr.2.2 t v h
 |const v=>exact VB v
 |global g=>
  simp only[ev,Act.eval];cases h:E.gt g with
  |none=>trivial
  |some D=>obtain⟨arr,elem,fz,h1,h3⟩:=hg g D h;exact⟨g,arr,elem,fz,arr.toList,[],h1,by simp,h3,rfl⟩
 |func f=>rfl
theorem Qc{E:tn}{st:St}(o:Operand):Hi st (ev E st o):=fun k y h=>by
 cases o with
 |tmp t=>
  simp only[ev];cases hr:st.ir t with
  |none=>rfl
  |some v=>exact BN h hr
 |const v=>simp only[ev,MD];split<;>rfl
 |global g=>simp only[ev];cases E.gt g<;>rfl
 |func f=>rfl
def Bc(P:Program)(gt:Nat→Option GA)(f:FuncId)(s:iF):Prop:=
 ∀{R:Type} {r:R} {X:mS} {st:St} {G:Gh} {w:World} {dst:Nat} {args:List ae} {vs:List Value} {K KP:ae→St→Option R},
  s.run dst args st K KP=some r→nG gt X.S0→az X st G w→(∃ act,bO G st act)→All2 (aO G) args vs→
  (callFunc f vs.toArray).run P w=.ok (.enter f vs.toArray) w∧Calls P f vs.toArray w fun e w'=>match e with
   |.returned v=>∃ av st' G',az X st' G' w'∧(∀ act,bO G st act→bO G' st' act)∧aO G' av v∧K av st' = some r
   |.panicked IM=>∃ v,IM=[{v,recovered:=false}]∧∃ av st' G',az X st' G' w'∧aO G' av v∧KP av st' = some r
   |.outgrown=>False
theorem Sa{E:tn}{G:Gh}{st:St}{act:Act}(hg:nG E.gt G.S)(hr:bO G st act):∀ l:List Operand,All2 (aO G) (l.map (ev E st)) (l.map act.eval)
 |[]=>trivial
 |x::l=>⟨fB hg hr x,Sa hg hr l⟩
theorem Jj{E:tn}{G:Gh}{st:St}{act:Act}(hg:nG E.gt G.S)(hr:bO G st act):∀ l:List (Nat×Operand),All2 (fun(p:Nat×ae) (q:Nat×Value)=>p.1=q.1∧aO G p.2 q.2) (l.map fun p=>(p.1,ev E st p.2)) (l.map fun p=>(p.1,act.eval p.2))
 |[]=>trivial
 |x::l=>⟨⟨rfl,fB hg hr x.2⟩,Jj hg hr l⟩
section ops
variable {P:Program} {E:tn} (hE:iO P E.iE) (hS:∀ f s,E.BU f=some s→Bc P E.gt f s) {X:mS} {st:St} {G:Gh} {w:World} {R:Type} {r:R}
include hE hS
set_option maxHeartbeats 2000000 in
theorem IS{o:Oper}{act:Act}{K KP:ae→St→Option R}(h:mr E o st K KP=some r)(zA:nG E.gt X.S0)(hm:az X st G w)(hr:bO G st act){next:Act→World→Prop}{Q:Exit→Act→World→Prop}
  (hK:∀ av v st' G' w',az X st' G' w'→bO G' st' act→aO G' av v→K av st' = some r→next (act.put o.dst v) w')
  (hP:∀ av v st' G' w',az X st' G' w'→aO G' av v→KP av st' = some r→Q (.panic [{v,recovered:=false}]) act w'):o.wp P act w next Q:=by
 have hg:nG E.gt G.S:=zA.mono hm.s0;have lA:∀{s:Sem Value},(∃ av v,s.run P w=.ok v w∧aO G av v∧K av st=some r)→(execOp act.eval o=do pure (.value (←s)))→o.wp P act w next Q:=fun {s} ⟨av,v,h1,h2,h3⟩ he=>by unfold Oper.wp;rw[he,aMa,h1];exact hK av v st G w hm hr h2 h3
 have full:∀{s:Sem Value},(∃ av v st' G' w',s.run P w=.ok v w'∧az X st' G' w'∧(∀ act,bO G st act→bO G' st' act)∧aO G' av v∧K av st' = some r)→(execOp act.eval o=do pure (.value (←s)))→o.wp P act w next Q:=
  fun {s} ⟨av,v,st',G',w',h1,h2,h3,h4,h5⟩ he=>by
  unfold Oper.wp;rw[he,aMa,h1];exact hK av v st' G' w' h2 (h3 _ hr) h4 h5
 unfold mr at h;split at h
 ·rename_i x ho
  exact lA (s:=pure (act.eval x)) ⟨_,_,rfl,fB hg hr x,h⟩ (by simp[execOp,ho])
 ·rename_i x ho
  exact lA (s:=pure (act.eval x)) ⟨_,_,rfl,fB hg hr x,h⟩ (by simp[execOp,ho])
 ·rename_i c a b ho
  cases hc:(ev E st c).Gm with
  |none=>simp[hc] at h
  |some b'=>
   simp only[hc] at h;have hb:=wJ hc (fB hg hr c);unfold Oper.wp;simp only[execOp,ho,hb];cases b' with
   |true=>simp only[aja] at h;exact hK _ _ st G w hm hr (fB hg hr a) h
   |false=>simp only[aqa] at h;exact hK _ _ st G w hm hr (fB hg hr b) h
 ·rename_i x ho
  have hx:=fB hg hr x;have key:(∃ a,act.eval x=.pointer (some a))→K (ev E st x) st=some r→o.wp P act w next Q:=fun⟨a,ha⟩ hk=>by unfold Oper.wp;simp only[execOp,ho,ha];exact hK _ _ st G w hm hr (by rw[←ha];exact hx) hk
  cases hv:ev E st x with
  |one l=>
   rw[hv] at h hx key;cases l with
   |lw ob off=>exact key ⟨_,hx⟩ (by simpa[ae.bP] using h)
   |Ei a sz i off=>obtain⟨b,len,cap,h1,h2,h3⟩:=hx;exact key ⟨_,h3⟩ (by simpa[ae.bP] using h)
   |PO t d off=>obtain⟨b,arr,elem,fz,pre,cs,post,h1,h2,h3,h4⟩:=hx;exact key ⟨_,h4⟩ (by simpa[ae.bP] using h)
   |_=>simp[ae.bP] at h
  |_=>rw[hv] at h;simp[ae.bP] at h
 ·rename_i T ho
  cases hdp:E.KY (IQ o.dst) with
  |true=>
   rw[hdp,aja] at h;have hT:∃ ti,E.iE T=some ti:=by
    cases hT:E.iE T with
    |none=>simp[sw,hT] at h
    |some ti=>exact⟨ti,rfl⟩
   obtain⟨ti,hT⟩:=hT;obtain⟨i,d,z,h1,h2,h3,h4,h5,h6,h7,h8,h9⟩:=hE T ti hT;obtain⟨av,st',G',m,rr,rv,hk⟩:=T5 hE (w:=w) (cs:=z.cells) h hm (fun ti' hT'=>by rw[hT] at hT';cases hT';exact h6)
   refine full (s:=Instr.alloc T true (.tuple #[])) ⟨av,_,st',G',_,?_,m,rr,rv,hk⟩ (by simp only[execOp,ho])
   simp[Instr.alloc,zeroValue,typeInfo,h1,h5,newVar,newRow]
  |false=>
  rw[hdp,aqa] at h;cases hT:E.iE T with
  |none=>simp[hT] at h
  |some ti=>
   simp only[hT] at h;obtain⟨i,d,z,h1,h2,h3,h4,h5,h6,h7,h8,h9⟩:=hE T ti hT;obtain⟨av,st',G',m,rr,rv,hk⟩:=Uc (w:=w) (cs:=z.cells) h hm (by rw[h6];exact SL ti.zero)
   refine full (s:=Instr.alloc T true (.tuple #[])) ⟨av,_,st',G',_,?_,m,rr,rv,hk⟩ (by simp only[execOp,ho])
   simp[Instr.alloc,zeroValue,typeInfo,h1,h5,newVar,newRow]
 ·rename_i T x ho
  cases hl:(ev E st x).p8 with
  |none=>simp[hl] at h
  |some ls=>
   simp only[hl] at h;obtain⟨av,st',G',m,rr,rv,hk⟩:=Uc (w:=w) (cs:=(act.eval x).cells) h hm (mQ hm hl (fB hg hr x));refine full (s:=Instr.box T (act.eval x)) ⟨av,_,st',G',_,?_,m,rr,rv,hk⟩ (by simp only[execOp,ho])
   simp[Instr.box,newVar,newRow]
 ·rename_i T iq ho
  refine lA (Oj hE h hm (Jj hg hr _)) ?_;have:(List.map (fun p=>(p.1,act.eval p.2)) iq.toList).toArray=iq.map fun(i,x)=>(i,act.eval x):=by rw[←bVa]
  rw[this];simp only[execOp,ho]
 ·rename_i T len iq ho
  have h':∃ av v st' G' w',(Instr.buildSlice T len ((iq.toList.map fun p=>(p.1,act.eval p.2)).toArray)).run P w=.ok v w'∧az X st' G' w'∧(∀ act,bO G st act→bO G' st' act)∧aO G' av v∧K av st' = some r:=by
   cases hd:E.KY (IQ o.dst) with
   |true=>rw[hd,aja] at h;exact KE hE h hm (Jj hg hr _)
   |false=>rw[hd,aqa] at h;exact Mc hE h hm (Jj hg hr _)
  refine full h' ?_;have:(List.map (fun p=>(p.1,act.eval p.2)) iq.toList).toArray=iq.map fun(i,x)=>(i,act.eval x):=by rw[←bVa]
  rw[this];simp only[execOp,ho]
 ·rename_i T x ho
  exact lA (KG hE h hm (fB hg hr x)) (by simp only[execOp,ho])
 ·rename_i T x v ho
  obtain⟨st',G',w',h1,h2,h3,h4⟩:=Ug hE h hm (fB hg hr x) (fB hg hr v) (Qc v);unfold Oper.wp;simp only[execOp,ho,aMa,h1,aFa];exact hK _ _ st' G' w' h2 (h3 _ hr) (show aO G' (.one .vV) undef from rfl) h4
 ·rename_i op T x y u ho
  exact lA (T6 hE h hm (fB hg hr x) (fB hg hr y)) (by simp only[execOp,ho];rfl)
 ·rename_i op T x ho
  exact lA (WX h (fB hg hr x)) (by simp only[execOp,ho])
 ·rename_i S D x ho
  exact lA (Jp hE h hm (fB hg hr x)) (by simp only[execOp,ho])
 ·rename_i T l c ho
  exact full (Oq hE h hm (fB hg hr l) (fB hg hr c)) (by simp only[execOp,ho])
 ·rename_i T x lo hi mx ho
  have opt:∀(q:Option Operand),(∀ a,q.map (ev E st)=some a→∃ v,q.map act.eval=some v∧aO G a v)∧(q.map (ev E st)=none→q.map act.eval=none):=fun q=>by
   cases q with
   |none=>simp
   |some x=>simp;exact fB hg hr x
  obtain⟨av,v,st',G',h1,h2,h3,h4,h5⟩:=Ov hE h hm (fB hg hr x) (opt lo).1 (opt lo).2 (opt hi).1 (opt hi).2 (opt mx).2;exact full ⟨av,v,st',G',w,h1,h2,h3,h4,h5⟩ (by simp only[execOp,ho])
 ·rename_i T x f ho
  exact lA (EP hE h (fB hg hr x)) (by simp only[execOp,ho])
 ·rename_i T x f ho
  cases ha:(ev E st x).isAgg with
  |false=>simp[ha] at h
  |true=>simp only[ha,aja] at h;exact lA (Om hE h hm (fB hg hr x) (Ey ha (fB hg hr x))) (by simp only[execOp,ho])
 ·rename_i T x i ho
  exact lA (EQ hE h hm (fB hg hr x) (fB hg hr i)) (by simp only[execOp,ho])
 ·rename_i T x i ho
  exact lA (On hE h (fB hg hr x) (fB hg hr i)) (by simp only[execOp,ho])
 ·rename_i x n ho
  have hx:=fB hg hr x;split at h
  ·rename_i vs hv
   rw[hv] at hx;obtain⟨us,hu,ha⟩:=hx;cases hn:vs[n]? with
   |none=>simp[hn] at h
   |some p=>
    simp only[hn] at h;obtain⟨u,hu2,hp⟩:=ha.vK hn;refine lA (s:=Instr.extract (act.eval x) n) ⟨_,u,by simp[Instr.extract,hu,hu2],?_,h⟩ (by simp only[execOp,ho])
    unfold ER;split at hp
    ·rename_i hc;simp only[hc,aja];exact hp
    ·rename_i hc
     obtain⟨l,e,hl⟩:=hp;simp only[bya] at hc;simp only[hc,aqa,e];exact hl
  ·cases h
 ·rename_i c ho
  split at h
  ·rename_i b hb
   have yE:=Sa hg hr c.args.toList;obtain⟨cs0,DJ⟩:∃ cs0,(execOp act.eval o).run P w=(builtin b c.argTypes o.type cs0 (c.args.map act.eval)).run P w:=
    ⟨_,by simp only[execOp,ho,resolve,hb,aMa,baa,aFa,invoke];rfl⟩
   obtain⟨av,v,st',G',w',h1,h2,h3,h4,h5⟩:=Sh hE (ty:=o.type) (cs:=cs0) h hm yE (fun x hx=>by obtain⟨y,_,rfl⟩:=a0a.1 hx;exact Qc y)
   have e1:(List.map act.eval c.args.toList).toArray=c.args.map act.eval:=by rw[←bVa]
   rw[e1] at h1;have e2:c.argTypes.toList.toArray=c.argTypes:=by simp
   rw[e2] at h1;unfold Oper.wp;rw[DJ,h1];exact hK _ _ st' G' w' h2 (h3 _ hr) h4 h5
  ·rename_i f hb
   cases hs:E.BU f with
   |none=>simp[hs] at h
   |some s=>
    simp only[hs] at h;obtain⟨h1,h2⟩:=hS f s hs h zA hm ⟨act,hr⟩ (Sa hg hr c.args.toList);have e1:(List.map act.eval c.args.toList).toArray=c.args.map act.eval:=by rw[←bVa]
    rw[e1] at h1 h2;unfold Oper.wp;simp only[execOp,ho,resolve,hb,aMa,baa,aFa,invoke,Act.eval,Deferred.ofValue,Array.append_empty,Array.empty_append,h1,Oper.upon];refine Calls.mono h2 fun e w'' he=>?_;cases e with
    |returned v=>obtain⟨av,st',G',g1,g2,g3,g4⟩:=he;exact hK _ _ st' G' _ g1 (g2 _ hr) g3 g4
    |panicked IM=>obtain⟨v,rfl,av,st',G',g1,g3,g4⟩:=he;exact hP _ _ st' G' _ g1 g3 g4
    |outgrown=>exact he.elim
  ·cases h
 ·rename_i T x ho
  cases hT:E.iE T with
  |none=>simp[hT] at h
  |some ti=>
   simp only[hT] at h;obtain⟨d,u1,u2⟩:=(hE T ti hT).vV;split at h
   ·cases h
   ·rename_i ls hl hd
    refine lA (s:=Instr.makeInterface T (act.eval x)) ⟨.AH T ls,.iface T (act.eval x),?_,⟨_,_,rfl,rfl,mQ hm hl (fB hg hr x)⟩,h⟩ (by simp only[execOp,ho])
    simp only[Instr.makeInterface,aMa,aEa u1,aFa];generalize ti.iQ=q at u2 hd;cases d with
    |interface _=>cases q<;>first|exact u2.elim|exact(hd rfl).elim
    |_=>rfl
   ·cases h
 ·rename_i x ho
  have hx:=fB hg hr x;split at h
  ·rename_i t ls hv
   rw[hv] at hx;obtain⟨u,cs,h1,h2,h3⟩:=hx;unfold Oper.wp;simp only[execOp,ho,h1,Instr.panic,goPanic,aMa];exact hP (.AH t ls) (.iface t u) st G w hm ⟨u,cs,rfl,h2,h3⟩ h
  ·cases h
 ·rename_i T ho
  exact full (Sj hE h hm) (by simp only[execOp,ho,Option.map_none])
 ·rename_i T x k ho
  exact lA (Ub hE h hm (fB hg hr x) (fB hg hr k)) (by simp only[execOp,ho])
 ·rename_i T x k v ho
  obtain⟨st',G',w',h1,h2,h3,h4⟩:=Ot hE h hm (fB hg hr x) (fB hg hr k) (fB hg hr v);unfold Oper.wp;simp only[execOp,ho,aMa,h1,aFa];exact hK _ _ st' G' w' h2 (h3 _ hr) (show aO G' (.one .vV) undef from rfl) h4
 ·cases h
end ops
end Go.Fx
namespace Go.Fx
structure Out where
 v:ae
 s:St
 ok:Bool
def oA(v:ae)(s:St):Option Out:=some ⟨v,s,true⟩
def PJ(v:ae)(s:St):Option Out:=some ⟨v,s,false⟩
def se{R:Type}(K KP:ae→St→Option R)(o:Out):Option R:=bif o.ok then K o.v o.s else KP o.v o.s
theorem de{α β:Type}{c:Bool}{a b:Option β}{a' b':Option α}{f:α→Option β}(h:a=a'.bind f)(k:b=b'.bind f):cond c a b=(cond c a' b').bind f:=by cases c<;>simpa
theorem fM{α β γ:Type}{x:Option γ}{g:γ→Option β}{g':γ→Option α}{f:α→Option β}(h:∀ y,g y=(g' y).bind f):x.bind g=(x.bind g').bind f:=by
 cases x with
 |none=>rfl
 |some y=>exact h y
def po(s:iF):Prop:=∀{R:Type} (dst:Nat) (args:List ae) (st:St) (K KP:ae→St→Option R),
 s.run dst args st K KP=(s.run dst args st oA PJ).bind (se K KP)
def agW(L:lK):Prop:=True
section
variable {E:tn} {R:Type} {st:St} {T:TypeId} {x y v:ae} {dst:Nat} {K KP:ae→St→Option R}
theorem VE:zd E T x st K=(zd E T x st oA).bind (se K KP):=by
 unfold zd
 repeat' (first|rfl|apply de|apply fM|intro _|split)
theorem Me{f:Nat}:nX E T x f st K=(nX E T x f st oA).bind (se K KP):=by
 unfold nX
 repeat' (first|rfl|apply de|apply fM|intro _|split)
theorem T8{f:Nat}:xN E T x f st K=(xN E T x f st oA).bind (se K KP):=by
 unfold xN
 repeat' (first|rfl|apply de|apply fM|intro _|split)
theorem Mf:mJ E T x y st K=(mJ E T x y st oA).bind (se K KP):=by
 unfold mJ
 repeat' (first|rfl|apply de|apply fM|intro _|split)
theorem T9:xO E T x y st K=(xO E T x y st oA).bind (se K KP):=by
 unfold xO
 repeat' (first|rfl|apply de|apply fM|intro _|split)
theorem Uh:xP E T x v st (fun st'=>K (.one .vV) st')=(xP E T x v st (fun st'=>oA (.one .vV) st')).bind (se K KP):=by
 unfold xP
 repeat' (first|rfl|apply de|apply fM|intro _|split)
theorem Ud{lo hi mx:Option ae}:uv E T dst x lo hi mx st K=(uv E T dst x lo hi mx st oA).bind (se K KP):=by
 unfold uv
 repeat' (first|rfl|apply de|apply fM|intro _|split)
theorem Yo{op:BinOp}:Lb E op T x y (fun v=>K v st)=(Lb E op T x y (fun v=>oA v st)).bind (se K KP):=by
 unfold Lb
 repeat' (first|rfl|apply de|apply fM|intro _|split)
theorem aaz{op:UnOp}:Ui op x (fun v=>K v st)=(Ui op x (fun v=>oA v st)).bind (se K KP):=by
 unfold Ui
 repeat' (first|rfl|apply de|apply fM|intro _|split)
theorem PB{S D:TypeId}:pW E S D x st K=(pW E S D x st oA).bind (se K KP):=by
 unfold pW
 repeat' (first|rfl|apply de|apply fM|intro _|split)
theorem T7{ps:List (Nat×ae)}:xM E T ps st K=(xM E T ps st oA).bind (se K KP):=by
 unfold xM
 repeat' (first|rfl|apply de|apply fM|intro _|split)
theorem KF{len:Nat}{ps:List (Nat×ae)}:mF E T dst len ps st K=(mF E T dst len ps st oA).bind (se K KP):=by
 unfold mF
 repeat' (first|rfl|apply de|apply fM|intro _|split)
theorem Mg:nY E T dst x y st K=(nY E T dst x y st oA).bind (se K KP):=by
 unfold nY
 repeat' (first|rfl|apply de|apply fM|intro _|split)
theorem QI{o:Nat}{ls:List ag}:GC E T o ls st K=(GC E T o ls st oA).bind (se K KP):=by
 unfold GC
 repeat' (first|rfl|apply de|apply fM|intro _|split)
theorem Jl:sx E T dst x y st K=(sx E T dst x y st oA).bind (se K KP):=by
 unfold sx
 repeat' (first|rfl|apply de|apply fM|intro _|split)
theorem Jm{len:Nat}{ps:List (Nat×ae)}:lc E T dst len ps st K=(lc E T dst len ps st oA).bind (se K KP):=by
 unfold lc
 repeat' (first|rfl|apply de|apply fM|intro _|split)
theorem Py{b:Nat}:rp E T dst x b st K=(rp E T dst x b st oA).bind (se K KP):=by
 unfold rp
 repeat' (first|rfl|apply de|apply fM|intro _|split)
theorem Js{α β:Type}{a i o:Nat}{K:St→Option β}{K':St→Option α}{f:α→Option β}(h:∀ s,K s=(K' s).bind f):Gc st a i o K=(Gc st a i o K').bind f:=by
 unfold Gc
 repeat' (first|rfl|exact h _|apply de|apply fM|intro _|split)
theorem Rg{α β:Type}{a sz i:Nat}{K:St→Option β}{K':St→Option α}{f:α→Option β}(h:∀ s,K s=(K' s).bind f):BY st a sz i K=(BY st a sz i K').bind f:=by unfold BY;exact de (h _) rfl
theorem Tj{α β:Type}{a o:Nat}{K:St→Option β}{K':St→Option α}{f:α→Option β}(h:∀ s,K s=(K' s).bind f):Bj st a o K=(Bj st a o K').bind f:=by
 unfold Bj
 repeat' (first|rfl|exact h _|apply de|apply fM|intro _|split)
theorem Pz:rq E T dst x y st K=(rq E T dst x y st oA).bind (se K KP):=by
 unfold rq;split
 ·exact Py
 ·split
  ·exact de (Js fun s=>Rg fun s=>Jl) rfl
  ·exact Jl
theorem Sl{a sz i off:Nat}{K:St→Option R}{K':St→Option Out}{f:Out→Option R}(h:∀ s,K s=(K' s).bind f):uw E T a sz i off v st K=(uw E T a sz i off v st K').bind f:=by
 unfold uw
 repeat' (first|rfl|exact Tj h|(apply Js)|(apply Rg)|apply de|apply fM|intro _|split)
theorem Sm{a k:Nat}{K:St→Option R}{K':St→Option Out}{f:Out→Option R}(h:∀ s,K s=(K' s).bind f):ux E T a k v st K=(ux E T a k v st K').bind f:=by
 unfold ux
 repeat' (first|rfl|exact h _|apply de|apply fM|intro _|split)
theorem Sn:uy E T x v st (fun st'=>K (.one .vV) st')=(uy E T x v st (fun st'=>oA (.one .vV) st')).bind (se K KP):=by
 unfold uy;split
 ·exact Sl fun s=>rfl
 ·split
  ·exact Sm fun s=>rfl
  ·exact Uh
theorem PA{b:Builtin}{ts:List TypeId}{vs:List ae}:nL E b dst ts vs st K=(nL E b dst ts vs st oA).bind (se K KP):=by
 unfold nL
 repeat' (first|rfl|exact Pz|apply de|apply fM|intro _|split)
theorem Se:sw E T dst st K=(sw E T dst st oA).bind (se K KP):=by
 unfold sw
 repeat' (first|rfl|apply de|apply fM|intro _|split)
theorem PD:ru E T dst st K=(ru E T dst st oA).bind (se K KP):=by
 unfold ru
 repeat' (first|rfl|apply de|apply fM|intro _|split)
theorem Si:uu E T x y st K=(uu E T x y st oA).bind (se K KP):=by
 unfold uu
 repeat' (first|rfl|apply de|apply fM|intro _|split)
theorem Mh:nZ E T x y v st K=(nZ E T x y v st oA).bind (se K KP):=by
 unfold nZ
 repeat' (first|rfl|apply de|apply fM|intro _|split)
theorem Qd(hS:∀ f s,E.BU f=some s→po s){o:Oper}:mr E o st K KP=(mr E o st oA PJ).bind (se K KP):=by
 unfold mr;split
 ·rfl
 ·rfl
 ·split
  ·exact de rfl rfl
  ·rfl
 ·split<;>rfl
 ·refine de Se ?_
  split
  ·exact QI
  ·rfl
 ·split
  ·exact QI
  ·rfl
 ·exact T7
 ·exact de Jm KF
 ·exact VE
 ·exact Sn
 ·exact Yo
 ·exact aaz
 ·exact PB
 ·exact Mg
 ·exact Ud
 ·exact Me
 ·exact de T8 rfl
 ·exact Mf
 ·exact T9
 ·split
  ·split
   ·rfl
   ·rfl
  ·rfl
 ·split
  ·exact PA
  ·split
   ·rename_i s hs;exact hS _ s hs _ _ _ _ _
   ·rfl
  ·rfl
 ·split
  ·split<;>rfl
  ·rfl
 ·split<;>rfl
 ·exact PD
 ·exact Si
 ·exact Mh
 ·rfl
end
def HZ(E:tn)(o:Oper)(st:St):Option Out:=mr E o st oA PJ
theorem Bk{E:tn}(hS:∀ f s,E.BU f=some s→po s){o:Oper}{st:St}{R:Type}{K KP:ae→St→Option R}{r:R}(h:mr E o st K KP=some r):
  ∃ u,HZ E o st=some u∧se K KP u=some r:=by
 rw[Qd hS] at h;exact axa.1 h
theorem Ci{E:tn}(hS:∀ f s,E.BU f=some s→po s){o:Oper}{st:St}{R:Type}{K KP:ae→St→Option R}{u:Out}(h:HZ E o st=some u):mr E o st K KP=se K KP u:=by rw[Qd hS];unfold HZ at h;rw[h];rfl
end Go.Fx
namespace Go.Fx
def kv(st s:St):Prop:=s.n=st.n∧s.js=st.js∧s.cF=st.cF∧(s.fQ,s.pin)=(st.fQ,st.pin)
theorem kv.refl(st:St):kv st st:=⟨rfl,rfl,rfl,rfl⟩
theorem kv.trans{a b c:St}(h:kv a b)(k:kv b c):kv a c:=⟨k.1.trans h.1,k.2.1.trans h.2.1,k.2.2.1.trans h.2.2.1,k.2.2.2.trans h.2.2.2⟩
def qf.aho(p:qf)(o j:Nat):Prop:=match p with | .o ob off n=>ob=o∧off≤j∧j<off+n|_=>False
structure qZ(W:List qf)(st s:St):Prop where
 iG:kv st s
 eB:s.eB=st.eB
 dN:∀ o ls,st.dN o=some ls→qf.k o∉W→qf.all∉W→∃ xK,s.dN o=some xK∧xK.length=ls.length∧∀ j,(∀ q∈W,¬ q.aho o j)→xK[j]? = ls[j]?
 arr:∀ a A,st.arr a=some A→qf.a a∉W→qf.all∉W→s.arr a=some A
 Fc:∀ a,qf.a a∉W→qf.all∉W→s.dC a=st.dC a
theorem qZ.refl(W:List qf)(st:St):qZ W st st:=⟨.refl _,rfl,fun o ls h _ _=>⟨ls,h,rfl,fun _ _=>rfl⟩,fun _ _ h _ _=>h,fun _ _ _=>rfl⟩
theorem qZ.any{st s:St}(h:kv st s)(hr:s.eB=st.eB):qZ [.all] st s:=
 ⟨h,hr,fun _ _ _ _ h=>absurd (Q7.2 rfl) h,fun _ _ _ _ h=>absurd (Q7.2 rfl) h,fun _ _ h=>absurd (Q7.2 rfl) h⟩
theorem qZ.trans{W:List qf}{a b c:St}(h:qZ W a b)(k:qZ W b c):qZ W a c:=
 ⟨h.iG.trans k.iG,k.eB.trans h.eB,fun o ls hl hk ha=>by
  obtain⟨l1,h1,h2,h3⟩:=h.dN o ls hl hk ha;obtain⟨l2,k1,k2,k3⟩:=k.dN o l1 h1 hk ha;exact⟨l2,k1,k2.trans h2,fun j hj=>(k3 j hj).trans (h3 j hj)⟩,fun x A hA hn ha=>k.arr x A (h.arr x A hA hn ha) hn ha,fun x hn ha=>(k.Fc x hn ha).trans (h.Fc x hn ha)⟩
theorem qZ.mono{W W':List qf}{a b:St}(h:qZ W a b)(hs:∀ q∈W,q∈W'):qZ W' a b:=
 ⟨h.iG,h.eB,fun o ls hl hk ha=>by
  obtain⟨l1,h1,h2,h3⟩:=h.dN o ls hl (fun hq=>hk (hs _ hq)) (fun hq=>ha (hs _ hq));exact⟨l1,h1,h2,fun j hj=>h3 j fun q hq=>hj q (hs q hq)⟩,fun x A hA hn ha=>h.arr x A hA (fun hq=>hn (hs _ hq)) (fun hq=>ha (hs _ hq)),fun x hn ha=>h.Fc x (fun hq=>hn (hs _ hq)) (fun hq=>ha (hs _ hq))⟩
theorem qZ.Vz{W:List qf}{st s:St}{o:Nat}{ls:List ag}(h:qZ W st s)(ho:s.dN o=none):qZ W st (s.qJ o ls):=
 h.trans ⟨⟨rfl,rfl,rfl,rfl⟩,rfl,fun q l hl _ _=>⟨l,by rw[kT,aza (fun e=>by subst e;rw[ho] at hl;cases hl)];exact hl,rfl,fun _ _=>rfl⟩,fun a A hA _ _=>hA,fun _ _ _=>rfl⟩
theorem qZ.AK{W:List qf}{st s:St}{a:Nat}{A:jS}(h:qZ W st s)(ha:s.arr a=none):qZ W st (s.gP a A):=
 h.trans ⟨⟨rfl,rfl,rfl,rfl⟩,rfl,fun q l hl _ _=>⟨l,hl,rfl,fun _ _=>rfl⟩,fun x B hB _ _=>by rw[dI,aza (fun e=>by subst e;rw[ha] at hB;cases hB)];exact hB,fun _ _ _=>rfl⟩
theorem qZ.gP{W:List qf}{st s:St}{a:Nat}{A:jS}(h:qZ W st s)(ha:qf.a a∈W):qZ W st (s.gP a A):=
 h.trans ⟨⟨rfl,rfl,rfl,rfl⟩,rfl,fun q l hl _ _=>⟨l,hl,rfl,fun _ _=>rfl⟩,fun x B hB hn _=>by rw[dI,aza (fun e=>by subst e;exact hn ha)];exact hB,fun _ _ _=>rfl⟩
theorem qZ.OD{W:List qf}{st s:St}{a dst:Nat}{A:jS}(h:qZ W st s)(ha:qf.a a∈W)(hd:s.arr dst=none):qZ W st {s with cO:=(dst,A)::Gr s.cO a}:=
 h.trans ⟨⟨rfl,rfl,rfl,rfl⟩,rfl,fun q l hl _ _=>⟨l,hl,rfl,fun _ _=>rfl⟩,fun x B hB hn _=>by
  have e1:x≠a:=fun e=>by subst e;exact hn ha
  have e2:x≠dst:=fun e=>by subst e;rw[hd] at hB;cases hB
  simp only[St.arr,aq,qC,aza (bBa e1),aza (bBa e2)];exact hB,fun _ _ _=>rfl⟩
theorem aR{α:Type}{c:Bool}{a a' b b':α}(h:a=a')(k:b=b'):cond c a b=cond c a' b':=by rw[h,k]
theorem vf{α:Type}{c:Bool}{a a' b b':α}(h:c=true→a=a')(k:c=false→b=b'):cond c a b=cond c a' b':=by
 cases c
 ·exact k rfl
 ·exact h rfl
theorem dW{α β:Type}{x:Option α}{f g:α→Option β}(h:∀ y,f y=g y):x.bind f=x.bind g:=by rw[funext h]
section
variable {E:tn} {R:Type} {st:St} {T:TypeId} {x y v:ae} {dst:Nat}
theorem Lc{K K':ae→St→Option R}(h:∀ v,K v st=K' v st):zd E T x st K=zd E T x st K':=by
 unfold zd
 repeat' (first|rfl|exact h _|apply aR|apply dW|intro _|split)
theorem BP{f:Nat}{K K':ae→St→Option R}(h:∀ v,K v st=K' v st):nX E T x f st K=nX E T x f st K':=by
 unfold nX
 repeat' (first|rfl|exact h _|apply aR|apply dW|intro _|split)
theorem Jq{f:Nat}{K K':ae→St→Option R}(h:∀ v,K v st=K' v st):xN E T x f st K=xN E T x f st K':=by
 unfold xN
 repeat' (first|rfl|exact h _|apply aR|apply dW|intro _|split)
theorem BQ{K K':ae→St→Option R}(h:∀ v,K v st=K' v st):mJ E T x y st K=mJ E T x y st K':=by
 unfold mJ
 repeat' (first|rfl|exact h _|apply aR|apply dW|intro _|split)
theorem Jr{K K':ae→St→Option R}(h:∀ v,K v st=K' v st):xO E T x y st K=xO E T x y st K':=by
 unfold xO
 repeat' (first|rfl|exact h _|apply aR|apply dW|intro _|split)
theorem Qp{a:Nat}:∀{ls:List ag},ag.mT a∈ls→qf.a a∈fO ls
 |l::r,h=>by
  rcases ama.1 h with rfl|h
  ·exact ata ..
  ·have:=Qp h
   cases l<;>first|exact this|exact Q8 _ this
theorem H8{l:ag}{s:St}(h:st.zk l=some s):qZ (fO [l]) st s:=by
 unfold St.zk at h;split at h
 ·split at h
  ·rename_i A _
   cases hs:A.sh with
   |true=>simp only[hs,aja,OQ] at h;subst h;exact .refl _ _
   |false=>
    cases hw:A.gz with
    |false=>simp[hs,hw] at h
    |true=>simp only[hs,hw,aqa,aja,OQ] at h;subst h;exact(qZ.refl _ _).gP (by simp[fO])
  ·split at h
   ·rename_i A _
    cases hs:A.sh<;>simp[hs] at h;subst h;exact .refl _ _
   ·cases h
 ·cases h;exact .refl _ _
theorem Vi{l:ag}{ls:List ag}:fO (l::ls)=fO [l]++fO ls:=by cases l<;>rfl
theorem zm:∀{ls:List ag} {st s:St},st.vF ls=some s→qZ (fO ls) st s
 |[],st,s,h=>by cases h;exact .refl _ _
 |l::r,st,s,h=>by
  simp only[St.vF] at h;split at h
  ·rename_i q hq
   rw[Vi];exact((H8 hq).mono fun q hq=>aya _ hq).trans ((zm h).mono fun q hq=>ara _ hq)
  ·cases h
theorem vG{s:St}(h:v.qL st=some s):qZ v.uf st s:=by
 unfold ae.qL at h;split at h
 ·exact H8 h
 ·exact zm h
 ·cases h
 ·exact zm h
theorem adA{l:ag}{s:St}(h:st.zk l=some s):kv st s:=(H8 h).iG
theorem adB{ls:List ag}{st s:St}(h:st.vF ls=some s):kv st s:=(zm h).iG
theorem Lk{s:St}(h:v.qL st=some s):kv st s:=(vG h).iG
theorem E7{t:Ty}:∀{ps:List (Nat×ae)} {i:Nat} {st s:St} {l:List t.nH},ni t i ps st=some (l,s)→qZ (nE (ps.map (·.2))) st s
 |[],i,st,s,l,h=>by simp only[ni,OQ,ala] at h;obtain⟨_,rfl⟩:=h;exact .refl _ _
 |(j,v)::r,i,st,s,l,h=>by
  simp only[ni] at h;cases hb:Nat.beq i j with
  |false=>simp[hb] at h
  |true=>
   simp only[hb,aja] at h;split at h
   ·rename_i q hq
    split at h
    ·split at h
     ·rename_i l' s' hp
      simp only[OQ,ala] at h;obtain⟨_,rfl⟩:=h;exact((vG hq).mono fun q hq=>aya _ hq).trans ((E7 hp).mono fun q hq=>ara _ hq)
     ·cases h
    ·cases h
   ·cases h
theorem Et{v:ae}{ls:List ag}(h:v.p8=some ls):∀ q∈fO ls,q∈v.uf:=by
 have ex:∀(t:Ty) (d:t.nH),fO (jZ t d)=[]:=by
  have bD:∀ l m:List ag,fO (l++m)=fO l++fO m:=by
   intro l m;induction l with
   |nil=>rfl
   |cons x l ih=>cases x<;>simp[fO,ih]
  intro t;induction t with
  |da a b NV ihb=>intro d;simp only[jZ,bD,NV,ihb];rfl
  |one a ih=>intro d;exact ih d
  |arr n t ih=>
   intro d;simp only[jZ];induction (show List t.nH from d) with
   |nil=>rfl
   |cons x l ihl=>rw[bSa,bD,ih,ihl];rfl
  |_=>intro d;rfl
 unfold ae.p8 at h;split at h
 ·simp only[OQ] at h;subst h;simp[ex]
 ·simp only[OQ] at h;subst h;simp[ex]
 ·simp only[OQ] at h;subst h;simp[ex]
 ·rename_i l _ _ _
  cases hc:l.cell<;>simp[hc] at h;subst h;exact fun q hq=>hq
 ·simp only[OQ] at h;subst h;exact fun q hq=>hq
 ·cases h
theorem Yt{α:Type}{l v:List α}{off:Nat}(h:off+v.length≤l.length){j:Nat}(hj:¬ (off≤j∧j<off+v.length)):(mK l off v)[j]? = l[j]?:=by
 unfold mK;by_cases h1:j<off
 ·rw[aVa (by simp;omega),bqa h1]
 ·rw[aTa (by simp;omega),aTa (by simp;omega),bNa]
  congr 1
  simp only[cOa];omega
theorem Sv{α:Type}{l v:List α}{off:Nat}(h:off+v.length≤l.length):(mK l off v).length=l.length:=by unfold mK;simp;omega
theorem So{K K':St→Option R}(h:∀ s,qZ (match x.bP with | .lw ob off=>[.o ob off (xS E T)] | .Ei a _ _ _=>.a a::v.uf|_=>[]) st s→K s=K' s):xP E T x v st K=xP E T x v st K':=by
 unfold xP;split
 ·rename_i ti vs hT hv
  cases hc:(Nat.beq vs.length ti.size&&vs.all ag.cell) with
  |false=>rfl
  |true=>
   simp only[aja];simp only[Q3] at hc;have jy:=Q4 hc.1;split
   ·rename_i ob off hx
    rw[hx] at h;split
    ·rename_i ls ho
     split
     ·rename_i c hs
      refine aR rfl (h _ ⟨⟨rfl,rfl,rfl,rfl⟩,rfl,fun o l hl _ _=>?_,fun a A hA _ _=>hA,fun _ _ _=>rfl⟩);have xF:off+vs.length≤ls.length:=by
       unfold qM at hs;cases hb:Nat.ble (off+ti.size) ls.length with
       |false=>simp[hb] at hs
       |true=>rw[jy];exact aZa hb
      by_cases e:ob=o
      ·subst e
       rw[ho] at hl;cases hl;refine⟨mK ls off vs,by rw[kT,a7a rfl],Sv xF,fun j hj=>Yt xF fun hh=>hj _ (Q7.2 rfl) ⟨rfl,hh.1,?_⟩⟩
       rw[show xS E T=vs.length by simp only[xS,hT];exact jy.symm];exact hh.2
      ·exact⟨l,by rw[kT,aza e];exact hl,rfl,fun _ _=>rfl⟩
     ·rfl
    ·rfl
   ·rename_i a sz i off hx
    rw[hx] at h;split
    ·rfl
    ·rename_i st' hs
     split
     ·refine aR rfl (dW fun d=>aR ?_ rfl)
      split
      ·exact h _ (((zm hs).mono fun q hq=>Q8 _ (Et hv q hq)).gP (ata ..))
      ·rfl
     ·rfl
   ·rfl
 ·rfl
theorem Sk{lo hi mx:Option ae}{K K':ae→St→Option R}(h:∀ v s,qZ (fO [x.bP]) st s→K v s=K' v s):uv E T dst x lo hi mx st K=uv E T dst x lo hi mx st K':=by
 unfold uv
 repeat' (first|rfl|exact h _ _ (.refl _ _)|apply vf|apply dW|intro _|split)
 all_goals
  rename_i hc _;refine h _ _ ((qZ.refl _ _).OD (by rw[‹x.bP=ag.mT _›];simp[fO]) ?_)
  simp only[aGa] at hc;simpa using hc.1.1.2
theorem Oi{op:BinOp}{K K':ae→Option R}(h:∀ v,K v=K' v):Lb E op T x y K=Lb E op T x y K':=by rw[funext h]
theorem QK{op:UnOp}{K K':ae→Option R}(h:∀ v,K v=K' v):Ui op x K=Ui op x K':=by rw[funext h]
theorem EO{S D:TypeId}{K K':ae→St→Option R}(h:∀ v,K v st=K' v st):pW E S D x st K=pW E S D x st K':=by
 unfold pW
 repeat' (first|rfl|exact h _|apply aR|apply dW|intro _|split)
theorem Jo{ps:List (Nat×ae)}{K K':ae→St→Option R}(h:∀ v,K v st=K' v st):xM E T ps st K=xM E T ps st K':=by
 unfold xM
 repeat' (first|rfl|exact h _|apply aR|apply dW|intro _|split)
theorem Jn{len:Nat}{ps:List (Nat×ae)}{K K':ae→St→Option R}(h:∀ v s,qZ (nE (ps.map (·.2))) st s→K v s=K' v s):mF E T dst len ps st K=mF E T dst len ps st K':=by
 unfold mF
 repeat' (first|rfl|exact h _ _ ((E7 ‹ni _ _ _ _=some _›).AK ‹St.arr _ _=none›)|apply aR|apply dW|intro _|split)
theorem KH{K K':ae→St→Option R}(h:∀ v s,qZ [] st s→K v s=K' v s):nY E T dst x y st K=nY E T dst x y st K':=by
 unfold nY
 repeat' (first|rfl|exact h _ _ ((qZ.refl _ _).AK ‹St.arr _ _=none›)|apply aR|apply dW|intro _|split)
theorem Ou{o:Nat}{ls:List ag}{K K':ae→St→Option R}(h:∀ v s,qZ [] st s→K v s=K' v s):GC E T o ls st K=GC E T o ls st K':=by
 unfold GC
 repeat' (first|rfl|exact h _ _ ((qZ.refl _ _).Vz ‹St.dN _ _=none›)|apply aR|apply dW|intro _|split)
theorem GB{K K':ae→St→Option R}(h:∀ v s,qZ (nE [x,y]) st s→K v s=K' v s):sx E T dst x y st K=sx E T dst x y st K':=by
 unfold sx
 repeat' (first|rfl|(have hb:=vG ‹ae.qL _ _=some _›;exact h _ _ ((hb.mono fun q hq=>by simp[nE,hq]).AK ‹St.arr _ _=none›))|apply aR|apply dW|intro _|split)
 all_goals
  have hb:=vG ‹ae.qL _ _=some _›;refine h _ _ ((hb.mono fun q hq=>by simp[nE,hq]).OD ?_ ‹St.arr _ _=none›)
  have hx:=‹x.bP=ag.mT _›;cases x<;>simp[ae.bP] at hx;subst hx;simp[nE,ae.uf,fO]
theorem Yr{u:Ty}{l:ag}{d:List u.nH}{c:List Nat}(h:Ul st u l=some (d,c)):∀ q∈c,l=.mT q:=by
 unfold Ul at h;split at h
 ·simp only[OQ,ala] at h;obtain⟨_,rfl⟩:=h;intro q hq;cases hq
 ·split at h
  ·rename_i A _
   cases hc:(A.sh||!A.md.lG (Sb u)||eV _ st.pin ||(look st.fQ _).isSome) with
   |true=>rw[hc] at h;cases h
   |false=>
    rw[hc,aqa] at h;split at h
    ·simp only[OQ,ala] at h;obtain⟨_,rfl⟩:=h;intro q hq;rw[Q7.1 hq]
    ·cases h
  ·cases h
 ·cases h
theorem aaE:∀{t:Ty} {ls r:List ag} {d:t.nH} {c:List Nat},H0 st t ls=some (d,r,c)→(∀ q∈c,ag.mT q∈ls)∧∀ l∈r,l∈ls:=by
 have bP:∀{t:Ty} {ls r:List ag} {d:t.nH} {c:List Nat},(match ls with|[]=>none|l::r=>(l.vK st t).map fun d=>(d,r,([]:List Nat)))=some (d,r,c)→(∀ q∈c,ag.mT q∈ls)∧∀ l∈r,l∈ls:=by
  intro t ls r d c h
  match ls,h with
  |l::ls,h=>simp only[aKa,ala] at h;obtain⟨_,_,_,rfl,rfl⟩:=h;exact⟨fun q hq=>(by cases hq),fun l hl=>Q8 _ hl⟩
 intro t;induction t with
 |int k=>exact fun h=>bP h
 |bool=>exact fun h=>bP h
 |str=>exact fun h=>bP h
 |slice u _=>
  intro ls r d c h
  match ls,h with
  |[],h=>simp[H0] at h
  |l::ls,h=>simp only[H0,aKa,ala] at h;obtain⟨⟨d',c'⟩,hd,_,rfl,rfl⟩:=h;exact⟨fun q hq=>(by rw[←Yr hd q hq];exact ata ..),fun l hl=>Q8 _ hl⟩
 |da a b NV ihb=>
  intro ls r d c h;simp only[H0] at h;split at h
  ·rename_i x r1 cc h1
   split at h
   ·rename_i y r2 cc2 h2
    simp only[OQ,ala] at h;obtain⟨_,rfl,rfl⟩:=h;obtain⟨p1,p2⟩:=NV h1;obtain⟨p3,p4⟩:=ihb h2;refine⟨fun q hq=>?_,fun l hl=>p2 l (p4 l hl)⟩;rcases aoa.1 hq with hq|hq
    ·exact p1 q hq
    ·exact p2 _ (p3 q hq)
   ·cases h
  ·cases h
 |one a ih=>exact fun h=>ih h
 |arr n t _=>intro ls r d c h;cases h
theorem Jt{t:Ty}:∀{ps:List (Nat×ae)} {i:Nat} {l:List t.nH} {c:List Nat},uA t i ps st=some (l,c)→∀ q∈c,qf.a q∈nE (ps.map (·.2))
 |[],i,l,c,h=>by simp only[uA,OQ,ala] at h;obtain⟨_,rfl⟩:=h;intro q hq;cases hq
 |(j,v)::ps,i,l,c,h=>by
  simp only[uA] at h;cases hb:Nat.beq i j with
  |false=>rw[hb] at h;cases h
  |true=>
   rw[hb,aja] at h;split at h
   ·rename_i ls hl
    split at h
    ·rename_i d c0 hT
     split at h
     ·rename_i l' c' hr
      simp only[OQ,ala] at h;obtain⟨_,rfl⟩:=h;intro q hq;simp only[aHa,nE];rcases aoa.1 hq with hq|hq
      ·exact aya _ (Et hl _ (Qp ((aaE hT).1 q hq)))
      ·exact ara _ (Jt hr q hq)
     ·cases h
    ·cases h
   ·cases h
theorem qZ.uj{W:List qf}{C:List Nat}{A:jS}(hC:∀ c∈C,qf.a c∈W)(hd:st.arr dst=none):qZ W st {st with cO:=(dst,A)::lm C st.cO}:=
 ⟨⟨rfl,rfl,rfl,rfl⟩,rfl,fun q l hl _ _=>⟨l,hl,rfl,fun _ _=>rfl⟩,fun x B hB hn _=>by
  have e1:x∉C:=fun e=>hn (hC x e);have e2:x≠dst:=fun e=>by subst e;rw[hd] at hB;cases hB
  simp only[St.arr,aq,zP,aza (bBa e2),aza e1];exact hB,fun _ _ _=>rfl⟩
theorem HX{len:Nat}{ps:List (Nat×ae)}{K K':ae→St→Option R}(h:∀ v s,qZ (nE (ps.map (·.2))) st s→K v s=K' v s):lc E T dst len ps st K=lc E T dst len ps st K':=by
 unfold lc
 repeat' (first|rfl|exact h _ _ (qZ.uj (Jt ‹uA _ _ _ _=some _›) ‹St.arr _ _=none›)|apply aR|apply dW|intro _|split)
theorem Og{b:Nat}{K K':ae→St→Option R}(hy:y.bP=.mT b)(h:∀ v s,qZ (nE [x,y]) st s→K v s=K' v s):rp E T dst x b st K=rp E T dst x b st K':=by
 have hb:qf.a b∈nE [x,y]:=by cases y<;>simp[ae.bP] at hy;subst hy;simp[nE,ae.uf,fO]
 unfold rp
 repeat' (first|rfl|exact h _ _ (qZ.uj (fun c hc=>by rw[Q7.1 hc];exact hb) ‹St.arr _ _=none›)|apply aR|apply dW|intro _|split)
 all_goals
  refine h _ _ (qZ.uj (fun c hc=>?_) ‹St.arr _ _=none›);simp only[ama,bUa,bDa] at hc;rcases hc with rfl|rfl
  ·have hx:=‹x.bP=ag.mT _›
   cases x<;>simp[ae.bP] at hx;subst hx;simp[nE,ae.uf,fO]
  ·exact hb
theorem KJ{a i o:Nat}{K K':St→Option R}(h:∀ s,kv st s→s.eB=st.eB→K s=K' s):Gc st a i o K=Gc st a i o K':=by
 unfold Gc
 repeat' (first|rfl|exact h _ ⟨rfl,rfl,rfl,rfl⟩ rfl|apply aR|apply dW|intro _|split)
theorem V3{a sz i:Nat}{K K':St→Option R}(h:∀ s,kv st s→s.eB=st.eB→K s=K' s):BY st a sz i K=BY st a sz i K':=by unfold BY;exact aR (h _ ⟨rfl,rfl,rfl,rfl⟩ rfl) rfl
theorem Ka{a o:Nat}{K K':St→Option R}(h:∀ s,kv st s→s.eB=st.eB→K s=K' s):Bj st a o K=Bj st a o K':=by
 unfold Bj
 repeat' (first|rfl|exact h _ ⟨rfl,rfl,rfl,rfl⟩ rfl|apply aR|apply dW|intro _|split)
theorem PE{a sz i off:Nat}{K K':St→Option R}(h:∀ s,kv st s→s.eB=st.eB→K s=K' s):uw E T a sz i off v st K=uw E T a sz i off v st K':=by
 unfold uw;split
 ·refine aR ?_ rfl
  split
  ·refine KJ fun s1 b1 r1=>V3 fun s2 b2 r2=>aR ?_ rfl
   split
   ·split
    ·refine aR rfl (Ka fun s b r=>h s (b1.trans (b2.trans (kv.trans ⟨rfl,rfl,rfl,rfl⟩ b))) (r.trans (r2.trans r1)))
    ·rfl
   ·rfl
  ·refine aR ?_ rfl
   split
   ·split
    ·refine aR rfl (Ka fun s b r=>h s (kv.trans ⟨rfl,rfl,rfl,rfl⟩ b) r)
    ·rfl
   ·rfl
  ·rfl
 ·rfl
theorem Px{K K':ae→St→Option R}(h:∀ v s,qZ [] st s→K v s=K' v s):sw E T dst st K=sw E T dst st K':=by
 unfold sw
 repeat' (first|rfl|exact h _ _ ((qZ.refl _ _).AK ‹St.arr _ _=none›)|apply aR|apply dW|intro _|split)
theorem PF{a k:Nat}{K K':St→Option R}(h:∀ s,qZ [.a a] st s→K s=K' s):ux E T a k v st K=ux E T a k v st K':=by
 unfold ux
 repeat' (first|rfl|exact h _ ((qZ.refl _ _).gP (Q7.2 rfl))|apply aR|apply dW|intro _|split)
theorem PG{K K':St→Option R}(h:∀ s,qZ (match WU st x with|some _=>[.all]|none=>match x.bP with | .lw ob off=>[.o ob off (xS E T)] | .Ei a _ _ _=>.a a::v.uf | .Mo a _ _=>[.a a]|_=>[]) st s→K s=K' s):uy E T x v st K=uy E T x v st K':=by
 unfold uy;split
 ·rename_i hn;rw[hn] at h;exact PE fun s b r=>h s (qZ.any b r)
 ·rename_i hn
  rw[hn] at h;split
  ·rename_i a k ha
   unfold adN at ha;split at ha
   ·rename_i a' k' n' hl
    cases ha;rw[hl] at h;exact PF h
   ·cases ha
  ·refine So fun s hs=>h s (hs.mono fun q hq=>?_)
   split at hq
   ·rename_i hx;simpa only[hx] using hq
   ·rename_i hx;simpa only[hx] using hq
   ·cases hq
theorem PH{a sz i o:Nat}{W:List qf}{K K':St→Option R}(ha:qf.a a∈W)(hk:∀ p∈st.ci,p.2.any (ag.Od a)=true→qf.k p.1∈W)(h:∀ s,qZ W st s→K s=K' s):
  Gc st a i o (fun s1=>BY s1 a sz i K)=Gc st a i o (fun s1=>BY s1 a sz i K'):=by
 unfold Gc;cases hA:look st.cO a with
 |none=>rfl
 |some A=>
  simp only;split
  ·rename_i vm
   refine vf (fun _=>rfl) (fun hc=>dW fun x=>vf (fun xd=>?_) (fun _=>rfl));unfold BY;refine aR (h _ ?_) rfl;simp only[aGa] at hc;have Pp:st.dN o=none:=by simpa using hc.1.1.2
   simp only[Q3,ana] at xd;refine⟨⟨rfl,rfl,rfl,rfl⟩,rfl,fun q ls hq hkq _=>⟨ls,?_,rfl,fun _ _=>rfl⟩,fun q B hB hn _=>?_,fun _ _ _=>rfl⟩
   ·have hoq:o≠q:=fun e=>by rw[e,hq] at Pp;cases Pp
    have wN:ls.any (ag.Od a)=false:=by
     cases hm:ls.any (ag.Od a) with
     |false=>rfl
     |true=>exact absurd (hk (q,ls) (dX hq) hm) hkq
    have key:∀{v:Nat} {ls:List ag},ls.any (ag.Od a)=false→ls.map (qQ a v sz)=ls:=by
     intro v ls;induction ls with
     |nil=>intro _;rfl
     |cons l r ih=>
      intro hm;simp only[cKa,aGa] at hm;rw[aHa,ih hm.2]
      congr 1
      cases l with
      |Ft a' v' sz' i' off=>
       have:Nat.beq a' a=false:=by simpa[ag.Od] using hm.1
       simp[qQ,this]
      |_=>rfl
    have agm:∀(v:Nat) (l:List (Nat×List ag)),look (l.map fun p=>(p.1,p.2.map (qQ a v sz))) q=(look l q).map (·.map (qQ a v sz)):=by
     intro v l;induction l with
     |nil=>rfl
     |cons p r ih=>
      obtain⟨k,m⟩:=p;rw[aHa,aq,aq];by_cases e:k=q
      ·simp[e]
      ·simp only[e,Q9];exact ih
    simp only[St.dN,agm,zR (show q∉([]:List Nat) by simp),aq,aza hoq]
    have I3:look st.ci q=some ls:=hq;rw[I3,bIa,key wN]
   ·have hG:a≠q:=fun e=>hn (by rw[←e];exact ha)
    have aeg:look (zC (Mb a (st.dC a)) A.t x 0) q=none:=by
     cases hl:look (zC (Mb a (st.dC a)) A.t x 0) q with
     |none=>rfl
     |some C=>have:=(xd.2 _ (dX hl));simp only[Q3] at this;rw[hB] at this;simp at this
    simp only[St.arr,aq,aza hG,N7,aeg];exact hB
  ·rfl
theorem Oh{K K':ae→St→Option R}(h:∀ v s,qZ (nE [x,y]++Yl st [x,y]) st s→K v s=K' v s):rq E T dst x y st K=rq E T dst x y st K':=by
 unfold rq;split
 ·rename_i b hb
  have hy:y.bP=.mT b:=by
   unfold Zi at hb;split at hb
   ·rename_i b' hl
    split at hb
    ·rename_i B _
     cases hc:(!B.sh&&Md.lG B.md .bx) with
     |false=>rw[hc] at hb;cases hb
     |true=>rw[hc,aja,OQ] at hb;rw[hl,hb]
    ·cases hb
   ·cases hb
  exact Og hy fun v s hs=>h v s (hs.mono fun q hq=>aya _ hq)
 ·split
  ·rename_i a v sz i off hl
   refine aR ?_ rfl;have hW:Yl st [x,y]=.a (Mb a v off)::(st.ci.filter fun p=>p.2.any (ag.Od a)).map fun p=>.k p.1:=by simp only[Yl,hl]
   have hx:x=.one (.Ft a v sz i off):=by cases x<;>simp[ae.bP] at hl;rw[hl]
   refine PH (W:=nE [x,y]++Yl st [x,y]) ?_ ?_ fun s hs=>?_
   ·rw[hx];simp[nE,ae.uf,fO]
   ·intro p hp hm
    rw[hW];exact ara _ (Q8 _ (a0a.2 ⟨p,bPa.2 ⟨hp,hm⟩,rfl⟩))
   ·refine GB fun v' s' Co=>h v' s' (hs.trans (Co.mono fun q hq=>?_))
    simp only[nE,ae.uf,fO,bga,aoa,Q7] at hq;rcases hq with rfl|hq
    ·rw[hW];exact ara _ (ata ..)
    ·refine aya _ ?_
     simp only[nE,bga,aoa];exact .inr hq
  ·exact GB fun v s hs=>h v s (hs.mono fun q hq=>aya _ hq)
theorem Ok{b:Builtin}{ts:List TypeId}{vs:List ae}{K K':ae→St→Option R}(h:∀ v s,qZ (nE vs++Yl st vs) st s→K v s=K' v s):nL E b dst ts vs st K=nL E b dst ts vs st K':=by
 unfold nL
 repeat' (first|rfl|exact h _ _ (.refl _ _)|exact Oh h|apply aR|apply dW|intro _|split)
theorem Oo{K K':ae→St→Option R}(h:∀ v s,qZ [] st s→K v s=K' v s):ru E T dst st K=ru E T dst st K':=by
 unfold ru
 repeat' (first|rfl|exact h _ _ ((qZ.refl _ _).AK ‹St.arr _ _=none›)|apply aR|apply dW|intro _|split)
theorem PC{K K':ae→St→Option R}(h:∀ v,K v st=K' v st):uu E T x y st K=uu E T x y st K':=by
 unfold uu
 repeat' (first|rfl|exact h _|apply aR|apply dW|intro _|split)
theorem KI{K K':ae→St→Option R}(h:∀ v s,qZ (fO [x.bP]) st s→K v s=K' v s):nZ E T x y v st K=nZ E T x y v st K':=by
 unfold nZ
 repeat' (first|rfl|exact h _ _ ((qZ.refl _ _).gP (by rw[‹x.bP=ag.mT _›];simp[fO]))|apply aR|apply dW|intro _|split)
def nz(s:iF):Prop:=∀{R:Type} {dst:Nat} {args:List ae} {st:St} {K K' KP KP':ae→St→Option R},
 (∀ v q,qZ (s.LP args st) st q→K v q=K' v q)→(∀ v q,kv st q→KP v q=KP' v q)→s.run dst args st K KP=s.run dst args st K' KP'
def A6(L:lK):Prop:=∀{R:Type} {st:St} {K K':Exit→St→Option R} {KP KP':ae→St→Option R},
 (∀ e q,kv st q→K e q=K' e q)→(∀ v q,kv st q→KP v q=KP' v q)→L.run st K KP=L.run st K' KP'
theorem K3(hS:∀ f s,E.BU f=some s→nz s){o:Oper}{K K' KP KP':ae→St→Option R}(h:∀ v s,qZ (uI E o st) st s→K v s=K' v s)(hp:∀ v s,kv st s→KP v s=KP' v s):
  mr E o st K KP=mr E o st K' KP':=by
 have h0:∀ v,K v st=K' v st:=fun v=>h v st (.refl _ _);have p0:∀ v,KP v st=KP' v st:=fun v=>hp v st (.refl _);unfold mr;split
 ·exact h0 _
 ·exact h0 _
 ·split
  ·exact aR (h0 _) (h0 _)
  ·rfl
 ·split<;>first|exact h0 _|rfl
 ·refine aR (Px fun v s hs=>h v s (hs.mono fun q hq=>by cases hq)) ?_
  split
  ·exact Ou fun v s hs=>h v s (hs.mono fun q hq=>by cases hq)
  ·rfl
 ·split
  ·exact Ou fun v s hs=>h v s (hs.mono fun q hq=>by cases hq)
  ·rfl
 ·exact Jo h0
 ·rename_i T len iq ho
  exact aR (HX fun v s hs=>h v s (hs.mono fun q hq=>by rw[cAa] at hq;simp only[uI,ho];exact hq)) (Jn fun v s hs=>h v s (hs.mono fun q hq=>by rw[cAa] at hq;simp only[uI,ho];exact hq))
 ·exact Lc h0
 ·rename_i T x v ho
  exact PG (fun s hs=>h _ s (hs.mono fun q hq=>by simp only[uI,ho];exact hq))
 ·exact Oi h0
 ·exact QK h0
 ·exact EO h0
 ·exact KH fun v s hs=>h v s (hs.mono fun q hq=>by cases hq)
 ·rename_i T x lo hi mx ho
  exact Sk fun v s hs=>h v s (hs.mono fun q hq=>by simpa only[uI,ho] using hq)
 ·exact BP h0
 ·exact aR (Jq h0) rfl
 ·exact BQ h0
 ·exact Jr h0
 ·split
  ·split
   ·exact h0 _
   ·rfl
  ·rfl
 ·rename_i c ho
  split
  ·rename_i b hb
   exact Ok fun v s hs=>h v s (hs.mono fun q hq=>by simpa only[uI,ho,hb] using hq)
  ·rename_i f hf
   split
   ·rename_i s hs;exact hS _ s hs (fun v q hq=>h v q (hq.mono fun p hp=>by simpa only[uI,ho,hf,hs] using hp)) hp
   ·rfl
  ·rfl
 ·split
  ·split
   ·rfl
   ·exact h0 _
   ·rfl
  ·rfl
 ·split
  ·exact p0 _
  ·rfl
 ·exact Oo fun v s hs=>h v s (hs.mono fun q hq=>by cases hq)
 ·exact PC h0
 ·rename_i T x k v ho
  exact KI fun v s hs=>h v s (hs.mono fun q hq=>by simpa only[uI,ho] using hq)
 ·rfl
theorem Hw(hS:∀ f s,E.BU f=some s→nz s){o:Oper}{K K' KP KP':ae→St→Option R}(h:∀ v s,kv st s→K v s=K' v s)(hp:∀ v s,kv st s→KP v s=KP' v s):
 mr E o st K KP=mr E o st K' KP':=K3 hS (fun v s hs=>h v s hs.iG) hp
theorem Ts{o:Oper}(ho:vO o.op=true)(hd:yC E o st=true){K K' KP KP':ae→St→Option R}(h0:∀ v,K v st=K' v st):
  mr E o st K KP=mr E o st K' KP':=by
 unfold mr;split<;>rename_i mH<;>simp only[mH,vO,asa] at ho
 ·exact h0 _
 ·exact h0 _
 ·split
  ·exact aR (h0 _) (h0 _)
  ·rfl
 ·split<;>first|exact h0 _|rfl
 ·exact Jo h0
 ·exact Lc h0
 ·exact Oi h0
 ·exact QK h0
 ·exact EO h0
 ·simp only[yC,mH] at hd
  unfold uv
  repeat' (first|rfl|exact h0 _|apply vf|apply dW|intro _|split)
  all_goals simp_all
 ·exact BP h0
 ·exact aR (Jq h0) rfl
 ·exact BQ h0
 ·exact Jr h0
 ·split
  ·split
   ·exact h0 _
   ·rfl
  ·rfl
 ·split
  ·rename_i b hb
   simp only[hb] at ho;unfold nL;split
   ·repeat' (first|rfl|exact h0 _|apply aR|apply dW|intro _|split)
   ·simp at ho
   ·repeat' (first|rfl|exact h0 _|apply aR|apply dW|intro _|split)
   ·repeat' (first|rfl|exact h0 _|apply aR|apply dW|intro _|split)
   ·rfl
  ·rename_i f hf;simp only[hf,asa] at ho
  ·rfl
 ·split
  ·split
   ·rfl
   ·exact h0 _
   ·rfl
  ·rfl
theorem BR{d:Option Tmp}{v:ae}{K K':St→Option R}(h:∀ s,kv st s→K s=K' s):oZ d v st K=oZ d v st K':=by
 cases d with
 |none=>exact h _ (.refl _)
 |some d=>exact aR rfl (h _ ⟨rfl,rfl,rfl,rfl⟩)
theorem EY(hS:∀ f s,E.BU f=some s→nz s){all:List Oper}:∀{l:List Oper} {st:St} {K K':St→Option R} {KP KP':ae→St→Option R},(∀ s,kv st s→K s=K' s)→(∀ v s,kv st s→KP v s=KP' v s)→
  p9 E all l st K KP=p9 E all l st K' KP'
 |[],st,K,K',KP,KP',h,hp=>h _ (.refl _)
 |o::rest,st,K,K',KP,KP',h,hp=>by
  have DM:∀ q,kv st q→mr E o q (fun v st'=>oZ o.dst v st' fun s=>p9 E all rest s K KP) KP=mr E o q (fun v st'=>oZ o.dst v st' fun s=>p9 E all rest s K' KP') KP':=fun q hq=>
   Hw hS (fun v s hs=>BR fun s' Co=>EY hS (fun s'' NR=>h _ (hq.trans (hs.trans (Co.trans NR)))) (fun v s'' NR=>hp _ _ (hq.trans (hs.trans (Co.trans NR))))) (fun v s hs=>hp _ _ (hq.trans hs))
  have skip:∀ q,kv st q→oZ o.dst (.one .vV) q (fun s=>p9 E all rest s K KP)=oZ o.dst (.one .vV) q (fun s=>p9 E all rest s K' KP'):=fun q hq=>
   BR fun s hs=>EY hS (fun s'' NR=>h _ (hq.trans (hs.trans NR))) (fun v s'' NR=>hp _ _ (hq.trans (hs.trans NR)))
  simp only[p9];split
  ·exact DM _ (.refl _)
  ·split
   ·rfl
   ·split
    ·exact aR (aR (DM _ ⟨rfl,rfl,rfl,rfl⟩) (skip _ ⟨rfl,rfl,rfl,rfl⟩)) (aR (skip _ ⟨rfl,rfl,rfl,rfl⟩) (DM _ ⟨rfl,rfl,rfl,rfl⟩))
    ·exact skip _ (.refl _)
    ·rfl
theorem VX(hS:∀ f s,E.BU f=some s→nz s){all:List Oper}{A:List (List Nat)}{i:Nat}{o:Oper}{log:List (Nat×List qf)}{K K':List (Nat×List qf)→St→Option R}{KP KP':ae→St→Option R}
  (h:∀ lg s,kv st s→K lg s=K' lg s) (hp:∀ v s,kv st s→KP v s=KP' v s):GK E all A i o log st K KP=GK E all A i o log st K' KP':=by
 unfold GK;refine aR (aR (Hw hS (fun v s hs=>BR fun s' Co=>h _ _ (hs.trans Co)) fun v s hs=>hp _ _ hs) rfl) (aR (Hw hS (fun v s hs=>BR fun s' Co=>h _ _ (hs.trans Co)) fun v s hs=>rfl) rfl)
theorem Fy(hS:∀ f s,E.BU f=some s→nz s){all:List Oper}{A:List (List Nat)}:∀{l:List Nat} {log:List (Nat×List qf)} {st:St} {K K':St→Option R} {KP KP':ae→St→Option R},(∀ s,kv st s→K s=K' s)→(∀ v s,kv st s→KP v s=KP' v s)→
  H6 E all A l log st K KP=H6 E all A l log st K' KP'
 |[],log,st,K,K',KP,KP',h,hp=>h _ (.refl _)
 |i::rest,log,st,K,K',KP,KP',h,hp=>by
  have DM:∀ o q,kv st q→GK E all A i o log q (fun lg s=>H6 E all A rest lg s K KP) KP=GK E all A i o log q (fun lg s=>H6 E all A rest lg s K' KP') KP':=fun o q hq=>
   VX hS (fun lg s hs=>Fy hS (fun s' Co=>h _ (hq.trans (hs.trans Co))) (fun v s' Co=>hp _ _ (hq.trans (hs.trans Co)))) (fun v s hs=>hp _ _ (hq.trans hs))
  have skip:∀(o:Oper) q,kv st q→oZ o.dst (.one .vV) q (fun s=>H6 E all A rest log s K KP)=oZ o.dst (.one .vV) q (fun s=>H6 E all A rest log s K' KP'):=fun o q hq=>
   BR fun s hs=>Fy hS (fun s'' NR=>h _ (hq.trans (hs.trans NR))) (fun v s'' NR=>hp _ _ (hq.trans (hs.trans NR)))
  simp only[H6,Xg];split
  ·rfl
  ·split
   ·exact DM _ _ (.refl _)
   ·split
    ·rfl
    ·split
     ·exact aR (aR (DM _ _ ⟨rfl,rfl,rfl,rfl⟩) (skip _ _ ⟨rfl,rfl,rfl,rfl⟩)) (aR (skip _ _ ⟨rfl,rfl,rfl,rfl⟩) (DM _ _ ⟨rfl,rfl,rfl,rfl⟩))
     ·exact skip _ _ (.refl _)
     ·rfl
theorem Yz(hS:∀ f s,E.BU f=some s→nz s){ops:List Oper}{K K':St→Option R}{KP KP':ae→St→Option R}(h:∀ s,kv st s→K s=K' s)(hp:∀ v s,kv st s→KP v s=KP' v s):
  VS E ops st K KP=VS E ops st K' KP':=by
 unfold VS;refine aR ?_ rfl;split
 ·exact aR (Fy hS h hp) rfl
 ·rfl
theorem QT(hS:∀ f s,E.BU f=some s→nz s)(hL:∀ i L,E.oB i=some L→A6 L)(c:Code):∀{st:St} {K K':Exit→St→Option R} {KP KP':ae→St→Option R},
  (∀ e s,kv st s→K e s=K' e s)→(∀ v s,kv st s→KP v s=KP' v s)→tx E c st K KP=tx E c st K' KP':=by
 induction c with
 |skip=>intro st K K' KP KP' h hp;exact h _ _ (.refl _)
 |region id ops draw=>
  intro st K K' KP KP' h hp;refine aR ?_ (EY hS (fun s hs=>h _ s hs) hp);cases hl:E.oB (id+1000000) with
  |some L=>exact hL _ _ hl h hp
  |none=>exact Yz hS (fun s hs=>h _ s hs) hp
 |seq a b NV ihb=>
  intro st K K' KP KP' h hp;refine NV (fun e s hs=>?_) hp;cases e with
  |normal=>exact ihb (fun e s' Co=>h e s' (hs.trans Co)) (fun v s' Co=>hp v s' (hs.trans Co))
  |_=>exact h _ s hs
 |cond c t e iht ihe=>
  intro st K K' KP KP' h hp;show(match (ev E st c).Gm with|some b=>bif b then tx E t st K KP else tx E e st K KP|none=>none)=(match (ev E st c).Gm with|some b=>bif b then tx E t st K' KP' else tx E e st K' KP' | none=>none)
  split
  ·exact aR (iht h hp) (ihe h hp)
  ·rfl
 |block id b ih=>
  intro st K K' KP KP' h hp;show(match E.oB id with
   |some L=>L.run st K KP
   |none=>tx E b st (fun e s=>match e with | .exit i=>(bif Nat.beq i id then K .normal s else K (.exit i) s)|e=>K e s) KP)=(match E.oB id with
   |some L=>L.run st K' KP'
   |none=>tx E b st (fun e s=>match e with | .exit i=>(bif Nat.beq i id then K' .normal s else K' (.exit i) s)|e=>K' e s) KP')
  split
  ·rename_i L hl;exact hL _ _ hl h hp
  ·refine ih (fun e s hs=>?_) hp
   cases e with
   |exit i=>exact aR (h _ s hs) (h _ s hs)
   |_=>exact h _ s hs
 |exit id=>intro st K K' KP KP' h hp;exact h _ _ (.refl _)
 |ret=>intro st K K' KP KP' h hp;exact h _ _ (.refl _)
 |_=>intros;rfl
end
end Go.Fx
namespace Go.Fx
section
variable {E:tn} {st s:St} {o:Oper}
theorem Ow(hD:∀ f s,E.BU f=some s→po s)(ho:vO o.op=true)(hd:yC E o st=true){u:Out}(h:HZ E o st=some u):u=⟨u.v,st,true⟩:=by
 have h1:mr E o st (fun v _=>oA v st) (fun _ _=>none)=some u:=by exact(Ts (E:=E) (st:=st) ho hd (K:=oA) (K':=fun v _=>oA v st) (KP:=PJ) (KP':=fun _ _=>none) (fun v=>rfl)).symm.trans h
 rw[Ci hD h] at h1;obtain⟨v,q,b⟩:=u;cases b with
 |false=>cases h1
 |true=>simp only[se,aja,oA,OQ,Out.mk.injEq] at h1;rw[←h1.2.1]
theorem aaB(hD:∀ f s,E.BU f=some s→po s)(hS:∀ f s,E.BU f=some s→nz s){u:Out}(h:HZ E o st=some u):kv st u.s∧(u.ok=true→qZ (uI E o st) st u.s):=by
 classical
 have h1:mr E o st (fun v q=>if qZ (uI E o st) st q then oA v q else none) (fun v q=>if kv st q then PJ v q else none)=some u:=by rw[←h];exact(K3 hS (fun v q hq=>(a7a hq).symm) (fun v q hq=>(a7a hq).symm)).symm
 rw[Ci hD h] at h1;obtain⟨v,q,b⟩:=u;cases b with
 |false=>
  simp only[se,aqa] at h1;split at h1
  ·rename_i hb;exact⟨hb,fun e=>by cases e⟩
  ·cases h1
 |true=>
  simp only[se,aja] at h1;split at h1
  ·rename_i hb;exact⟨hb.iG,fun _=>hb⟩
  ·cases h1
def tB(st s:St):qf→Prop
 |.o ob off n=>∀ ls,st.dN ob=some ls→∃ xK,s.dN ob=some xK∧xK.length=ls.length∧∀ j,off≤j→j<off+n→xK[j]? = ls[j]?
 |.a a=>(∀ A,st.arr a=some A→s.arr a=some A)∧s.dC a=st.dC a
 |.k _=>True
 |.all=>True
theorem tB.refl(st:St):∀ p,tB st st p
 |.o _ _ _=>fun ls h=>⟨ls,h,rfl,fun _ _ _=>rfl⟩
 |.a _=>⟨fun _ h=>h,rfl⟩
 |.k _=>trivial
 |.all=>trivial
theorem tB.trans{a b c:St}:∀{p:qf},tB a b p→tB b c p→tB a c p
 |.o _ _ _,h,k=>fun ls hl=>by obtain⟨l1,h1,h2,h3⟩:=h ls hl;obtain⟨l2,k1,k2,k3⟩:=k l1 h1;exact⟨l2,k1,k2.trans h2,fun j a b=>(k3 j a b).trans (h3 j a b)⟩
 |.a _,h,k=>⟨fun A hA=>k.1 A (h.1 A hA),k.2.trans h.2⟩
 |.k _,_,_=>trivial
 |.all,_,_=>trivial
theorem qZ.lE{W:List qf}(h:qZ W st s){p:qf}(hp:∀ q∈W,Vc p q=true):tB st s p:=by
 cases p with
 |o ob off n=>
  intro ls hl;obtain⟨l1,h1,h2,h3⟩:=h.dN ob ls hl (fun hk=>by have:=hp _ hk;simp[Vc] at this) (fun hk=>by have:=hp _ hk;simp[Vc] at this)
  refine⟨l1,h1,h2,fun j a b=>h3 j fun q hq hh=>?_⟩;have:=hp q hq;cases q with
  |a x=>exact hh
  |k x=>exact hh
  |all=>exact hh
  |o ob' aeI n'=>obtain⟨rfl,h4,h5⟩:=hh;simp only[Vc,b8a,cLa,Bool.false_or,a5a] at this;rcases this with e|e<;>have:=aZa e<;>omega
 |a x=>
  have hn:qf.a x∉W:=fun hx=>by have:=hp _ hx;simp[Vc] at this
  have ha:qf.all∉W:=fun hk=>by have:=hp _ hk;simp[Vc] at this
  exact⟨fun A hA=>h.arr x A hA hn ha,h.Fc x hn ha⟩
 |k x=>trivial
 |all=>trivial
theorem BA{st s:St}(h1:s.ci=st.ci)(h2:s.cO=st.cO)(h3:s.fQ=st.fQ)(h4:s.Fc=st.Fc)(p:qf):tB st s p:=by
 cases p with
 |o ob off n=>exact fun ls hl=>⟨ls,by simpa only[St.dN,h1] using hl,rfl,fun _ _ _=>rfl⟩
 |a x=>exact⟨fun A hA=>(by simpa only[St.arr,h2,h3] using hA),by simp only[St.dC,h4]⟩
 |k x=>trivial
 |all=>trivial
theorem VQ{st s:St}{o off n:Nat}{ls xK:List ag}{c:List ag}(hb:s.cF=st.cF)(hl:xK.length=ls.length)(hj:∀ j,off≤j→j<off+n→xK[j]? = ls[j]?)(h:qM (st.kc o 0 ls) off n=some c):qM (s.kc o 0 xK) off n=some c:=by
 have vK:∀(q:St) (l:List ag) (i j:Nat),(q.kc o i l)[j]? = (l[j]?).map (q.res o (i+j)):=by
  intro q l;induction l with
  |nil=>intro i j;simp[St.kc]
  |cons x l ih=>
   intro i j;cases j with
   |zero=>simp[St.kc]
   |succ j=>simp only[St.kc,bta];rw[ih,show i+1+j=i+(j+1) by omega]
 have Bw:∀ j l,s.res o j l=st.res o j l:=fun j l=>by cases l<;>simp[St.res,hb]
 unfold qM at h ⊢;rw[iW] at h ⊢;rw[hl];cases hc:Nat.ble (off+n) ls.length with
 |false=>simp[hc] at h
 |true=>
  simp only[hc,aja,OQ] at h ⊢;rw[←h];apply bHa;intro k;by_cases hk:k<n
  ·rw[bqa hk,bqa hk,bNa,bNa,vK,vK,hj _ (by omega) (by omega)]
   congr 1
   funext l;exact Bw _ l
  ·rw[bCa (by simp;omega),bCa (by simp;omega)]
theorem V0(ho:vO o.op=true)(hd:yC E o st=true)(hb:kv st s)(he:∀ x∈o.op.operands,ev E s x=ev E st x)(hk:∀ p∈wx E o st,tB st s p):
  yC E o s=true∧∀{R:Type} {r:R} {K:ae→Option R},mr E o st (fun v _=>K v) (fun _ _=>none)=some r→mr E o s (fun v _=>K v) (fun _ _=>none)=some r:=by
 have hbl:s.cF=st.cF:=hb.2.2.1;have mT:∀{x:Operand} {a:Nat},(ev E st x).bP=.mT a→(∀ p∈fO [(ev E st x).bP],tB st s p)→∀ A,st.arr a=some A→s.arr a=some A:=fun {x a} hx hh A hA=>(hh (.a a) (by rw[hx];simp[fO])).1 A hA
 constructor
 ·unfold yC at hd ⊢
  split
  ·rename_i T x lo hi mx mH
   simp only[mH] at hd;rw[he x (by simp[mH,Op.operands])]
   split
   ·rename_i a ha
    rw[ha] at hd;simp only at hd;cases hA:st.arr a with
    |none=>simp[hA] at hd
    |some A=>rw[mT ha (fun p hp=>hk p (by simp only[wx,mH];exact hp)) A hA];simpa[hA] using hd
   ·rfl
  ·rfl
 ·intro R r K h
  unfold mr at h ⊢;split at h<;>rename_i mH<;>simp only[mH,vO,asa] at ho
  ·rw[he _ (by simp[mH,Op.operands])];exact h
  ·rw[he _ (by simp[mH,Op.operands])];exact h
  ·rename_i c a b
   rw[he c (by simp[mH,Op.operands]),he a (by simp[mH,Op.operands]),he b (by simp[mH,Op.operands])];exact h
  ·rw[he _ (by simp[mH,Op.operands])];exact h
  ·rename_i T iq
   have:(iq.toList.map fun p=>(p.1,ev E s p.2))=iq.toList.map fun p=>(p.1,ev E st p.2):=b3a fun p hp=>by rw[he p.2 (by simp[mH,Op.operands];exact⟨p.1,by simpa using hp⟩)]
   rw[this];exact h
  ·rename_i T x
   rw[he x (by simp[mH,Op.operands])]
   have hk:∀ p∈(match (ev E st x).bP with | .lw ob off=>[qf.o ob off (xS E T)] | .Ei a _ _ _=>[.a a] | .Mo a _ _=>[.a a]|_=>[]),tB st s p:=fun p hp=>hk p (by simp only[wx,mH];exact hp)
   unfold zd at h ⊢;split at h
   ·cases h
   ·rename_i ti hT
    simp only[hT];split at h
    ·rename_i ob off hx
     rw[hx] at hk;split at h
     ·rename_i ls hl
      obtain⟨xK,h1,h2,h3⟩:=hk _ (Q7.2 rfl) ls hl;split at h
      ·rename_i c hc
       have mX:xS E T=ti.size:=by simp[xS,hT]
       rw[mX] at h3;simp only[h1,VQ hbl h2 h3 hc];exact h
      ·cases h
     ·cases h
    ·exact h
    ·exact h
    ·rename_i a sz i off hx
     rw[hx] at hk;split at h
     ·rename_i A hA
      have hv:=(hk _ (Q7.2 rfl)).2;simp only[(hk _ (Q7.2 rfl)).1 A hA,hv];exact h
     ·cases h
    ·rename_i a k n hx
     rw[hx] at hk;split at h
     ·rename_i A hA
      simp only[(hk _ (Q7.2 rfl)).1 A hA];exact h
     ·cases h
    ·cases h
  ·rename_i op T x y ty
   rw[he x (by simp[mH,Op.operands]),he y (by simp[mH,Op.operands])];exact h
  ·rename_i op T x
   rw[he x (by simp[mH,Op.operands])];exact h
  ·rename_i S D x
   rw[he x (by simp[mH,Op.operands])]
   have hk:∀ p∈fO [(ev E st x).bP],tB st s p:=fun p hp=>hk p (by simp only[wx,mH];exact hp)
   have hA:∀ a,(ev E st x).bP=.mT a→∀ A,st.arr a=some A→s.arr a=some A:=fun a hx=>mT hx hk;revert h hA;generalize ev E st x=X;intro h hA;unfold pW at h ⊢;split at h
   ·rename_i si di hS hD
    split at h
    ·exact h
    ·exact h
    ·rename_i l
     split at h
     ·exact h
     ·rename_i a _
      split at h
      ·rename_i A hA'
       have:=hA a rfl A hA';simp only[this];exact h
      ·cases h
     ·cases h
    ·cases h
   ·cases h
  ·rename_i T x lo hi mx
   have hk:∀ p∈fO [(ev E st x).bP],tB st s p:=fun p hp=>hk p (by simp only[wx,mH];exact hp)
   rw[he x (by simp[mH,Op.operands])]
   have e1:lo.map (ev E s)=lo.map (ev E st):=by cases lo<;>simp;exact he _ (by simp[mH,Op.operands])
   have e2:hi.map (ev E s)=hi.map (ev E st):=by cases hi<;>simp;exact he _ (by simp[mH,Op.operands])
   have e3:mx.map (ev E s)=mx.map (ev E st):=by cases mx<;>simp;exact he _ (by simp[mH,Op.operands])
   rw[e1,e2,e3];simp only[yC,mH] at hd;have hA:∀ a,(ev E st x).bP=.mT a→∀ A,st.arr a=some A→s.arr a=some A:=fun a hx=>mT hx hk;revert hd h hA;generalize (ev E st x)=X;generalize lo.map (ev E st)=LO;generalize hi.map (ev E st)=HI;generalize mx.map (ev E st)=MX;intro h hd hA;unfold uv at h ⊢;split at h
   ·exact h
   ·split at h
    ·split at h
     ·rename_i hX;simp only[hX];exact h
     ·rename_i a hX
      rw[hX] at hd;split at h
      ·rename_i A hA'
       have:=hA a hX A hA';simp only[hA'] at hd;simp only[hX,this];simp only[hd,aja] at h ⊢;exact h
      ·cases h
     ·cases h
    ·cases h
   ·cases h
  ·rename_i T x f
   rw[he x (by simp[mH,Op.operands])];exact h
  ·rename_i T x f
   rw[he x (by simp[mH,Op.operands])];exact h
  ·rename_i T x i
   have hk:∀ p∈fO [(ev E st x).bP],tB st s p:=fun p hp=>hk p (by simp only[wx,mH];exact hp)
   rw[he x (by simp[mH,Op.operands]),he i (by simp[mH,Op.operands])]
   have hA:∀ a,(ev E st x).bP=.mT a→∀ A,st.arr a=some A→s.arr a=some A:=fun a hx=>mT hx hk;revert h hA;generalize ev E st x=X;generalize ev E st i=Y;intro h hA;unfold mJ at h ⊢;split at h
   ·split at h
    ·split at h
     ·rename_i hX;simp only[hX];exact h
     ·rename_i a hX
      split at h
      ·rename_i A hA'
       simp only[hX,hA a hX A hA'];exact h
      ·cases h
     ·cases h
    ·cases h
   ·split at h
    ·split at h
     ·rename_i a hX
      split at h
      ·rename_i A hA'
       simp only[hX,hA a hX A hA'];exact h
      ·cases h
     ·rename_i hX;simp only[hX];exact h
     ·cases h
    ·cases h
   ·cases h
  ·rename_i T x i
   rw[he x (by simp[mH,Op.operands]),he i (by simp[mH,Op.operands])];exact h
  ·rename_i x n
   rw[he x (by simp[mH,Op.operands])];exact h
  ·rename_i c
   have hk:∀ p∈nE (c.args.toList.map (ev E st)),tB st s p:=fun p hp=>hk p (by simp only[wx,mH];exact hp)
   have ea:c.args.toList.map (ev E s)=c.args.toList.map (ev E st):=b3a fun x hx=>he x (by simp[mH,Op.operands,Call.operands];exact .inr (by simpa using hx))
   rw[ea];split at h
   ·rename_i b hb
    simp only[hb] at ho ⊢;have ahE:∀{v:ae} {n:Int},(∀ p∈v.uf,tB st s p)→lenOf st v.bP=some n→lenOf s v.bP=some n:=fun {v n} hv hn=>by
     cases v with
     |one l=>
      cases l with
      |mT a=>
       simp only[ae.bP,lenOf] at hn ⊢;cases hA:st.arr a with
       |none=>simp[hA] at hn
       |some A=>rw[(hv (.a a) (by simp[ae.uf,fO])).1 A hA];simpa[hA] using hn
      |eZ t d=>cases t<;>exact hn
      |_=>exact hn
     |_=>exact hn
    revert hk h;generalize c.args.toList.map (ev E st)=vs;intro hk h;unfold nL at h ⊢;split at h
    ·rename_i v
     split at h
     ·exact h
     ·split at h
      ·rename_i a vr sz i off hl
       have hve:v=.one (.Ft a vr sz i off):=by cases v<;>simp[ae.bP] at hl;rw[hl]
       have hka:=hk (.a a) (by rw[hve];simp[nE,ae.uf,fO])
       split at h
       ·rename_i A hA
        simp only[hka.1 A hA,hka.2];exact h
       ·cases h
      ·split at h
       ·rename_i n h2 h3
        simp only[ahE (fun p hp=>hk p (by simp[nE,hp])) h2,h3];exact h
       ·cases h
     ·cases h
    ·simp at ho
    ·exact h
    ·exact h
    ·cases h
   ·rename_i f hf;simp only[hf,asa] at ho
   ·cases h
  ·rename_i T x
   rw[he x (by simp[mH,Op.operands])];exact h
end
end Go.Fx
namespace Go.Fx
section
variable {P:Program} {E:tn} (hE:iO P E.iE) {X:mS} {st:St} {G:Gh} {w:World}
include hE
theorem UI{o:Oper}{act:Act}{v:ae}(hs:vO o.op=true)(hd:yC E o st=true)(h:HZ E o st=some ⟨v,st,true⟩)(zA:nG E.gt X.S0)(hm:az X st G w)(hr:bO G st act):
  ∃ u G',(execOp act.eval o).run P w=.ok (.value u) w∧az X st G' w∧(∀ a,bO G st a→bO G' st a)∧aO G' v u:=by
 have hg:nG E.gt G.S:=zA.mono hm.s0;have lA:∀{s:Sem Value},(∃ av u,s.run P w=.ok u w∧aO G av u∧oA av st=some ⟨v,st,true⟩)→(execOp act.eval o=do pure (.value (←s)))→
   ∃ u G',(execOp act.eval o).run P w=.ok (.value u) w∧az X st G' w∧(∀ a,bO G st a→bO G' st a)∧aO G' v u:=fun {s} ⟨av,u,h1,h2,h3⟩ he=>by
  simp only[oA,OQ,Out.mk.injEq] at h3;exact⟨u,G,by rw[he,aMa,h1];rfl,hm,fun _ h=>h,by rw[←h3.1];exact h2⟩
 have Pn:∀{av:ae} {u:Value},oA av st=some ⟨v,st,true⟩→aO G av u→(execOp act.eval o).run P w=.ok (.value u) w→
   ∃ u G',(execOp act.eval o).run P w=.ok (.value u) w∧az X st G' w∧(∀ a,bO G st a→bO G' st a)∧aO G' v u:=fun {av u} h3 h2 he=>by
  simp only[oA,OQ,Out.mk.injEq] at h3;exact⟨u,G,he,hm,fun _ h=>h,by rw[←h3.1];exact h2⟩
 unfold HZ mr at h;split at h<;>rename_i ho<;>simp only[ho,vO,asa] at hs
 ·rename_i x
  exact Pn h (fB hg hr x) (by simp[execOp,ho])
 ·rename_i x
  exact Pn h (fB hg hr x) (by simp[execOp,ho])
 ·rename_i c a b
  cases hc:(ev E st c).Gm with
  |none=>simp[hc] at h
  |some b'=>
   simp only[hc] at h;have hb:=wJ hc (fB hg hr c);cases b' with
   |true=>simp only[aja] at h;exact Pn h (fB hg hr a) (by simp only[execOp,ho,hb];rfl)
   |false=>simp only[aqa] at h;exact Pn h (fB hg hr b) (by simp only[execOp,ho,hb];rfl)
 ·rename_i x
  have hx:=fB hg hr x;have key:(∃ a,act.eval x=.pointer (some a))→oA (ev E st x) st=some ⟨v,st,true⟩→∃ u G',(execOp act.eval o).run P w=.ok (.value u) w∧az X st G' w∧(∀ a,bO G st a→bO G' st a)∧aO G' v u:=fun⟨a,ha⟩ hk=>
   Pn hk hx (by simp only[execOp,ho,ha];rfl)
  cases hv:ev E st x with
  |one l=>
   rw[hv] at h hx key;cases l with
   |lw ob off=>exact key ⟨_,hx⟩ (by simpa[ae.bP] using h)
   |Ei a sz i off=>obtain⟨b,len,cap,h1,h2,h3⟩:=hx;exact key ⟨_,h3⟩ (by simpa[ae.bP] using h)
   |PO t d off=>obtain⟨b,arr,elem,fz,pre,cs,post,h1,h2,h3,h4⟩:=hx;exact key ⟨_,h4⟩ (by simpa[ae.bP] using h)
   |_=>simp[ae.bP] at h
  |_=>rw[hv] at h;simp[ae.bP] at h
 ·rename_i T iq
  refine lA (Oj hE h hm (Jj hg hr _)) ?_;have:(List.map (fun p=>(p.1,act.eval p.2)) iq.toList).toArray=iq.map fun(i,x)=>(i,act.eval x):=by rw[←bVa]
  rw[this];simp only[execOp,ho]
 ·rename_i T x
  exact lA (KG hE h hm (fB hg hr x)) (by simp only[execOp,ho])
 ·rename_i op T x y u
  exact lA (T6 hE h hm (fB hg hr x) (fB hg hr y)) (by simp only[execOp,ho];rfl)
 ·rename_i op T x
  exact lA (WX h (fB hg hr x)) (by simp only[execOp,ho])
 ·rename_i S D x
  exact lA (Jp hE h hm (fB hg hr x)) (by simp only[execOp,ho])
 ·rename_i T x lo hi mx
  have opt:∀(q:Option Operand),(∀ a,q.map (ev E st)=some a→∃ v,q.map act.eval=some v∧aO G a v)∧(q.map (ev E st)=none→q.map act.eval=none):=fun q=>by
   cases q with
   |none=>simp
   |some x=>simp;exact fB hg hr x
  obtain⟨av,u,st',G',h1,h2,h3,h4,h5⟩:=Ov hE h hm (fB hg hr x) (opt lo).1 (opt lo).2 (opt hi).1 (opt hi).2 (opt mx).2;simp only[oA,OQ,Out.mk.injEq,a_a] at h5;obtain⟨rfl,rfl⟩:=h5;exact⟨u,G',by simp only[execOp,ho,aMa,h1];rfl,h2,h3,h4⟩
 ·rename_i T x f
  exact lA (EP hE h (fB hg hr x)) (by simp only[execOp,ho])
 ·rename_i T x f
  cases ha:(ev E st x).isAgg with
  |false=>simp[ha] at h
  |true=>simp only[ha,aja] at h;exact lA (Om hE h hm (fB hg hr x) (Ey ha (fB hg hr x))) (by simp only[execOp,ho])
 ·rename_i T x i
  exact lA (EQ hE h hm (fB hg hr x) (fB hg hr i)) (by simp only[execOp,ho])
 ·rename_i T x i
  exact lA (On hE h (fB hg hr x) (fB hg hr i)) (by simp only[execOp,ho])
 ·rename_i x n
  have hx:=fB hg hr x;split at h
  ·rename_i vs hv
   rw[hv] at hx;obtain⟨us,hu,ha⟩:=hx;cases hn:vs[n]? with
   |none=>simp[hn] at h
   |some p=>
    simp only[hn] at h;obtain⟨u,hu2,hp⟩:=ha.vK hn;refine lA (s:=Instr.extract (act.eval x) n) ⟨_,u,by simp[Instr.extract,hu,hu2],?_,h⟩ (by simp only[execOp,ho])
    unfold ER;split at hp
    ·rename_i hc;simp only[hc,aja];exact hp
    ·rename_i hc
     obtain⟨l,e,hl⟩:=hp;simp only[bya] at hc;simp only[hc,aqa,e];exact hl
  ·cases h
 ·rename_i c
  split at h
  ·rename_i b hb
   simp only[hb] at hs;have yE:=Sa hg hr c.args.toList;obtain⟨cs0,DJ⟩:∃ cs0,(execOp act.eval o).run P w=(builtin b c.argTypes o.type cs0 (c.args.map act.eval)).run P w:=
    ⟨_,by simp only[execOp,ho,resolve,hb,aMa,baa,aFa,invoke];rfl⟩
   have e1:(List.map act.eval c.args.toList).toArray=c.args.map act.eval:=by rw[←bVa]
   have e2:c.argTypes.toList.toArray=c.argTypes:=by simp
   rw[←e1,←e2] at DJ;revert h DJ yE;generalize c.args.toList.map (ev E st)=vs;generalize c.args.toList.map act.eval=us;generalize c.argTypes.toList=ts;intro h yE DJ;unfold nL at h;split at h
   ·rename_i v'
    obtain⟨u,rfl⟩:∃ u,us=[u]:=by
     cases us with
     |nil=>exact yE.elim
     |cons u us=>cases us with
      |nil=>exact⟨u,rfl⟩
      |cons _ _=>exact yE.2.elim
    cases ts with
    |nil=>simp at h
    |cons t ts=>
     simp only[bda,bza] at h;split at h
     ·rename_i hT
      split at h
      ·rename_i s hs
       cases Dr hs yE.1;have hu:=(hE _ _ hT).str;exact Pn h (kU .i64 _) (by rw[DJ];simp[builtin,Builtin.len_,aEa hu,kw,goInt];rfl)
      ·cases h
     ·rename_i hT
      split at h
      ·rename_i a vr sz i off hl
       have hr:=yE.1;rw[show v' = .one (.Ft a vr sz i off) by cases v'<;>simp[ae.bP] at hl;rw[hl]] at hr
       split at h
       ·rename_i A hA
        cases hc:(A.sh||!Md.lG A.md .bx||!Nat.beq vr (st.dC a)||!Nat.beq sz A.t.size||!A.t.su) with
        |true=>rw[hc] at h;cases h
        |false=>
         rw[hc,aqa] at h;obtain⟨x,hx,h⟩:=axa.1 h;split at h
         ·rename_i n hn
          obtain⟨b,m,c,hv',rfl⟩:=QG hE hm hr hA hc hx hn;exact Pn h (kU .i64 _) (by rw[DJ];simp only[builtin,aMa,MI hE hT hv',aFa,baa])
         ·cases h
       ·cases h
      ·split at h
       ·rename_i n hn hs
        obtain⟨a,m,c,hv',rfl⟩:=Ua hE hn hs hm yE.1;exact Pn h (kU .i64 _) (by rw[DJ];simp only[builtin,aMa,MI hE hT hv',aFa,baa])
       ·cases h
     ·cases h
   ·simp at hs
   ·rename_i v' vs
    cases us with
    |nil=>exact yE.elim
    |cons u us=>
     split at h
     ·rename_i k a hi
      split at h
      ·rename_i n hn
       cases qy hi yE.1;exact Pn h (kU _ _) (by rw[DJ];simp only[builtin,Builtin.min_,aMa,Ny hn yE.2,aFa,baa])
      ·cases h
     ·cases h
   ·rename_i v' vs
    cases us with
    |nil=>exact yE.elim
    |cons u us=>
     split at h
     ·rename_i k a hi
      split at h
      ·rename_i n hn
       cases qy hi yE.1;exact Pn h (kU _ _) (by rw[DJ];simp only[builtin,Builtin.max_,aMa,Nx hn yE.2,aFa,baa])
      ·cases h
     ·cases h
   ·cases h
  ·rename_i f hf;simp only[hf,asa] at hs
  ·cases h
 ·rename_i T x
  cases hT:E.iE T with
  |none=>simp[hT] at h
  |some ti=>
   simp only[hT] at h;obtain⟨d,u1,u2⟩:=(hE T ti hT).vV;split at h
   ·cases h
   ·rename_i ls hl hd
    refine lA (s:=Instr.makeInterface T (act.eval x)) ⟨.AH T ls,.iface T (act.eval x),?_,⟨_,_,rfl,rfl,mQ hm hl (fB hg hr x)⟩,h⟩ (by simp only[execOp,ho])
    simp only[Instr.makeInterface,aMa,aEa u1,aFa];generalize ti.iQ=q at u2 hd;cases d with
    |interface _=>cases q<;>first|exact u2.elim|exact(hd rfl).elim
    |_=>rfl
   ·cases h
end
end Go.Fx
namespace Go.Fx
theorem gO:∀{x:Nat} {l:List Nat},eV x l=true↔x∈l
 |x,[]=>by simp[eV]
 |x,y::r=>by
  simp only[eV,a5a,ama,gO (l:=r)];constructor
  ·rintro(h|h)
   ·exact .inl (Q4 h)
   ·exact .inr h
  ·rintro(h|h)
   ·left;subst h;simp
   ·exact .inr h
theorem No(e:Edge):eb e=Region.binds .any e:=by unfold eb Region.binds;cases e.ground<;>rfl
def PQ(all:List Oper)(i k:Nat):Prop:=∃ o,all[i]? = some o∧∃ e∈o.after,eb e=true∧e.on=k
def Clo(all:List Oper)(L:Nat→Prop):Prop:=∀ i k,L i→PQ all i k→L k
inductive Reach(all:List Oper):Nat→Nat→Prop where
 |one {i k:Nat}:PQ all i k→Reach all i k
 |aey {i j k:Nat}:PQ all i j→Reach all j k→Reach all i k
theorem Clo.Uu{all:List Oper}{L:Nat→Prop}(h:Clo all L){i k:Nat}(r:Reach all i k):L i→L k:=by
 induction r with
 |one a=>exact fun hi=>h _ _ hi a
 |aey a _ ih=>exact fun hi=>ih (h _ _ hi a)
theorem Clo.ready{all:List Oper}{L:Nat→Prop}(h:Clo all L){i k:Nat}(hi:∀ k,PQ all i k→L k)(r:Reach all i k):L k:=by
 cases r with
 |one a=>exact hi _ a
 |aey a r=>exact h.Uu r (hi _ a)
theorem OT{k:Nat}:∀{l m:List Nat},k∈YH l m→k∈l∨k∈m
 |[],m,h=>.inr h
 |x::r,m,h=>by
  simp only[YH] at h;cases hb:eV x m with
  |true=>
   simp only[hb,aja] at h;rcases OT h with h|h
   ·exact .inl (Q8 _ h)
   ·exact .inr h
  |false=>
   simp only[hb,aqa] at h;rcases OT h with h|h
   ·exact .inl (Q8 _ h)
   ·rcases ama.1 h with rfl|h
    ·exact .inl (ata ..)
    ·exact .inr h
theorem Qh{acc:List (List Nat)}{k:Nat}:∀{l:List Edge} {m:List Nat},k∈l.foldl (fun m e=>bif eb e then YH (e.on::acc.getD e.on []) m else m) m→
  k∈m∨∃ e∈l,eb e=true∧(k=e.on∨k∈acc.getD e.on [])
 |[],m,h=>.inl h
 |e::l,m,h=>by
  rw[b5a] at h;rcases Qh h with h|⟨e',h1,h2,h3⟩
  ·cases hb:eb e with
   |false=>simp only[hb,aqa] at h;exact .inl h
   |true=>
    simp only[hb,aja] at h;rcases OT h with h|h
    ·refine .inr ⟨e,ata ..,hb,?_⟩
     rcases ama.1 h with h|h
     ·exact .inl h
     ·exact .inr h
    ·exact .inl h
  ·exact .inr ⟨e',Q8 _ h1,h2,h3⟩
theorem Wf{all:List Oper}:∀(rest pre:List Oper) (acc:List (List Nat)),all=pre++rest→acc.length=pre.length→(∀ i k,k∈acc.getD i []→Reach all i k)→
  ∀ i k,k∈(iX rest acc).getD i []→Reach all i k
 |[],pre,acc,_,_,h,i,k,hk=>h i k hk
 |o::r,pre,acc,fk,jy,h,i,k,hk=>by
  simp only[iX] at hk;refine Wf r (pre++[o]) _ (by rw[fk];simp) (by simp[jy]) (fun i k hk=>?_) i k hk
  rcases Nat.lt_trichotomy i acc.length with hi|hi|hi
  ·rw[a8a,aVa hi,←a8a] at hk
   exact h i k hk
  ·subst hi
   simp only[a8a,List.getElem?_concat_length,cca] at hk;rcases Qh hk with hk|⟨e,h1,h2,h3⟩
   ·cases hk
   ·have ha:PQ all acc.length e.on:=⟨o,by rw[fk,jy];simp,e,by simpa using h1,h2,rfl⟩
    rcases h3 with rfl|h3
    ·exact .one ha
    ·exact .aey ha (h _ _ (by rw[a8a];simpa[a8a] using h3))
  ·rw[a8a,bCa (by simp;omega)] at hk
   cases hk
theorem Fe{all:List Oper}{i k:Nat}(h:k∈(iX all []).getD i []):Reach all i k:=
 Wf all [] [] rfl rfl (fun i k h=>by simp at h) i k h
theorem MH{all:List Oper}{done:List Nat}{i:Nat}:rdy all done i=true↔i∉done∧∃ o,all[i]? = some o∧∀ e∈o.after,eb e=true→e.on∈done:=by
 unfold rdy;cases ho:all[i]? with
 |none=>simp
 |some o=>
  simp only[Q3,aOa,ana,a5a,OQ,exists_eq_left'];constructor
  ·rintro⟨h1,h2⟩
   refine⟨(fun h=>(by rw[gO.2 h] at h1;cases h1)),fun e he hb=>?_⟩
   rcases h2 e (by simpa using he) with h|h
   ·rw[hb] at h;cases h
   ·exact gO.1 h
  ·rintro⟨h1,h2⟩
   refine⟨(by
    cases hm:eV i done with
    |false=>rfl
    |true=>exact absurd (gO.1 hm) h1),fun e he=>?_⟩
   cases hb:eb e with
   |false=>exact .inl rfl
   |true=>exact .inr (gO.2 (h2 e (by simpa using he) hb))
theorem MB{all:List Oper}{done:List Nat}{k:Nat}:k∈(List.range all.length).filter (rdy all done)↔rdy all done k=true:=by rw[bPa,bWa];refine⟨fun h=>h.2,fun h=>⟨?_,h⟩⟩;obtain⟨_,o,ho,_⟩:=MH.1 h;exact(aka.1 ho).1
theorem J8{all:List Oper}{A:List (List Nat)}:∀{n:Nat} {done:List Nat},∃ l,l∈jb all A n done
 |0,_=>⟨[],Q7.2 rfl⟩
 |n+1,done=>by
  simp only[jb];split
  ·exact⟨[],Q7.2 rfl⟩
  ·rename_i i r _
   split
   ·rename_i k _
    obtain⟨l,hl⟩:=J8 (all:=all) (A:=A) (n:=n) (done:=k::done);exact⟨k::l,aIa hl⟩
   ·obtain⟨l,hl⟩:=J8 (all:=all) (A:=A) (n:=n) (done:=i::done)
    exact⟨i::l,bma.2 ⟨i,ata ..,aIa hl⟩⟩
theorem OK{all:List Oper}{A:List (List Nat)}{k:Nat}:Ll all A k=true↔∃ o,all[k]? = some o∧p7 all A k o=false:=by
 unfold Ll;cases h:all[k]? with
 |none=>simp
 |some o=>simp
end Go.Fx
namespace Go.Fx
theorem bO.put{G:Gh}{st:St}{act:Act}{d:Tmp}{av:ae}{v:Value}(hr:bO G st act)(hd:d<st.n)(hv:aO G av v):bO G (st.kf d av) (act.put (some d) v):=by
 obtain⟨h1,h2,h3⟩:=hr;refine⟨h1,by simp[Act.put,h2,St.kf],fun i x hx=>?_⟩
 rw[qI] at hx;simp only[Act.put];by_cases e:d=i
 ·subst e
  simp only[ava,OQ] at hx;subst hx;have:d<act.tmps.size:=by rw[h2];exact hd
  simpa[Array.getD,this] using hv
 ·simp only[e,Q9] at hx
  have:=h3 i x hx;simpa[aBa,Array.getElem?_setIfInBounds,e] using this
theorem bO.refine{G:Gh}{st:St}{act:Act}{d:Nat}{av:ae}(hr:bO G st act)(hv:aO G av (act.tmps.getD d undef)):bO G (st.kf d av) act:=by
 obtain⟨h1,h2,h3⟩:=hr;refine⟨h1,h2,fun i x hx=>?_⟩;rw[qI] at hx;by_cases e:d=i
 ·subst e;simp only[ava,OQ] at hx;subst hx;exact hv
 ·simp only[e,Q9] at hx;exact h3 i x hx
theorem az.kf{X:mS}{st:St}{G:Gh}{w:World}(hm:az X st G w)(d:Nat)(av:ae):az X (st.kf d av) G w:=
 {
  sl:=hm.sl,sh:=hm.sh,ob:=fun o ls h=>by obtain⟨arr,elem,mid,g1,g2,g3⟩:=hm.ob o ls h;refine⟨arr,elem,mid,g1,g2,?_⟩;unfold ip at g3 ⊢;rw[ke (st:=st) (fun j l=>by simp)];exact g3
  ar:=hm.ar,ah:=hm.ah,nd:=hm.nd,qs:=hm.qs,dS:=hm.dS,tY:=hm.tY,s0:=hm.s0,sn:=hm.sn,fr:=hm.fr,sz:=hm.sz,os:=hm.os,tp:=hm.tp,out:=hm.out,pin:=hm.pin,bv:=hm.bv,ap:=hm.ap,hv:=hm.hv,ds:=hm.ds,hh:=hm.hh}
def zf(d:Option Tmp)(v:ae)(st:St):Option St:=oZ d v st some
theorem QO{d:Option Tmp}{v:ae}{st:St}{R:Type}{r:R}{K:St→Option R}(h:oZ d v st K=some r):∃ s,zf d v st=some s∧K s=some r:=by
 cases d with
 |none=>exact⟨st,rfl,h⟩
 |some d=>
  simp only[zf,oZ] at h ⊢;cases hc:((look st.js d).isSome||Nat.ble st.n d) with
  |true=>simp[hc] at h
  |false=>simp only[hc,aqa] at h ⊢;exact⟨_,rfl,h⟩
theorem BT{d:Option Tmp}{v:ae}{st s:St}(h:zf d v st=some s):
  kv st s∧s.ci=st.ci∧s.cO=st.cO∧(∀ t,(∀ e,d=some e→e≠t)→s.ir t=st.ir t)∧(∀ e,d=some e→s.ir e=some v∧e<st.n):=by
 cases d with
 |none=>simp only[zf,oZ,OQ] at h;subst h;exact⟨.refl _,rfl,rfl,fun _ _=>rfl,fun _ h=>by cases h⟩
 |some d=>
  simp only[zf,oZ] at h;cases hc:((look st.js d).isSome||Nat.ble st.n d) with
  |true=>simp[hc] at h
  |false=>
   simp only[hc,aqa,OQ] at h;subst h;simp only[aGa] at hc;refine⟨⟨rfl,rfl,rfl,rfl⟩,rfl,rfl,fun t ht=>by rw[qI,aza (ht d rfl)],fun e he=>?_⟩
   cases he;refine⟨by rw[qI,a7a rfl],?_⟩
   rcases cQa d st.n with h|h
   ·exact h
   ·have:=Nat.ble_eq_true_of_le h;rw[this] at hc;cases hc.2
theorem OB{d:Option Tmp}{v:ae}{st s:St}(h:zf d v st=some s):s.Fc=st.Fc:=by
 cases d with
 |none=>simp only[zf,oZ,OQ] at h;subst h;rfl
 |some d=>
  simp only[zf,oZ] at h;cases hc:((look st.js d).isSome||Nat.ble st.n d) with
  |true=>simp[hc] at h
  |false=>simp only[hc,aqa,OQ] at h;subst h;rfl
theorem Ur{d:Option Tmp}{v:ae}{st s:St}(h:zf d v st=some s){X:mS}{G:Gh}{w:World}(hm:az X st G w):az X s G w:=by
 cases d with
 |none=>simp only[zf,oZ,OQ] at h;subst h;exact hm
 |some d=>
  simp only[zf,oZ] at h;cases hc:((look st.js d).isSome||Nat.ble st.n d) with
  |true=>simp[hc] at h
  |false=>simp only[hc,aqa,OQ] at h;subst h;exact hm.kf d v
theorem Uq{d:Option Tmp}{v:ae}{u:Value}{st s:St}(h:zf d v st=some s){G:Gh}{act:Act}(hr:bO G st act)(hv:aO G v u):bO G s (act.put d u):=by
 cases d with
 |none=>simp only[zf,oZ,OQ] at h;subst h;exact hr
 |some d=>
  obtain⟨_,_,_,_,h5⟩:=BT h;have hd:=(h5 d rfl).2;simp only[zf,oZ] at h;cases hc:((look st.js d).isSome||Nat.ble st.n d) with
  |true=>simp[hc] at h
  |false=>simp only[hc,aqa,OQ] at h;subst h;exact hr.put hd hv
end Go.Fx
namespace Go.Fx
def wa(st s:St):Prop:=kv st s∧s.ci=st.ci∧(s.cO=st.cO∧s.Fc=st.Fc)∧∀ t,s.ir t=st.ir t
theorem wa.refl(st:St):wa st st:=⟨.refl _,rfl,⟨rfl,rfl⟩,fun _=>rfl⟩
theorem JB{st:St}{g:Nat}{v:ae}(h:st.ir g=some v):wa st (st.kf g v):=
 ⟨⟨rfl,rfl,rfl,rfl⟩,rfl,⟨rfl,rfl⟩,fun t=>by
  rw[qI];by_cases e:g=t
  ·subst e;rw[a7a rfl,h]
  ·rw[aza e]⟩
theorem wa.GF{st s:St}(h:wa st s){X:mS}{G:Gh}{w:World}(hm:az X st G w):az X s G w:=by
 obtain⟨⟨h1,h2,h3,h4⟩,h5,⟨h6,h8⟩,h7⟩:=h;have ho:∀ o,s.dN o=st.dN o:=fun o=>by simp only[St.dN,h5]
 have ha:∀ a,s.arr a=st.arr a:=fun a=>by simp only[St.arr,h6,(bla h4).1]
 have Bw:∀ o j l,s.res o j l=st.res o j l:=fun o j l=>by cases l<;>simp[St.res,h3]
 have jG:∀ x b,eW G s x b→eW G st x b:=fun x b hx=>by
  obtain⟨k,n⟩:=x;cases k with
  |false=>obtain⟨⟨ls,e⟩,e2⟩:=hx;exact⟨⟨ls,by rw[←ho];exact e⟩,e2⟩
  |true=>obtain⟨⟨A,e,e2⟩,e3⟩:=hx;exact⟨⟨A,by rw[←ha];exact e,e2⟩,e3⟩
 exact {
   sl:=hm.sl,sh:=hm.sh,ob:=fun o ls h=>(by
    obtain⟨arr,elem,mid,g1,g2,g3⟩:=hm.ob o ls (by rw[←ho];exact h)
    refine⟨arr,elem,mid,g1,g2,?_⟩;unfold ip at g3 ⊢;rw[ke (st:=st) (fun j l=>Bw o j l)];exact g3)
   ar:=fun a A h=>hm.ar a A (by rw[←ha];exact h),ah:=fun a A h=>hm.ah a A (by rw[←ha];exact h),nd:=fun a A h=>hm.nd a A (by rw[←ha];exact h)
   qs:=fun x y b hx hy=>hm.qs x y b (jG x b hx) (jG y b hy),dS:=fun x b hx=>hm.dS x b (jG x b hx),tY:=fun x b hx=>hm.tY x b (jG x b hx)
   s0:=hm.s0,sn:=hm.sn,fr:=hm.fr,sz:=hm.sz,os:=hm.os,tp:=hm.tp,out:=hm.out
   pin:=fun o p h=>(by obtain⟨⟨ls,e⟩,e2⟩:=hm.pin o p h;exact⟨⟨ls,by rw[ho];exact e⟩,e2⟩)
   bv:=fun o j u h=>(by obtain⟨e1,⟨ls,e2,e3⟩,e4⟩:=hm.bv o j u h;exact⟨by rw[h3];exact e1,⟨ls,by rw[ho];exact e2,e3⟩,e4⟩),ap:=fun a u h=>(by obtain⟨e1,⟨A,e2⟩,e3⟩:=hm.ap a u h;exact⟨by rw[(bla h4).2];exact e1,⟨A,by rw[ha];exact e2⟩,e3⟩),hv:=fun a=>(by rw[hm.hv a];simp only[St.dC,h8]),ds:=hm.ds,hh:=fun a A h=>hm.hh a A (by rw[←ha];exact h)}
theorem wa.eB{st s:St}(h:wa st s){G:Gh}{act:Act}(hr:bO G st act):bO G s act:=
 ⟨hr.1,hr.2.1.trans h.1.1.symm,fun i v hv=>hr.2.2 i v (by rw[←h.2.2.2];exact hv)⟩
section
variable (E:tn) (all:List Oper)
def Wnt(o:Oper)(s:St):Prop:=o.guard=none∨∃ j tz g,o.guard=some (j,tz)∧qw all j=some g∧s.ir g=some (.one (.eZ .bool tz))
def Unw(o:Oper)(s:St):Prop:=∃ j tz g,o.guard=some (j,tz)∧qw all j=some g∧(s.ir g=some (.one .vV)∨s.ir g=some (.one (.eZ .bool (!tz))))
def D3(i:Nat)(log:List (Nat×List qf))(st:St)(next:List (Nat×List qf)→St→Prop)(KPok:ae→St→Prop):Prop:=
 ∃ o,all[i]? = some o∧∃ AO,wa st AO∧
  ((Unw all o AO∧∃ s,zf o.dst (.one .vV) AO=some s∧next log s)∨
   (Wnt all o AO∧
    (p7 all (iX all []) i o=true→log.all (fun p=>eV p.1 ((iX all []).getD i [])||IC p.2 (uI E o AO))=true∧
     ∃ u,HZ E o AO=some u∧(u.ok=true→∃ s,zf o.dst u.v u.s=some s∧next log s)∧(u.ok=false→KPok u.v u.s))∧
    (p7 all (iX all []) i o=false→yC E o AO=true∧∃ v,HZ E o AO=some ⟨v,AO,true⟩∧∃ s,zf o.dst v AO=some s∧next ((i,wx E o AO)::log) s)))
def vW(Kok:St→Prop)(KPok:ae→St→Prop):Nat→List Nat→List (Nat×List qf)→St→Prop
 |0,_,_,st=>Kok st
 |n+1,done,log,st=>(match (List.range all.length).filter (rdy all done) with
  |[]=>Kok st
  |i::r=>(match (i::r).find? (Ll all (iX all [])) with
   |some k=>D3 E all k log st (vW Kok KPok n (k::done)) KPok
   |none=>∀ k∈i::r,D3 E all k log st (vW Kok KPok n (k::done)) KPok))
theorem D3.mono{i:Nat}{log:List (Nat×List qf)}{st:St}{next adw:List (Nat×List qf)→St→Prop}{KPok SU:ae→St→Prop}(h:D3 E all i log st next KPok)(hn:∀ lg s,next lg s→adw lg s)(hp:∀ v s,KPok v s→SU v s):D3 E all i log st adw SU:=by
 obtain⟨o,h1,AO,h2,h3⟩:=h;refine⟨o,h1,AO,h2,?_⟩;rcases h3 with ⟨h3,s1,h4,h5⟩|⟨h3,h4,h5⟩
 ·exact .inl ⟨h3,s1,h4,hn _ _ h5⟩
 ·refine .inr ⟨h3,fun ht=>?_,fun ht=>?_⟩
  ·obtain⟨g1,u,g2,g3,g4⟩:=h4 ht
   exact⟨g1,u,g2,fun hu=>(by obtain⟨s1,g5,g6⟩:=g3 hu;exact⟨s1,g5,hn _ _ g6⟩),fun hu=>hp _ _ (g4 hu)⟩
  ·obtain⟨g1,v,g2,s1,g3,g4⟩:=h5 ht
   exact⟨g1,v,g2,s1,g3,hn _ _ g4⟩
theorem vW.mono{Kok afd:St→Prop}{KPok SU:ae→St→Prop}(hk:∀ s,Kok s→afd s)(hp:∀ v s,KPok v s→SU v s):∀{n:Nat} {done:List Nat} {log:List (Nat×List qf)} {st:St},vW E all Kok KPok n done log st→vW E all afd SU n done log st
 |0,_,_,_,h=>hk _ h
 |n+1,done,log,st,h=>by
  unfold vW at h ⊢;split
  ·rename_i hf;rw[hf] at h;exact hk _ h
  ·rename_i i r hf
   rw[hf] at h;simp only at h;split
   ·rename_i k hk';rw[hk'] at h;exact h.mono E all (fun lg s=>vW.mono hk hp) hp
   ·rename_i hk';rw[hk'] at h;exact fun k hkm=>(h k hkm).mono E all (fun lg s=>vW.mono hk hp) hp
inductive abw(n:Nat)(done:List Nat):Prop where
 |se:jb all (iX all []) n done=[[]]→(∀ Kok KPok log st,vW E all Kok KPok n done log st→Kok st)→((∀ i,rdy all done i=false)∨n=0)→abw n done
 |Ll (m k:Nat):n=m+1→rdy all done k=true→(∀ o,all[k]? = some o→p7 all (iX all []) k o=false)→(∀ r∈jb all (iX all []) m (k::done),k::r∈jb all (iX all []) n done)→
  (∀ Kok KPok log st,vW E all Kok KPok n done log st→D3 E all k log st (vW E all Kok KPok m (k::done)) KPok)→abw n done
 |agS (m:Nat):n=m+1→(∃ k,rdy all done k=true)→(∀ k,rdy all done k=true→(∀ o,all[k]? = some o→p7 all (iX all []) k o=true)∧(∀ r∈jb all (iX all []) m (k::done),k::r∈jb all (iX all []) n done)∧
  (∀ Kok KPok log st,vW E all Kok KPok n done log st→D3 E all k log st (vW E all Kok KPok m (k::done)) KPok))→abw n done
def lC(n:Nat)(done:List Nat):Prop:=(jb all (iX all []) n done=[[]]∧∀ Kok KPok log st,vW E all Kok KPok n done log st→Kok st)∨
 ∃ m,n=m+1∧(∃ k,rdy all done k=true)∧∀ k,rdy all done k=true→(∀ o,all[k]? = some o→p7 all (iX all []) k o=true)∧(∀ r∈jb all (iX all []) m (k::done),k::r∈jb all (iX all []) n done)∧
  (∀ Kok KPok log st,vW E all Kok KPok n done log st→D3 E all k log st (vW E all Kok KPok m (k::done)) KPok)
theorem acO(n:Nat)(done:List Nat):abw E all n done:=by
 cases n with
 |zero=>exact .se rfl (fun _ _ _ _ h=>h) (.inr rfl)
 |succ n=>
  cases hf:(List.range all.length).filter (rdy all done) with
  |nil=>
   refine .se (by simp only[jb,hf]) (fun _ _ _ _ h=>by unfold vW at h;rw[hf] at h;exact h) (.inl fun i=>?_)
   cases hr:rdy all done i with
   |false=>rfl
   |true=>have:=MB.2 hr;rw[hf] at this;cases this
  |cons i r=>
   cases hs:(i::r).find? (Go.Fx.Ll all (iX all [])) with
   |some k=>
    have hm:=b0a hs;rw[←hf] at hm;obtain⟨o,h1,h2⟩:=OK.1 (cxa hs);refine .Ll n k rfl (MB.1 hm) (fun o' ho'=>by rw[h1] at ho';cases ho';exact h2) (fun r' hr'=>?_) (fun _ _ _ _ h=>?_)
    ·simp only[jb,hf,hs];exact aIa hr'
    ·unfold vW at h;rw[hf] at h;simp only[hs] at h;exact h
   |none=>
    refine .agS n rfl ⟨i,MB.1 (by rw[hf];exact ata ..)⟩ fun k hk=>?_
    have hm:=MB.2 hk;rw[hf] at hm;refine⟨fun o ho=>?_,fun r' hr'=>?_,fun _ _ _ _ h=>?_⟩
    ·cases ht:p7 all (iX all []) k o with
     |true=>rfl
     |false=>exact absurd (OK.2 ⟨o,ho,ht⟩) (by have:=List.find?_eq_none.1 hs k hm;simpa using this)
    ·simp only[jb,hf,hs];exact bma.2 ⟨k,hm,aIa hr'⟩
    ·unfold vW at h;rw[hf] at h;simp only[hs] at h;exact h k hm
end
section
variable {E:tn} {all:List Oper}
theorem ui{A:List (List Nat)}{i:Nat}{o:Oper}(h:p7 all A i o=false):vO o.op=true:=by unfold p7 at h;simp only[aGa,boa] at h;exact h.1
variable (hD:∀ f s,E.BU f=some s→po s)
include hD
omit hD in
theorem OA{ι:Type}(x0:ι){R:Type}{r:R}{d:Option Tmp}{v:ae}{st:St}{K:ι→St→Option R}(h:∀ x,oZ d v st (K x)=some r):∃ s,zf d v st=some s∧∀ x,K x s=some r:=by obtain⟨s,h1,_⟩:=QO (h x0);refine⟨s,h1,fun x=>?_⟩;obtain⟨s',h3,h4⟩:=QO (h x);rw[h1] at h3;cases h3;exact h4
theorem aa9{ι:Type}(x0:ι){R:Type}{r:R}{i:Nat}{log:List (Nat×List qf)}{st:St}{K:ι→List (Nat×List qf)→St→Option R}{KP:ae→St→Option R}(h:∀ x,Xg E all (iX all []) i log st (K x) KP=some r):
  D3 E all i log st (fun lg s=>∀ x,K x lg s=some r) (fun v s=>KP v s=some r):=by
 simp only[Xg] at h;split at h
 ·cases h x0
 ·rename_i o ho
  refine⟨o,ho,?_⟩;have DM:∀{AO:St},(∀ x,GK E all (iX all []) i o log AO (K x) KP=some r)→
    (p7 all (iX all []) i o=true→log.all (fun p=>eV p.1 ((iX all []).getD i [])||IC p.2 (uI E o AO))=true∧
     ∃ u,HZ E o AO=some u∧(u.ok=true→∃ s,zf o.dst u.v u.s=some s∧∀ x,K x log s=some r)∧(u.ok=false→KP u.v u.s=some r))∧
    (p7 all (iX all []) i o=false→yC E o AO=true∧∃ v,HZ E o AO=some ⟨v,AO,true⟩∧∃ s,zf o.dst v AO=some s∧∀ x,K x ((i,wx E o AO)::log) s=some r):=fun {AO} h=>by
   unfold GK at h;constructor
   ·intro ht
    simp only[ht,aja] at h;cases hl:(log.all fun p=>eV p.1 ((iX all []).getD i [])||IC p.2 (uI E o AO)) with
    |false=>simp only[hl,aqa] at h;cases h x0
    |true=>
     simp only[hl,aja] at h;obtain⟨u,h1,_⟩:=Bk hD (h x0);have h2:∀ x,se (fun v st'=>oZ o.dst v st' (K x log)) KP u=some r:=fun x=>by obtain⟨u',h3,h4⟩:=Bk hD (h x);rw[h1] at h3;cases h3;exact h4
     refine⟨rfl,u,h1,fun hu=>?_,fun hu=>?_⟩
     ·exact OA x0 (K:=fun x=>K x log) fun x=>by simpa only[se,hu,aja] using h2 x
     ·simpa only[se,hu,aqa] using h2 x0
   ·intro ht
    simp only[ht,aqa] at h;cases hd:yC E o AO with
    |false=>simp only[hd,aqa] at h;cases h x0
    |true=>
     simp only[hd,aja] at h;obtain⟨u,h1,_⟩:=Bk hD (h x0);have hu:=Ow hD (ui ht) hd h1;have h2:∀ x,oZ o.dst u.v AO (K x ((i,wx E o AO)::log))=some r:=fun x=>by obtain⟨u',h3,h4⟩:=Bk hD (h x);rw[h1] at h3;cases h3;rw[hu] at h4;simpa only[se,aja] using h4
     rw[hu] at h1;exact⟨rfl,u.v,h1,OA x0 (K:=fun x=>K x ((i,wx E o AO)::log)) h2⟩
  have skip:∀{AO:St},(∀ x,oZ o.dst (.one .vV) AO (K x log)=some r)→∃ s,zf o.dst (.one .vV) AO=some s∧∀ x,K x log s=some r:=fun {AO} h=>OA x0 (K:=fun x=>K x log) h;split at h
  ·rename_i hg
   exact⟨st,.refl _,.inr ⟨.inl hg,DM h⟩⟩
  ·rename_i j tz hg
   split at h
   ·cases h x0
   ·rename_i g hgd
    split at h
    ·rename_i c xG
     cases c with
     |true=>
      simp only[aja] at h;have hs:=JB xG;have hre:(st.kf g (.one (.eZ .bool true))).ir g=some (.one (.eZ .bool true)):=by rw[qI,a7a rfl]
      cases tz with
      |true=>simp only[aja] at h;exact⟨_,hs,.inr ⟨.inr ⟨j,_,g,hg,hgd,hre⟩,DM h⟩⟩
      |false=>simp only[aqa] at h;exact⟨_,hs,.inl ⟨⟨j,_,g,hg,hgd,.inr hre⟩,skip h⟩⟩
     |false=>
      simp only[aqa] at h;have hs:=JB xG;have hre:(st.kf g (.one (.eZ .bool false))).ir g=some (.one (.eZ .bool false)):=by rw[qI,a7a rfl]
      cases tz with
      |true=>simp only[aja] at h;exact⟨_,hs,.inl ⟨⟨j,_,g,hg,hgd,.inr hre⟩,skip h⟩⟩
      |false=>simp only[aqa] at h;exact⟨_,hs,.inr ⟨.inr ⟨j,_,g,hg,hgd,hre⟩,DM h⟩⟩
    ·rename_i xG
     exact⟨st,.refl _,.inl ⟨⟨j,_,g,hg,hgd,.inl xG⟩,skip h⟩⟩
    ·cases h x0
theorem Uz{R:Type}{r:R}{K:St→Option R}{KP:ae→St→Option R}:∀{n:Nat} {done:List Nat} {log:List (Nat×List qf)} {st:St},(∀ l∈jb all (iX all []) n done,H6 E all (iX all []) l log st K KP=some r)→
  vW E all (fun s=>K s=some r) (fun v s=>KP v s=some r) n done log st
 |0,done,log,st,h=>h [] (Q7.2 rfl)
 |n+1,done,log,st,h=>by
  have one:∀ k,(∀ l∈jb all (iX all []) n (k::done),k::l∈jb all (iX all []) (n+1) done)→D3 E all k log st (vW E all (fun s=>K s=some r) (fun v s=>KP v s=some r) n (k::done)) (fun v s=>KP v s=some r):=fun k hk=>by obtain⟨l0,hl0⟩:=J8 (all:=all) (A:=iX all []) (n:=n) (done:=k::done);refine(aa9 hD (ι:={l // l∈jb all (iX all []) n (k::done)}) ⟨l0,hl0⟩ (K:=fun x lg s=>H6 E all (iX all []) x.1 lg s K KP) (fun x=>h (k::x.1) (hk x.1 x.2))).mono E all (fun lg s hn=>Uz fun l hl=>hn ⟨l,hl⟩) (fun _ _ h=>h)
  unfold vW;split
  ·rename_i hf
   exact h [] (by simp only[jb,hf];exact Q7.2 rfl)
  ·rename_i i r hf
   split
   ·rename_i k hs
    exact one k fun l hl=>by simp only[jb,hf,hs];exact aIa hl
   ·rename_i hs
    exact fun k hkm=>one k fun l hl=>by simp only[jb,hf,hs];exact bma.2 ⟨k,hkm,aIa hl⟩
end
end Go.Fx
namespace Go.Fx
theorem wQ{all:List Oper}{o:Oper}{j g:Nat}{tz:Bool}(h:o.guard=some (j,tz))(hg:qw all j=some g):g∈tL all o:=by simp[tL,h,hg]
theorem TX{t:Nat}:∀{l:List Operand},Operand.tmp t∈l→t∈SH l
 |x::r,h=>by
  rcases ama.1 h with rfl|h
  ·exact ata ..
  ·have:=TX h
   cases x<;>first|exact Q8 _ this|exact this
theorem Gz{all:List Oper}{o:Oper}{t:Nat}(h:Operand.tmp t∈o.op.operands):t∈tL all o:=
 ara _ (TX (by simpa using h))
theorem Kc{o:Oper}{l:List Nat}:Tp o l=true↔∃ d,o.dst=some d∧d∈l:=by
 unfold Tp;cases o.dst with
 |none=>simp
 |some d=>simp[gO]
structure YZ(all:List Oper):Prop where
 dst:∀(i j:Nat) (a b:Oper) (d:Nat),all[i]? = some a→all[j]? = some b→a.dst=some d→b.dst=some d→i=j
 agT:∀(i j:Nat) (a b:Oper) (d:Nat),all[i]? = some a→all[j]? = some b→b.dst=some d→d∈tL all a→i≠j→j∈(iX all []).getD i []∨i∈(iX all []).getD j []
 self:∀(i:Nat) (a:Oper) (d:Nat),all[i]? = some a→a.dst=some d→d∉tL all a
 sel:∀(i:Nat) (a:Oper) cs b,all[i]? = some a→a.op≠.select cs b
 low:∀(i:Nat) (a:Oper) (e:Edge),all[i]? = some a→e∈a.after→eb e=true→e.on<i
theorem Qa{all:List Oper}:RO all=true→∀(i j:Nat) (a b:Oper) (d:Nat),i<j→all[i]? = some a→all[j]? = some b→a.dst=some d→b.dst≠some d:=by
 induction all with
 |nil=>intro _ i j a b d _ ha;simp at ha
 |cons o r ih=>
  intro h i j a b d hij ha hb hd hbd;simp only[RO,Q3,aOa] at h;obtain⟨j,rfl⟩:∃ m,j=m+1:=⟨j - 1,by omega⟩
  rw[bta] at hb;cases i with
  |zero=>rw[bda,OQ] at ha;subst ha;have h1:=h.1;rw[hd] at h1;have h2:=aSa.1 h1 b (a1a hb);simp[hbd] at h2
  |succ i=>rw[bta] at ha;exact ih h.2 i j a b d (by omega) ha hb hd hbd
theorem sr{all:List Oper}{i:Nat}{a:Oper}(h:all[i]? = some a):(a,i)∈all.zipIdx:=by rw[List.mem_zipIdx_iff_getElem?];simpa using h
theorem acC{all:List Oper}(h:Eh all (iX all [])=true):YZ all:=by
 simp only[Eh,Q3] at h;obtain⟨⟨⟨h1,h2⟩,h3⟩,h4⟩:=h;refine⟨fun i j a b d ha hb hd hd'=>?_,fun i j a b d ha hb hd hl hG=>?_,fun i a d ha hd hl=>?_,fun i a cs b ha=>?_,fun i a e ha he hb=>?_⟩
 ·rcases Nat.lt_trichotomy i j with hij|hij|hij
  ·exact absurd hd' (Qa h1 i j a b d hij ha hb hd)
  ·exact hij
  ·exact absurd hd (Qa h1 j i b a d hij hb ha hd')
 ·have:=ana.1 (ana.1 h2 _ (sr ha)) _ (sr hb)
  simp only[a5a,aOa] at this;rcases this with ((e|e)|e)|e
  ·exact absurd (Q4 e) hG
  ·rw[Kc.2 ⟨d,hd,hl⟩] at e;cases e
  ·exact .inl (gO.1 e)
  ·exact .inr (gO.1 e)
 ·have:=ana.1 h4 _ (sr ha)
  simp only[Q3,aOa] at this;rw[Kc.2 ⟨d,hd,hl⟩] at this;cases this.1
 ·have:=ana.1 h3 a (a1a ha)
  intro e;simp[e] at this
 ·have:=ana.1 h4 _ (sr ha)
  simp only[Q3,ana,a5a,aOa] at this;rcases this.2 e (by simpa using he) with h|h
  ·rw[hb] at h;cases h
  ·simpa[b6a] using h
theorem K7{all:List Oper}{i j:Nat}{a b:Oper}{d:Nat}(ha:all[i]? = some a)(hb:all[j]? = some b)(hd:b.dst=some d)(hl:d∈tL all a)(hn:j∉(iX all []).getD i []):p7 all (iX all []) j b=true:=by
 unfold p7;simp only[a5a];refine .inr (List.any_eq_true.2 ⟨(a,i),sr ha,?_⟩);simp only[Q3,aOa];refine⟨Kc.2 ⟨d,hd,hl⟩,?_⟩;cases hm:eV j ((iX all []).getD i []) with
 |false=>rfl
 |true=>exact absurd (gO.1 hm) hn
section act
variable {all:List Oper} {a b:Act}
def Ro(T:Nat→Prop)(a b:Act):Prop:=∀ t,T t→a.tmps[t]? = b.tmps[t]?
theorem X2{o:Oper}(h:Ro (fun t=>t∈tL all o) a b):∀ x∈o.op.operands,a.eval x=b.eval x:=fun x hx=>by
 cases x with
 |tmp t=>have:=h t (Gz hx);simp only[Act.eval,aBa,this]
 |_=>rfl
theorem Tt{o:Oper}(hs:∀ cs b,o.op≠.select cs b)(h:Ro (fun t=>t∈tL all o) a b):execOp a.eval o=execOp b.eval o:=execOp_congr o hs (X2 h)
theorem UV{ops:Array Oper}{o:Oper}(h:Ro (fun t=>t∈tL ops.toList o) a b):Region.wanted o (yielded ops a.tmps)=Region.wanted o (yielded ops b.tmps):=by
 unfold Region.wanted;cases hg:o.guard with
 |none=>rfl
 |some p=>
  obtain⟨j,tz⟩:=p;have:yielded ops a.tmps j=yielded ops b.tmps j:=by
   show(match (((ops[j]?).bind (·.dst)).bind (a.tmps[·]?)) with|some (.bool b)=>some b|_=>none)=(match (((ops[j]?).bind (·.dst)).bind (b.tmps[·]?)) with|some (.bool b)=>some b|_=>none)
   cases hd:(ops[j]?).bind (·.dst) with
   |none=>rfl
   |some g=>
    have hg':qw ops.toList j=some g:=by simpa[qw] using hd
    simp only[bza,h g (wQ hg hg')]
  simp only[this]
end act
theorem OX{ops:Array Oper}{o:Oper}{s:St}{G:Gh}{a:Act}(hr:bO G s a)(h:Wnt ops.toList o s):Region.wanted o (yielded ops a.tmps)=true:=by
 rcases h with h|⟨j,tz,g,h1,h2,h3⟩
 ·simp[Region.wanted,h]
 ·have hv:=wJ (v:=.one (.eZ .bool tz)) rfl (hr.2.2 g _ h3)
  have Mw:(ops[j]?).bind (·.dst)=some g:=by simpa[qw] using h2
  have NM:a.tmps[g]? = some (.bool tz):=by
   rw[aBa] at hv;cases hq:a.tmps[g]? with
   |none=>rw[hq] at hv;cases hv
   |some u=>rw[hq] at hv;simpa using hv
  simp[Region.wanted,h1,yielded,Mw,NM]
theorem OW{ops:Array Oper}{o:Oper}{s:St}{G:Gh}{a:Act}(hr:bO G s a)(h:Unw ops.toList o s):Region.wanted o (yielded ops a.tmps)=false:=by
 obtain⟨j,tz,g,h1,h2,h3⟩:=h;have Mw:(ops[j]?).bind (·.dst)=some g:=by simpa[qw] using h2
 rcases h3 with h3|h3
 ·have hv:a.tmps.getD g undef=undef:=hr.2.2 g _ h3
  rw[aBa] at hv;cases hq:a.tmps[g]? with
  |none=>simp[Region.wanted,h1,yielded,Mw,hq]
  |some u=>rw[hq] at hv;simp only[cca] at hv;subst hv;simp[Region.wanted,h1,yielded,Mw,hq,undef]
 ·have hv:=wJ (v:=.one (.eZ .bool (!tz))) rfl (hr.2.2 g _ h3)
  have NM:a.tmps[g]? = some (.bool (!tz)):=by
   rw[aBa] at hv;cases hq:a.tmps[g]? with
   |none=>rw[hq] at hv;cases hv
   |some u=>rw[hq] at hv;simpa using hv
  cases tz<;>simp[Region.wanted,h1,yielded,Mw,NM]
end Go.Fx
namespace Go.Fx
theorem P7{α:Type}{p q:α→Bool}:∀{l:List α},(∀ x∈l,q x=true→p x=true)→(∃ x∈l,p x=true∧q x=false)→l.countP q<l.countP p
 |[],_,⟨x,hx,_⟩=>by cases hx
 |a::l,h,⟨x,hx,h1,h2⟩=>by
  have Cm:l.countP q≤l.countP p:=List.countP_mono_left fun y hy hq=>h y (Q8 _ hy) hq;rw[List.countP_cons,List.countP_cons];rcases ama.1 hx with rfl|hx
  ·simp only[h1,h2,ava,asa,Q9];omega
  ·have:=P7 (fun y hy=>h y (Q8 _ hy)) ⟨x,hx,h1,h2⟩
   have ha:=h a (ata ..);by_cases hq:q a=true
   ·simp only[hq,ha hq,ava];omega
   ·rw[aza hq];split<;>omega
theorem Sy{a:Act}{d:Option Tmp}{v:Value}{t:Nat}(h:d≠some t):(a.put d v).tmps[t]? = a.tmps[t]?:=by
 cases d with
 |none=>rfl
 |some d=>
  have:d≠t:=fun e=>h (by rw[e])
  simp[Act.put,bsa this]
theorem tw(a:Act)(d:Option Tmp)(v:Value):(a.put d v).defers=a.defers:=by cases d<;>rfl
theorem ET(a:Act)(d:Option Tmp)(v:Value):(a.put d v).tmps.size=a.tmps.size:=by cases d<;>simp[Act.put]
theorem aaN{a b:Act}{d:Option Tmp}{v:Value}{t:Nat}(hs:a.tmps.size=b.tmps.size)(h:d=some t):(a.put d v).tmps[t]? = (b.put d v).tmps[t]?:=by subst h;simp[Act.put,Array.getElem?_setIfInBounds,hs]
section
variable {E:tn} {all:List Oper}
theorem OE{o:Oper}{s st:St}(he:∀ x∈o.op.operands,ev E s x=ev E st x):wx E o s=wx E o st:=by
 unfold wx;split<;>rename_i mH
 ·rw[he _ (by simp[mH,Op.operands])]
 ·rw[he _ (by simp[mH,Op.operands])]
 ·rw[he _ (by simp[mH,Op.operands])]
 ·rw[he _ (by simp[mH,Op.operands])]
 ·rename_i c
  have:c.args.toList.map (ev E s)=c.args.toList.map (ev E st):=b3a fun x hx=>he x (by simp[mH,Op.operands,Call.operands];exact .inr (by simpa using hx))
  rw[this]
 ·rfl
theorem Wu{o:Oper}{s st:St}(h:∀ t∈tL all o,s.ir t=st.ir t):∀ x∈o.op.operands,ev E s x=ev E st x:=fun x hx=>by
 cases x with
 |tmp t=>simp only[ev,h t (Gz hx)]
 |_=>rfl
theorem UW{o:Oper}{s st:St}(h:∀ t∈tL all o,s.ir t=st.ir t)(hw:Wnt all o st):Wnt all o s:=by
 rcases hw with hw|⟨j,tz,g,h1,h2,h3⟩
 ·exact .inl hw
 ·exact .inr ⟨j,tz,g,h1,h2,by rw[h g (wQ h1 h2)];exact h3⟩
theorem UR{o:Oper}{s st:St}(h:∀ t∈tL all o,s.ir t=st.ir t)(hw:Unw all o st):Unw all o s:=by obtain⟨j,tz,g,h1,h2,h3⟩:=hw;exact⟨j,tz,g,h1,h2,by rw[h g (wQ h1 h2)];exact h3⟩
variable (hD:∀ f s,E.BU f=some s→po s)
include hD
theorem agr{o:Oper}{s st:St}{v:ae}(ho:vO o.op=true)(hd:yC E o st=true)(h:HZ E o st=some ⟨v,st,true⟩)(hb:kv st s)(he:∀ x∈o.op.operands,ev E s x=ev E st x)(hk:∀ p∈wx E o st,tB st s p):
  yC E o s=true∧HZ E o s=some ⟨v,s,true⟩:=by
 obtain⟨h1,h2⟩:=V0 ho hd hb he hk;refine⟨h1,?_⟩;have h3:=h2 (K:=some) (r:=v) (by rw[Zq hD h])
 obtain⟨u,h4,h5⟩:=Bk hD h3;have h6:=Ow hD ho h1 h4;rw[h6] at h5 h4;simp only[se,aja,OQ] at h5;rw[h4,h5]
where
 Zq {o:Oper} {st:St} {v:ae} (hD:∀ f s,E.BU f=some s→po s) (h:HZ E o st=some ⟨v,st,true⟩):mr E o st (fun v _=>some v) (fun _ _=>none)=some v:=by rw[Ci hD h];rfl
def U2(E:tn)(all:List Oper)(i:Nat)(log:List (Nat×List qf))(s:St):Prop:=∃ o,all[i]? = some o∧p7 all (iX all []) i o=false∧
 ((Unw all o s∧∀ d,o.dst=some d→s.ir d=some (.one .vV)∧d<s.n)∨
  (Wnt all o s∧yC E o s=true∧(i,wx E o s)∈log∧∃ v,HZ E o s=some ⟨v,s,true⟩∧∀ d,o.dst=some d→s.ir d=some v∧d<s.n))
theorem U2.lE{k:Nat}{log N6:List (Nat×List qf)}{s s1:St}(hp:U2 E all k log s)(hb:kv s s1)(xG:∀ o,all[k]? = some o→∀ t,t∈tL all o∨o.dst=some t→s1.ir t=s.ir t)
  (hk:∀ rd,(k,rd)∈log→∀ p∈rd,tB s s1 p) (hl:∀ x∈log,x∈N6):U2 E all k N6 s1:=by
 obtain⟨o,h1,h2,h3⟩:=hp;have hr:∀ t∈tL all o,s1.ir t=s.ir t:=fun t ht=>xG o h1 t (.inl ht);refine⟨o,h1,h2,?_⟩;rcases h3 with ⟨h3,h4⟩|⟨h3,h4,h5,v,h6,h7⟩
 ·exact .inl ⟨UR hr h3,fun d hd=>by rw[xG o h1 d (.inr hd),hb.1];exact h4 d hd⟩
 ·have he:=Wu (E:=E) hr
  obtain⟨g1,g2⟩:=agr hD (ui h2) h4 h6 hb he (hk _ h5);exact .inr ⟨UW hr h3,g1,by rw[OE he];exact hl _ h5,v,g2,fun d hd=>by rw[xG o h1 d (.inr hd),hb.1];exact h7 d hd⟩
end
end Go.Fx
namespace Go.Fx
structure Inv(E:tn)(X:mS)(ops:Array Oper)(Kok:St→Prop)(KPok:ae→St→Prop)(n:Nat)(done:List Nat)(log:List (Nat×List qf))(s:St)(G:Gh)(as:Act)(eA:Array Bool)(act:Act)(w:World):Prop where
 can:vW E ops.toList Kok KPok n done log s
 cov:∀ l∈jb ops.toList (iX ops.toList []) n done,∀ i,i<ops.size→i∈done∨i∈l
 clo:Clo ops.toList (·∈done)
 Vp:Clo ops.toList (fun i=>eA.getD i false=true)
 N9:∀ i,eA.getD i false=true→i∈done
 lsz:eA.size=ops.size
 GF:az X s G w
 ir:bO G s as
 Ss:∀ i,i∈done→eA.getD i false=false→U2 E ops.toList i log s
 dfs:act.defers=as.defers
 sz:act.tmps.size=as.tmps.size
 lG:∀ t,(∀ i o,i∈done→eA.getD i false=false→ops.toList[i]? = some o→o.dst≠some t)→act.tmps[t]? = as.tmps[t]?
section
variable {P:Program} {E:tn} (hE:iO P E.iE) (hS:∀ f s,E.BU f=some s→Bc P E.gt f s) (hC:∀ f s,E.BU f=some s→nz s) (hD:∀ f s,E.BU f=some s→po s)
 {X:mS} (zA:nG E.gt X.S0) {ops:Array Oper} (xH:YZ ops.toList) {Q:Exit→Act→World→Prop} {Kok:St→Prop} {KPok:ae→St→Prop}
 (hK:∀ st G w act,az X st G w→bO G st act→Kok st→Q .normal act w)
 (hP:∀ av v st G w act,az X st G w→act.defers=G.ds→aO G av v→KPok av st→Q (.panic [{v,recovered:=false}]) act w)
theorem RU{eA:Array Bool}{i:Nat}(h:i<eA.size):eA.getD i true=eA.getD i false:=by simp[h]
theorem Bo{eA:Array Bool}{i:Nat}(h:i<eA.size)(j:Nat):(eA.setIfInBounds i true).getD j false=if i=j then true else eA.getD j false:=by
 by_cases e:i=j
 ·subst e;simp[h]
 ·rw[getD_set_ne false e,aza e]
theorem QM{s s1:St}{log N6:List (Nat×List qf)}{done:List Nat}{eA:Array Bool}{i:Nat}{o:Oper}(hD:∀ f s,E.BU f=some s→po s)(xH:YZ ops.toList)(afJ:Clo ops.toList (·∈done))(hi:i∉done)(ho:ops.toList[i]? = some o)
  (af1:∀ k,k∈done→eA.getD k false=false→U2 E ops.toList k log s)
  (hb:kv s s1) (xG:∀ t,o.dst≠some t→s1.ir t=s.ir t)
  (hk:∀ k rd,k∈done→eA.getD k false=false→(k,rd)∈log→∀ p∈rd,tB s s1 p) (hl:∀ x∈log,x∈N6)
  (ZW:p7 ops.toList (iX ops.toList []) i o=false∨∀ k,Reach ops.toList i k→eA.getD k false=true):
  ∀ k,k∈done→eA.getD k false=false→U2 E ops.toList k N6 s1:=by
 intro k hkd AD;refine(af1 k hkd AD).lE hD hb (fun ok hok t ht=>xG t fun hd=>?_) (fun rd AR=>hk k rd hkd AD AR) hl;have hG:k≠i:=fun e=>hi (e ▸ hkd);rcases ht with ht|ht
 ·rcases xH.agT k i ok o t hok ho hd ht hG with h|h
  ·exact hi (afJ.Uu (Fe h) hkd)
  ·rcases ZW with h' | h'
   ·by_cases hA:i∈(iX ops.toList []).getD k []
    ·exact hi (afJ.Uu (Fe hA) hkd)
    ·rw[K7 hok ho hd ht hA] at h';cases h'
   ·rw[h' k (Fe h)] at AD;cases AD
 ·exact hG (xH.dst k i ok o t hok ho ht hd)
include hE hD zA xH in
theorem VU{eA:Array Bool}{act:Act}{w:World}:∀{n:Nat} {done:List Nat} {log:List (Nat×List qf)} {s:St} {G:Gh} {as:Act},Inv E X ops Kok KPok n done log s G as eA act w→
  ∃ n' Nn aaf s' G' as',Inv E X ops Kok KPok n' Nn aaf s' G' as' eA act w∧lC E ops.toList n' Nn
 |n,done,log,s,G,as,h=>by
  cases acO E (all:=ops.toList) n done with
  |se h1 h2 _=>exact⟨n,done,log,s,G,as,h,.inl ⟨h1,h2⟩⟩
  |agS m h1 h2 h3=>exact⟨n,done,log,s,G,as,h,.inr ⟨m,h1,h2,h3⟩⟩
  |Ll m i hnm hr fk DJ NT=>
   subst hnm;obtain⟨hid,o',ho',RW⟩:=MH.1 hr;obtain⟨o,ho,AO,Cp,hc⟩:=NT _ _ _ _ h.can;obtain rfl:o=o':=by rw[ho] at ho';exact bxa ho'
   have ht:=fk o ho;have F6:eA.getD i false=false:=by
    cases hl:eA.getD i false with
    |false=>rfl
    |true=>exact absurd (h.N9 i hl) hid
   have ZE:Clo ops.toList (·∈i::done):=fun a k ha hak=>by
    rcases ama.1 ha with rfl|ha
    ·obtain⟨o2,h1,e,h2,h3,rfl⟩:=hak
     rw[ho] at h1;cases h1;exact Q8 _ (RW e h2 h3)
    ·exact Q8 _ (h.clo a k ha hak)
   have ad8:∀ l∈jb ops.toList (iX ops.toList []) m (i::done),∀ k,k<ops.size→k∈i::done∨k∈l:=fun l hl k hk=>by
    rcases h.cov _ (DJ l hl) k hk with h1|h1
    ·exact .inl (Q8 _ h1)
    ·rcases ama.1 h1 with rfl|h1
     ·exact .inl (ata ..)
     ·exact .inr h1
   have adl:∀ t∈tL ops.toList o,o.dst≠some t:=fun t ht hd=>xH.self i o t ho hd ht;have go:∀{v:ae} {u:Value} {s1:St} {N6:List (Nat×List qf)} {G1:Gh},zf o.dst v AO=some s1→az X AO G1 w→bO G1 AO as→aO G1 v u→vW E ops.toList Kok KPok m (i::done) N6 s1→
     (∀ x∈log,x∈N6)→U2 E ops.toList i N6 s1→∃ n' Nn aaf s' G' as',Inv E X ops Kok KPok n' Nn aaf s' G' as' eA act w∧lC E ops.toList n' Nn:=
    fun {v u s1 N6 G1} Bu hm hr hv Ko aee hpi=>by
     obtain⟨p1,p2,p3,p4,p5⟩:=BT Bu;have hb:kv s s1:=Cp.1.trans p1;refine VU (n:=m) (done:=i::done) (log:=N6) (s:=s1) (G:=G1) (as:=as.put o.dst u)
      {
       can:=Ko,cov:=ad8,clo:=ZE,Vp:=h.Vp,N9:=fun k hk=>Q8 _ (h.N9 k hk),lsz:=h.lsz
       GF:=Ur Bu hm,ir:=Uq Bu hr hv,Ss:=fun k hk AD=>?_,dfs:=by rw[tw];exact h.dfs,sz:=by rw[ET];exact h.sz,lG:=fun t ht=>?_}
     ·rcases ama.1 hk with rfl|hk
      ·exact hpi
      ·exact QM hD xH h.clo hid ho h.Ss hb (fun t ht=>by rw[p4 t (fun e he e2=>ht (by rw[he,e2])),Cp.2.2.2]) (fun k rd _ _ _ p _=>BA (by rw[p2,Cp.2.1]) (by rw[p3,Cp.2.2.1.1]) (by rw[(bla p1.2.2.2).1,(bla Cp.1.2.2.2).1]) (by rw[OB Bu,Cp.2.2.1.2]) p) aee (.inl ht) k hk AD
     ·rw[Sy (ht i o (ata ..) F6 ho)]
      exact h.lG t fun k ok hk=>ht k ok (Q8 _ hk)
   rcases hc with ⟨hu,s1,Bu,Ko⟩|⟨hw,_,aem⟩
   ·obtain⟨p1,p2,p3,p4,p5⟩:=BT Bu
    exact go Bu (Cp.GF h.GF) (Cp.eB h.ir) (show aO G (.one .vV) undef from rfl) Ko (fun _ h=>h)
     ⟨o,ho,ht,.inl ⟨UR (fun t ht'=>p4 t fun e he e2=>adl t ht' (by rw[he,e2])) hu,fun d hd=>⟨(p5 d hd).1,by rw[p1.1];exact(p5 d hd).2⟩⟩⟩
   ·obtain⟨hd,v,yF,s1,Bu,Ko⟩:=aem ht
    obtain⟨p1,p2,p3,p4,p5⟩:=BT Bu;obtain⟨u,G1,_,L6,hr1,hv1⟩:=UI hE (ui ht) hd yF zA (Cp.GF h.GF) (Cp.eB h.ir);have adj:∀ t∈tL ops.toList o,s1.ir t=AO.ir t:=fun t ht'=>p4 t fun e he e2=>adl t ht' (by rw[he,e2])
    have he:=Wu (E:=E) adj;obtain⟨g1,g2⟩:=agr hD (ui ht) hd yF p1 he (fun p _=>BA p2 p3 (bla p1.2.2.2).1 (OB Bu) p);exact go Bu L6 (hr1 _ (Cp.eB h.ir)) hv1 Ko (fun _ h=>Q8 _ h)
     ⟨o,ho,ht,.inr ⟨UW adj hw,g1,by rw[OE he];exact ata ..,v,g2,fun d hd=>⟨(p5 d hd).1,by rw[p1.1];exact(p5 d hd).2⟩⟩⟩
end
end Go.Fx
namespace Go.Fx
theorem bO.Us{G:Gh}{s:St}{a:Act}{d:Option Tmp}{v:ae}{u:Value}(hr:bO G s a)(hd:∀ e,d=some e→s.ir e=some v∧e<s.n)(hv:aO G v u):bO G s (a.put d u):=by
 cases d with
 |none=>exact hr
 |some d=>
  obtain⟨h1,h2⟩:=hd d rfl;have:=hr.put (av:=v) h2 hv;exact⟨this.1,this.2.1,fun i x hx=>this.2.2 i x (by
   rw[qI];by_cases e:d=i
   ·subst e;rw[a7a rfl,←h1,hx]
   ·rw[aza e];exact hx)⟩
theorem abo{P:Program}{o:Oper}{a b:Act}{N1 N2:Act→World→Prop}{Q1 Q2:Exit→Act→World→Prop}{res:Result Next}(hb:∀ a' w,N1 a' w→∃ v,a' = b.put o.dst v∧N2 (a.put o.dst v) w)(hdd:a.defers=b.defers)
  (hp:∀ c w,Q1 (.panic c) b w→Q2 (.panic c) a w) (ho:LetsOut Q1→LetsOut Q2) (ahn:∀ v v',b.put o.dst v=b.put o.dst v'→a.put o.dst v=a.put o.dst v') (h:o.upon P b N1 Q1 res):o.upon P a N2 Q2 res:=by
 have nx:∀ v w,N1 (b.put o.dst v) w→N2 (a.put o.dst v) w:=fun v w hn=>by obtain⟨v',h1,h2⟩:=hb _ _ hn;rw[ahn v v' h1];exact h2
 cases res with
 |ok n w'=>
  cases n<;>simp only[Oper.upon] at h ⊢
  case value u=>exact nx _ _ h
  case skip=>exact nx _ _ h
  case defer d=>
   obtain⟨v',h1,h2⟩:=hb _ _ h;have:d::b.defers=b.defers:=by have:=bLa Act.defers h1;rw[tw,tw] at this;exact this
   exact absurd this (by simp)
  case enter f args=>
   refine Calls.mono h fun e w'' he=>?_;cases e with
   |returned u=>exact nx _ _ he
   |panicked c=>exact hp _ _ he
   |outgrown=>exact ho he
  case row row args=>exact Rows.mono h fun u w'' he=>nx _ _ he
 |halt x w'=>
  cases x<;>simp only[Oper.upon] at h ⊢
  case panic u=>exact hp _ _ h
section
variable {P:Program} {E:tn} (hE:iO P E.iE) (hS:∀ f s,E.BU f=some s→Bc P E.gt f s) (hC:∀ f s,E.BU f=some s→nz s) (hD:∀ f s,E.BU f=some s→po s)
 {X:mS} (zA:nG E.gt X.S0) {ops:Array Oper} (xH:YZ ops.toList) {Q:Exit→Act→World→Prop} {Kok:St→Prop} {KPok:ae→St→Prop}
 (hK:∀ st G w act,az X st G w→bO G st act→Kok st→Q .normal act w)
 (hP:∀ av v st G w act,az X st G w→act.defers=G.ds→aO G av v→KPok av st→Q (.panic [{v,recovered:=false}]) act w)
include hK in
theorem MW{n:Nat}{done:List Nat}{log:List (Nat×List qf)}{s:St}{G:Gh}{as act:Act}{eA:Array Bool}{w:World}(h:Inv E X ops Kok KPok n done log s G as eA act w)(hh:lC E ops.toList n done)(fk:∀ i,i<ops.size→eA.getD i false=true):Q .normal act w:=by
 have Ko:Kok s:=by
  rcases hh with ⟨_,h2⟩|⟨m,_,⟨i,hr⟩,_⟩
  ·exact h2 _ _ _ _ h.can
  ·obtain⟨h1,o,h2,_⟩:=MH.1 hr
   exact absurd (h.N9 i (fk i (by simpa using (aka.1 h2).1))) h1
 have RV:act=as:=by
  have htm:act.tmps=as.tmps:=by
   apply Array.ext h.sz;intro i h1 h2;have:=h.lG i (fun k o hk AD hko=>by
    have bg:k<ops.size:=by simpa using (aka.1 hko).1
    rw[fk k bg] at AD;cases AD)
   simpa[h1,h2] using this
  cases act;cases as;simp only at htm;have:=h.dfs;simp only at this;rw[htm,this]
 rw[RV];exact hK _ _ _ _ h.GF h.ir Ko
theorem Yy(xH:YZ ops.toList){eA:Array Bool}(mX:eA.size=ops.size)(h:Region.ready .any ops eA=[]):∀ i,i<ops.size→eA.getD i false=true:=by
 intro i;induction i using Nat.strongRecOn with
 |ind i ih=>
  intro hi;cases hl:eA.getD i false with
  |true=>rfl
  |false=>
   have:i∈Region.ready .any ops eA:=mem_ready.2 ⟨by rw[RU (by omega)];exact hl,ops[i],by simp[hi],fun e he hb=>by
    have Po:=xH.low i ops[i] e (by simp[hi]) he (by rw[No];exact hb)
    exact ih e.on Po (by omega)⟩
   rw[h] at this;cases this
include hE hS hC hD zA xH hK hP in
theorem OV:∀(F1:Nat) {eA:Array Bool} {act:Act} {w:World} {n:Nat} {done:List Nat} {log:List (Nat×List qf)} {s:St} {G:Gh} {as:Act},Inv E X ops Kok KPok n done log s G as eA act w→
  lC E ops.toList n done→(List.range ops.size).countP (fun i=>!eA.getD i false)≤F1→wpAny P .any ops Q F1 eA act w
 |0,eA,act,w,n,done,log,s,G,as,h,NN,hf=>by
  have fk:∀ i,i<ops.size→eA.getD i false=true:=fun i hi=>by
   have h0:(List.range ops.size).countP (fun i=>!eA.getD i false)=0:=by omega
   have:=List.countP_eq_zero.1 h0 i (bWa.2 hi);simpa using this
  refine⟨List.eq_nil_iff_forall_not_mem.2 fun i hi=>?_,MW hK h NN fk⟩;obtain⟨h1,o,h2,_⟩:=mem_ready.1 hi;have bg:i<ops.size:=(cda.1 h2).1;rw[RU (by rw[h.lsz];exact bg),fk i bg] at h1;cases h1
 |F1+1,eA,act,w,n,done,log,s,G,as,h,NN,hf=>by
  refine⟨fun hr=>MW hK h NN (Yy xH h.lsz hr),fun i hi=>?_⟩;obtain⟨hl1,o,hoa,ac8⟩:=mem_ready.1 hi;have bg:i<ops.size:=(cda.1 hoa).1;have HN:i<eA.size:=by rw[h.lsz];exact bg
  have F6:eA.getD i false=false:=by rw[←RU HN];exact hl1
  have ho:ops.toList[i]? = some o:=by simpa using hoa
  have RW:∀ k,PQ ops.toList i k→eA.getD k false=true:=fun k ⟨o2,h1,e,h2,h3,h4⟩=>by rw[ho] at h1;cases h1;rw[←h4];exact ac8 e h2 (by rw[←No];exact h3)
  have R0:∀ k,Reach ops.toList i k→eA.getD k false=true:=fun k hk=>h.Vp.ready RW hk;let nD:=eA.setIfInBounds i true;have hlc:Clo ops.toList (fun k=>nD.getD k false=true):=fun a k ha hak=>by
   show(eA.setIfInBounds i true).getD k false=true;rw[Bo HN];by_cases e:i=k
   ·simp[e]
   ·rw[aza e]
    by_cases e2:i=a
    ·subst e2;exact RW k hak
    ·have ha':eA.getD a false=true:=by
      have:=ha;simp only[nD,Bo HN,aza e2] at this;exact this
     exact h.Vp a k ha' hak
  have hlz:nD.size=ops.size:=by simp[nD,h.lsz]
  have hun:∀ k,nD.getD k false=false→k≠i∧eA.getD k false=false:=fun k hk=>by
   simp only[nD,Bo HN] at hk;by_cases e:i=k
   ·simp[e] at hk
   ·rw[aza e] at hk;exact⟨fun h=>e h.symm,hk⟩
  have afK:(List.range ops.size).countP (fun k=>!nD.getD k false)≤F1:=by
   have:=P7 (p:=fun k=>!eA.getD k false) (q:=fun k=>!nD.getD k false) (l:=List.range ops.size) (fun k _ hk=>by
    have:=hun k (by simpa using hk)
    simpa using this.2) ⟨i,bWa.2 bg,by simpa using F6,by simp[nD,HN]⟩
   omega
  have adf:Ro (fun t=>t∈tL ops.toList o) act as:=fun t ht=>by
   refine h.lG t fun k ok hk AD hko hd=>?_;by_cases e:k=i
   ·subst e
    rw[ho] at hko;cases hko;exact xH.self _ _ t ho hd ht
   ·rcases xH.agT i k o ok t ho hko hd ht (bBa e) with h1|h1
    ·rw[R0 k (Fe h1)] at AD;cases AD
    ·obtain⟨o2,g1,g2,_⟩:=h.Ss k hk AD
     rw[hko] at g1;cases g1;by_cases hA:k∈(iX ops.toList []).getD i []
     ·rw[R0 k (Fe hA)] at AD;cases AD
     ·rw[K7 ho hko hd ht hA] at g2;cases g2
  have afN:execOp act.eval o=execOp as.eval o:=Tt (fun cs b=>xH.sel i o cs b ho) adf;have abZ:Region.wanted o (yielded ops act.tmps)=Region.wanted o (yielded ops as.tmps):=UV adf;have ZS:∀(v:Value) t,(∀ k ok,k∈done→nD.getD k false=false→ops.toList[k]? = some ok→ok.dst≠some t)→(act.put o.dst v).tmps[t]? = (as.put o.dst v).tmps[t]?:=fun v t ht=>by
   by_cases e:o.dst=some t
   ·exact aaN h.sz e
   ·rw[Sy e,Sy e]
    refine h.lG t fun k ok hk AD hko hd=>?_;by_cases e2:k=i
    ·subst e2
     rw[ho] at hko;cases hko;exact e hd
    ·exact ht k ok hk (by simp only[nD,Bo HN,aza (bBa e2)];exact AD) hko hd
  unfold wpOp;simp only[hoa];by_cases hid:i∈done
  ·
   have go:∀{G1:Gh} {v:Value},az X s G1 w→bO G1 s (as.put o.dst v)→wpAny P .any ops Q F1 nD (act.put o.dst v) w:=fun {G1 v} hm hr=>
    OV F1 (n:=n) (done:=done) (log:=log) (s:=s) (G:=G1) (as:=as.put o.dst v)
     {
      can:=h.can,cov:=h.cov,clo:=h.clo,Vp:=hlc,lsz:=hlz,GF:=hm,ir:=hr
      N9:=fun k hk=>(by
       by_cases e:i=k
       ·rw[←e];exact hid
       ·simp only[nD,Bo HN,aza e] at hk;exact h.N9 k hk)
      Ss:=fun k hk AD=>h.Ss k hk (hun k AD).2,dfs:=by rw[tw,tw];exact h.dfs,sz:=by rw[ET,ET];exact h.sz
      lG:=ZS v} NN afK
   obtain⟨o2,g1,g2,g3⟩:=h.Ss i hid F6;rw[ho] at g1;cases g1;rcases g3 with ⟨hu,hd⟩|⟨hw,hdy,_,v,yF,hd⟩
   ·rw[abZ,OW h.ir hu]
    simp only[asa,Q9];exact go h.GF (h.ir.Us hd (show aO G (.one .vV) undef from rfl))
   ·rw[abZ,OX h.ir hw]
    simp only[ava];obtain⟨u,G1,iH,L6,hr1,hv1⟩:=UI hE (ui g2) hdy yF zA h.GF h.ir;refine .inl ?_;unfold Oper.wp;rw[afN,iH];exact go L6 ((hr1 _ h.ir).Us hd hv1)
  ·
   have ahz:rdy ops.toList done i=true:=MH.2 ⟨hid,o,ho,fun e he hb=>h.N9 _ (ac8 e he (by rw[←No];exact hb))⟩
   obtain⟨m,hnm,htn,DJ,NT⟩:∃ m,n=m+1∧p7 ops.toList (iX ops.toList []) i o=true∧(∀ r∈jb ops.toList (iX ops.toList []) m (i::done),i::r∈jb ops.toList (iX ops.toList []) n done)∧
     D3 E ops.toList i log s (vW E ops.toList Kok KPok m (i::done)) KPok:=by
    rcases NN with ⟨h1,_⟩|⟨m,h1,_,h3⟩
    ·rcases h.cov [] (by rw[h1];exact Q7.2 rfl) i bg with h2|h2
     ·exact absurd h2 hid
     ·cases h2
    ·obtain⟨g1,g2,g3⟩:=h3 i ahz
     exact⟨m,h1,g1 o ho,g2,g3 _ _ _ _ h.can⟩
   subst hnm;have ZE:Clo ops.toList (·∈i::done):=fun a k ha hak=>by
    rcases ama.1 ha with rfl|ha
    ·exact Q8 _ (h.N9 k (RW k hak))
    ·exact Q8 _ (h.clo a k ha hak)
   have ad8:∀ l∈jb ops.toList (iX ops.toList []) m (i::done),∀ k,k<ops.size→k∈i::done∨k∈l:=fun l hl k hk=>by
    rcases h.cov _ (DJ l hl) k hk with h1|h1
    ·exact .inl (Q8 _ h1)
    ·rcases ama.1 h1 with rfl|h1
     ·exact .inl (ata ..)
     ·exact .inr h1
   have go:∀{v:ae} {u:Value} {st' s1:St} {G1:Gh} {w1:World},zf o.dst v st' = some s1→az X st' G1 w1→bO G1 st' as→aO G1 v u→vW E ops.toList Kok KPok m (i::done) log s1→kv s st'→(∀ t,st'.ir t=s.ir t)→
     (∀ k rd,k∈done→eA.getD k false=false→(k,rd)∈log→∀ p∈rd,tB s st' p)→wpAny P .any ops Q F1 nD (act.put o.dst u) w1:=fun {v u st' s1 G1 w1} Bu hm hr hv Ko hbs hrg I1=>by
    obtain⟨p1,p2,p3,p4,p5⟩:=BT Bu;have aec:Inv E X ops Kok KPok m (i::done) log s1 G1 (as.put o.dst u) nD (act.put o.dst u) w1:=
     {
      can:=Ko,cov:=ad8,clo:=ZE,Vp:=hlc,lsz:=hlz,GF:=Ur Bu hm,ir:=Uq Bu hr hv
      N9:=fun k hk=>(by
       by_cases e:i=k
       ·rw[←e];exact ata ..
       ·simp only[nD,Bo HN,aza e] at hk;exact Q8 _ (h.N9 k hk))
      Ss:=fun k hk AD=>(by
       obtain⟨hki,AD⟩:=hun k AD;rcases ama.1 hk with e|hk
       ·exact absurd e hki
       ·exact QM hD xH h.clo hid ho h.Ss (hbs.trans p1) (fun t ht=>by rw[p4 t (fun e he e2=>ht (by rw[he,e2])),hrg]) (fun k rd a b c p hp=>(I1 k rd a b c p hp).trans (BA p2 p3 (bla p1.2.2.2).1 (OB Bu) p)) (fun _ h=>h) (.inr R0) k hk AD)
      dfs:=by rw[tw,tw];exact h.dfs,sz:=by rw[ET,ET];exact h.sz
      lG:=fun t ht=>ZS u t fun k ok hk=>ht k ok (Q8 _ hk)}
    obtain⟨n',Nn,aaf,s',G',as',ZI,hh'⟩:=VU hE hD zA xH aec;exact OV F1 ZI hh' afK
   obtain⟨o2,g1,AO,Cp,hc⟩:=NT;rw[ho] at g1;cases g1;have hr0:=Cp.eB h.ir;rcases hc with ⟨hu,s1,Bu,Ko⟩|⟨hw,ZW,_⟩
   ·rw[abZ,OW hr0 hu]
    simp only[asa,Q9];exact go Bu (Cp.GF h.GF) hr0 (show aO G (.one .vV) undef from rfl) Ko Cp.1 Cp.2.2.2 (fun k rd _ _ _ p _=>BA Cp.2.1 Cp.2.2.1.1 (bla Cp.1.2.2.2).1 Cp.2.2.1.2 p)
   ·rw[abZ,OX hr0 hw]
    simp only[ava];obtain⟨aee,u,yF,hok,wN⟩:=ZW htn;refine .inl ?_;let Q1:Exit→Act→World→Prop:=fun e a w=>match e with
     |.panic c=>a=as→Q (.panic c) act w
     |e=>Q e a w
    have hwp:o.wp P as w (fun a' w'=>∃ v,a' = as.put o.dst v∧wpAny P .any ops Q F1 nD (act.put o.dst v) w') Q1:=
     IS hE hS (K:=oA) (KP:=PJ) (r:=u) yF zA (Cp.GF h.GF) hr0
      (fun av v st' G' w' hm hr hv hu=>by
       simp only[oA,OQ] at hu;subst hu;obtain⟨s1,Bu,Ko⟩:=hok rfl;obtain⟨hb,abY⟩:=aaB hD hC yF;have abY:=abY rfl;refine⟨v,rfl,go Bu hm hr hv Ko (Cp.1.trans hb) (fun t=>?_) (fun k rd hk AD hkr p hp=>?_)⟩
       ·show st'.ir t=s.ir t
        rw[←Cp.2.2.2 t];have e1:st'.eB=AO.eB:=abY.eB;have e2:st'.js=AO.js:=hb.2.1;simp only[St.ir,e1,e2]
       ·have h1:=ana.1 aee _ hkr
        simp only[a5a] at h1;rcases h1 with h1|h1
        ·rw[R0 k (Fe (gO.1 h1))] at AD;cases AD
        ·refine(BA Cp.2.1 Cp.2.2.1.1 (bla Cp.1.2.2.2).1 Cp.2.2.1.2 p).trans (abY.lE fun q hq=>?_)
         exact ana.1 (ana.1 h1 p hp) q hq)
      (fun av v st' G' w' hm hv hu=>by
       simp only[PJ,OQ] at hu;subst hu;intro _;exact hP av v st' G' w' act hm (by rw[h.dfs];exact hr0.1.trans (h.GF.ds.trans hm.ds.symm)) hv (wN rfl))
    unfold Oper.wp at hwp ⊢;rw[afN];refine abo (Q1:=Q1) (Q2:=Q) (N2:=wpAny P .any ops Q F1 nD) (fun a' w' h=>h) h.dfs (fun c w' hq=>hq rfl) (fun⟨a,w',hq⟩=>⟨a,w',hq⟩) (fun v v' e=>?_) hwp;cases hd:o.dst with
    |none=>rfl
    |some d=>
     rw[hd] at e;have e1:=bLa Act.tmps e;simp only[Act.put] at e1 ⊢
     congr 1
     by_cases mT:d<act.tmps.size
     ·have:v=v':=by
       have h2:(as.tmps.setIfInBounds d v)[d]? = (as.tmps.setIfInBounds d v')[d]?:=by rw[e1]
       have ahe:d<as.tmps.size:=by rw[←h.sz];exact mT
       simpa[ahe] using h2
      rw[this]
     ·rw[cpa (cua mT),cpa (cua mT)]
include hE hS hC hD zA hK hP in
theorem Xh(ZL:P.follows .mixedOrders=true){id:Nat}{R:Type}{r:R}{K:St→Option R}{KP:ae→St→Option R}{st:St}{G:Gh}{w:World}{act:Act}(hd:Eh ops.toList (iX ops.toList [])=true)
  (h:∀ l∈jb ops.toList (iX ops.toList []) ops.toList.length [],Kb ops.toList l=true∧H6 E ops.toList (iX ops.toList []) l [] st K KP=some r)
  (ad6:∀ s,K s=some r→Kok s) (ZA:∀ av s,KP av s=some r→KPok av s) (hm:az X st G w) (hr:bO G st act):(Code.region id ops true).wp P Q act w:=by
 have xH:=acC hd;have afG:=Uz hD fun l hl=>(h l hl).2;refine wp_region_any ZL ?_;have hz:∀ i d,(Array.replicate ops.size false).getD i d=true→d=true:=fun i d hi=>by
  rcases cQa i ops.size with h' | h'
  ·simp[h'] at hi
  ·simpa[Array.getElem?_eq_none,h'] using hi
 have hf:∀ i,(Array.replicate ops.size false).getD i false=false:=fun i=>by
  cases hq:(Array.replicate ops.size false).getD i false with
  |false=>rfl
  |true=>have:=hz i false hq;cases this
 have aec:Inv E X ops Kok KPok ops.toList.length [] [] st G act (Array.replicate ops.size false) act {w with drawn:=w.drawn+1}:=
  {
   can:=afG.mono E ops.toList ad6 ZA,cov:=fun l hl i hi=>.inr (gO.1 (ana.1 (h l hl).1 i (bWa.2 (by simpa using hi))))
   clo:=fun a k ha=>by cases ha
   Vp:=fun a k ha=>by have ha':(Array.replicate ops.size false).getD a false=true:=ha;rw[hf] at ha';cases ha'
   N9:=fun i hi=>by rw[hf] at hi;cases hi
   lsz:=by simp,GF:=hm.drew,ir:=hr,Ss:=fun i hi=>by cases hi
   dfs:=rfl,sz:=rfl,lG:=fun t _=>rfl}
 obtain⟨n',Nn,aaf,s',G',as',ZI,hh'⟩:=VU hE hD zA xH aec;exact OV hE hS hC hD zA xH hK hP ops.size ZI hh' (by
  refine bEa List.countP_le_length ?_;simp)
include hE hS hC hD zA hK hP in
theorem acw(ZL:P.follows .mixedOrders=true){id:Nat}{R:Type}{r:R}{K:St→Option R}{KP:ae→St→Option R}{st:St}{G:Gh}{w:World}{act:Act}(h:VS E ops.toList st K KP=some r)
  (ad6:∀ s,K s=some r→Kok s) (ZA:∀ av s,KP av s=some r→KPok av s) (hm:az X st G w) (hr:bO G st act):(Code.region id ops true).wp P Q act w:=by
 unfold VS at h;cases hd:Eh ops.toList (iX ops.toList []) with
 |false=>simp[hd] at h
 |true=>
  simp only[hd,aja] at h;split at h
  ·rename_i l hl
   cases hc:Kb ops.toList l with
   |false=>rw[hc] at h;cases h
   |true=>rw[hc,aja] at h;exact Xh hE hS hC hD zA hK hP ZL hd (fun l' Mx=>by rw[hl] at Mx;obtain rfl:=Q7.1 Mx;exact⟨hc,h⟩) ad6 ZA hm hr
  ·cases h
end
end Go.Fx
namespace Go.Fx
structure Gj(P:Program)(E:tn):Prop where
 iE:iO P E.iE
 mix:P.follows .mixedOrders=true
 BU:∀ f s,E.BU f=some s→Bc P E.gt f s
 det:∀ f s,E.BU f=some s→po s
 RI:∀ f s,E.BU f=some s→nz s
 adr:∀ i L,E.oB i=some L→A6 L
theorem MG{X:mS}{st:St}{G:Gh}{w:World}{R:Type}{r:R}{act:Act}{d:Option Tmp}{av:ae}{v:Value}{K:St→Option R}(h:oZ d av st K=some r)(hm:az X st G w)(hr:bO G st act)(hv:aO G av v):
  ∃ st',az X st' G w∧bO G st' (act.put d v)∧K st' = some r:=by
 cases d with
 |none=>exact⟨st,hm,hr,h⟩
 |some d=>
  simp only[oZ] at h;cases hc:((look st.js d).isSome||Nat.ble st.n d) with
  |true=>simp[hc] at h
  |false=>
   simp only[hc,aqa] at h;simp only[aGa] at hc;have hd:d<st.n:=by
    rcases cQa d st.n with h' | h'
    ·exact h'
    ·have:=Nat.ble_eq_true_of_le h';rw[this] at hc;cases hc.2
   exact⟨_,hm.kf d av,hr.put hd hv,h⟩
section
variable {P:Program} {E:tn} (hE:Gj P E) {X:mS} {R:Type} {r:R} (zA:nG E.gt X.S0)
include hE zA
theorem KN{ops:Array Oper}{KP:ae→St→Option R}{K:St→Option R}{Q:Exit→Act→World→Prop}
  (hK:∀ st G w act,az X st G w→bO G st act→K st=some r→Q .normal act w)
  (hP:∀ av v st G w act,az X st G w→act.defers=G.ds→aO G av v→KP av st=some r→Q (.panic [{v,recovered:=false}]) act w):
  ∀{l:List Oper} {st:St} {G:Gh} {w:World} {act:Act},p9 E ops.toList l st K KP=some r→az X st G w→bO G st act→wpList P ops Q l act w
 |[],st,G,w,act,h,hm,hr=>hK _ _ _ _ hm hr h
 |o::rest,st,G,w,act,h,hm,hr=>by
  have DM:∀{q:St},az X q G w→bO G q act→mr E o q (fun v st'=>oZ o.dst v st' fun s=>p9 E ops.toList rest s K KP) KP=some r→Region.wanted o (yielded ops act.tmps)=true→wpList P ops Q (o::rest) act w:=fun {q} hm hr hx hw=>by
   simp only[wpList,hw,ava];exact .inl (IS hE.iE hE.BU hx zA hm hr (fun av v st' G' w' m' r' v' k'=>by
    obtain⟨s,m2,r2,k2⟩:=MG k' m' r' v';exact KN hK hP k2 m2 r2) (fun av v st' G' w' m' v' k'=>hP av v st' G' w' act m' (hr.1.trans (hm.ds.trans m'.ds.symm)) v' k'))
  have skip:∀{q:St},az X q G w→bO G q act→oZ o.dst (.one .vV) q (fun s=>p9 E ops.toList rest s K KP)=some r→Region.wanted o (yielded ops act.tmps)=false→wpList P ops Q (o::rest) act w:=fun {q} hm hr hx hw=>by
   simp only[wpList,hw,asa,Q9];obtain⟨s,m2,r2,k2⟩:=MG hx hm hr (show aO G (.one .vV) undef from rfl)
   exact KN hK hP k2 m2 r2
  simp only[p9] at h;split at h
  ·rename_i hg;exact DM hm hr h (by simp[Region.wanted,hg])
  ·rename_i j tz hg
   split at h
   ·cases h
   ·rename_i g hgd
    have hy:∀ j',yielded ops act.tmps j' = (match (((ops[j']?).bind (·.dst)).bind (act.tmps[·]?)) with|some (.bool b)=>some b|_=>none):=fun j'=>rfl
    have Mw:(ops[j]?).bind (·.dst)=some g:=by simpa[qw] using hgd
    split at h
    ·rename_i c xG
     have hv:=wJ (v:=.one (.eZ .bool c)) rfl (hr.2.2 g _ xG);have NM:act.tmps[g]? = some (.bool c):=by
      rw[aBa] at hv;cases hq:act.tmps[g]? with
      |none=>rw[hq] at hv;cases hv
      |some u=>rw[hq] at hv;simpa using hv
     have hyj:yielded ops act.tmps j=some c:=by rw[hy,Mw];simp[NM]
     have GF:∀ b,c=b→bO G (st.kf g (.one (.eZ .bool b))) act:=fun b e=>hr.refine (by rw[hv,e];exact oJ b)
     cases c with
     |true=>
      simp only[aja] at h;cases tz with
      |true=>simp only[aja] at h;exact DM (hm.kf _ _) (GF _ rfl) h (by simp[Region.wanted,hg,hyj])
      |false=>simp only[aqa] at h;exact skip (hm.kf _ _) (GF _ rfl) h (by simp[Region.wanted,hg,hyj])
     |false=>
      simp only[aqa] at h;cases tz with
      |true=>simp only[aja] at h;exact skip (hm.kf _ _) (GF _ rfl) h (by simp[Region.wanted,hg,hyj])
      |false=>simp only[aqa] at h;exact DM (hm.kf _ _) (GF _ rfl) h (by simp[Region.wanted,hg,hyj])
    ·rename_i xG
     have hv:act.tmps.getD g undef=undef:=hr.2.2 g _ xG;have hyj:yielded ops act.tmps j=none:=by
      rw[hy,Mw];rw[aBa] at hv;cases hq:act.tmps[g]? with
      |none=>simp[hq]
      |some u=>rw[hq] at hv;simp only[cca] at hv;subst hv;simp[hq,undef]
     exact skip hm hr h (by simp[Region.wanted,hg,hyj])
    ·cases h
omit hE zA in
def u9(P:Program)(gt:Nat→Option GA)(c:Code)(L:lK):Prop:=
 ∀{R:Type} {r:R} {X:mS} {st:St} {G:Gh} {w:World} {act:Act} {K:Exit→St→Option R} {KP:ae→St→Option R} {Q:Exit→Act→World→Prop},
  L.run st K KP=some r→nG gt X.S0→az X st G w→bO G st act→
  (∀ e st G w act,az X st G w→bO G st act→K e st=some r→Q e act w)→
  (∀ av v st G w act,az X st G w→act.defers=G.ds→aO G av v→KP av st=some r→Q (.panic [{v,recovered:=false}]) act w)→c.wp P Q act w
abbrev Rm(P:Program)(gt:Nat→Option GA)(id:Nat)(body:Code)(L:lK):Prop:=u9 P gt (.block id body) L
noncomputable def sY(P:Program)(E:tn)(c:Code):Prop:=
 Code.rec (motive:=fun _=>Prop) True (fun id ops draw=>match draw,E.oB (id+1000000) with|true,some L=>u9 P E.gt (.region id ops true) L|_,_=>True) (fun _ _ x y=>x∧y) (fun _ _ _ x y=>x∧y)
  (fun id b x=>match E.oB id with|some L=>Rm P E.gt id b L|none=>x) (fun _ _=>True) (fun _ _ _ _ _ _=>True)
  (fun _=>True) (fun _ _=>True) (fun _=>True) (fun _=>True) True (fun _=>True) c
theorem Ag(c:Code):sY P E c→∀{st:St} {G:Gh} {w:World} {act:Act} {K:Exit→St→Option R} {KP:ae→St→Option R} {Q:Exit→Act→World→Prop},tx E c st K KP=some r→az X st G w→bO G st act→
  (∀ e st G w act,az X st G w→bO G st act→K e st=some r→Q e act w)→
  (∀ av v st G w act,az X st G w→act.defers=G.ds→aO G av v→KP av st=some r→Q (.panic [{v,recovered:=false}]) act w)→c.wp P Q act w:=by
 induction c with
 |skip=>intro _ st G w act K KP Q h hm hr hK hP;exact wp_skip (hK _ _ _ _ _ hm hr h)
 |region id ops draw=>
  intro hL st G w act K KP Q h hm hr hK hP;cases draw with
  |true=>
   have h:(match E.oB (id+1000000) with|some L=>L.run st K KP|none=>VS E ops.toList st (fun s=>K .normal s) KP)=some r:=h
   have hL:(match true,E.oB (id+1000000) with|true,some L=>u9 P E.gt (.region id ops true) L|_,_=>True):=hL
   cases hl:E.oB (id+1000000) with
   |some L=>simp only[hl] at h hL;exact hL h zA hm hr hK hP
   |none=>simp only[hl] at h;exact acw hE.iE hE.BU hE.RI hE.det zA (fun st G w act m' r' k'=>hK .normal st G w act m' r' k') (Kok:=fun s=>K .normal s=some r) (KPok:=fun av s=>KP av s=some r) hP hE.mix h (fun _ h=>h) (fun _ _ h=>h) hm hr
  |false=>exact wp_region_list (KN hE zA (fun st G w act=>hK .normal st G w act) hP h hm hr)
 |seq a b NV ihb=>
  intro hL st G w act K KP Q h hm hr hK hP;refine wp_seq (NV hL.1 h hm hr (fun e s G w act m r' k=>?_) (fun av v s G w act m r' v' k=>hP av v s G w act m r' v' k));cases e with
  |normal=>exact ihb hL.2 k m r' hK hP
  |_=>exact hK _ _ _ _ _ m r' k
 |cond c t e iht ihe=>
  intro hL st G w act K KP Q h hm hr hK hP;have h:(match (ev E st c).Gm with|some b=>bif b then tx E t st K KP else tx E e st K KP|none=>none)=some r:=h
  cases hb:(ev E st c).Gm with
  |none=>simp[hb] at h
  |some b=>
   simp only[hb] at h;have hv:=wJ hb (fB (zA.mono hm.s0) hr c);cases b with
   |true=>exact wp_cond_true hv (iht hL.1 h hm hr hK hP)
   |false=>exact wp_cond_false hv (ihe hL.2 h hm hr hK hP)
 |block id b ih=>
  intro hL st G w act K KP Q h hm hr hK hP;have h:(match E.oB id with
   |some L=>L.run st K KP
   |none=>tx E b st (fun e s=>match e with | .exit i=>(bif Nat.beq i id then K .normal s else K (.exit i) s)|e=>K e s) KP)=some r:=h
  have hL:(match E.oB id with|some L=>Rm P E.gt id b L|none=>sY P E b):=hL
  cases hl:E.oB id with
  |some L=>simp only[hl] at h hL;exact hL h zA hm hr hK hP
  |none=>
   simp only[hl] at h hL;refine wp_block (ih hL h hm hr (fun e s G w act m r' k=>?_) (fun av v s G w act m r' v' k=>hP av v s G w act m r' v' k));cases e with
   |exit i=>
    simp only[Exit.inBlock];by_cases e:i=id
    ·subst e
     simp only[b8a,aja] at k;simp only[ava];exact hK _ _ _ _ _ m r' k
    ·simp only[vw e,aqa] at k
     simp only[e,Q9];exact hK _ _ _ _ _ m r' k
   |_=>exact hK _ _ _ _ _ m r' k
 |exit id=>intro _ st G w act K KP Q h hm hr hK hP;exact wp_exit (hK _ _ _ _ _ hm hr h)
 |ret=>intro _ st G w act K KP Q h hm hr hK hP;exact wp_ret (hK _ _ _ _ _ hm hr h)
 |_=>intro _ st G w act K KP Q h;cases h
end
end Go.Fx
namespace Go.Fx
abbrev AL:=List (Nat×Option Nat×jS)
def Gh.uL(G:Gh)(al:AL):Gh:={G with
 ψ:=fun nm=>match look al nm with|some (some a,_)=>G.ψ a|_=>.slice none 0 0
 HA:=fun nm=>match look al nm with|some (some a,_)=>G.HA a|_=>[]
 vn:=fun _=>0
 HV:=fun nm _=>match look al nm with|some (some a,_)=>kF (G.HA a)|_=>[]}
def St.uK(st:St)(i:Nat):ae:=(match st.ir i with|some v=>v|none=>.one .any)
structure KU(st t:St)(al:AL):Prop where
 n:t.n=st.n
 vr:t.Fc=[]
 arr:∀ nm A,t.arr nm=some A→∃ jX,look al nm=some (jX,A)
 jX:∀ nm a A,look al nm=some (some a,A)→A.sh=false∧st.arr a=some A
 nil:∀ nm A,look al nm=some (none,A)→A.sh=false∧A.l=[]∧A.gz=true
 inj:∀ nm nm' a A A',look al nm=some (some a,A)→look al nm' = some (some a,A')→nm=nm'
 ir:∀ i tv,t.ir i=some tv→∀ X G w v,az X st G w→aO G (st.uK i) v→aO (G.uL al) tv v
 dN:∀ o tl,t.dN o=some tl→∃ sl,st.dN o=some sl∧All2 (fun a b=>∀ X G w v,az X st G w→aS G a v→aS (G.uL al) b v) (st.kc o 0 sl) (t.kc o 0 tl)
structure adL(st t:St)(al:AL):Prop extends KU st t al where
 pn:t.pin=st.pin
 pa:∀ a,eV a st.pin=true→(∃ A,look al a=some (some a,A))∧∃ B,t.arr a=some B
 pin:∀ o sl,o<10000→st.dN o=some sl→∃ tl,t.dN o=some tl
 vb:∀ o j lf sl,o<10000→dZ st.cF o j=some lf→st.dN o=some sl→sl[j]? = some .vb→(∃ lf',dZ t.cF o j=some lf')∧∃ tl,t.dN o=some tl∧tl[j]? = some .vb
theorem All2.adW{α β γ:Type}{R:α→γ→Prop}{T:β→γ→Prop}:∀{xs:List α} {ys:List β} {vs:List γ},All2 (fun a b=>∀ v,R a v→T b v) xs ys→All2 R xs vs→All2 T ys vs
 |[],[],[],_,_=>trivial
 |_::_,_::_,_::_,h,k=>⟨h.1 _ k.1,All2.adW h.2 k.2⟩
 |[],[],_::_,_,k=>k.elim
 |[],_::_,_,h,_=>h.elim
 |_::_,[],_,h,_=>h.elim
 |_::_,_::_,[],_,k=>k.elim
theorem KU.gz{st t:St}{al:AL}(h:KU st t al){G:Gh}:∀ x b,eW (G.uL al) t x b→∃ x',eW G st x' b∧((∃ o,x=(false,o)∧x' = (false,o))∨∃ nm a A,x=(true,nm)∧x' = (true,a)∧look al nm=some (some a,A)):=fun x b hx=>by
 obtain⟨k,n⟩:=x;cases k with
 |false=>obtain⟨⟨tl,ht⟩,rfl⟩:=hx;obtain⟨sl,hs,_⟩:=h.dN n tl ht;exact⟨(false,n),⟨⟨sl,hs⟩,rfl⟩,.inl ⟨n,rfl,rfl⟩⟩
 |true=>
  obtain⟨⟨A,hA,hs⟩,p,hp,rfl⟩:=hx;obtain⟨jX,hl⟩:=h.arr n A hA;cases jX with
  |none=>simp[Gh.uL,hl] at hp
  |some a=>simp only[Gh.uL,hl] at hp;exact⟨(true,a),⟨⟨A,(h.jX n a A hl).2,hs⟩,p,hp,rfl⟩,.inr ⟨n,a,A,rfl,rfl,hl⟩⟩
theorem KU.ok{st t:St}{al:AL}(h:KU st t al){X:mS}{G:Gh}{w:World}(hm:az X st G w)(Ya:∀ o p,X.pin o=some p→∃ tl,t.dN o=some tl)
  (hbv:∀ o j u,X.bv o j=some u→(∃ lf',dZ t.cF o j=some lf')∧∃ tl,t.dN o=some tl∧tl[j]? = some .vb)
  (hap:∀ a u,X.abx a=some u→eV a t.pin=true∧(∃ A,t.arr a=some A)∧(G.uL al).ψ a=u):az X t (G.uL al) w:=by
 have gz:=h.gz (G:=G);refine {sl:=fun a=>?_,sh:=hm.sh,ob:=fun o tl ho=>?_,ar:=fun nm A hA=>?_,ah:=fun nm A hA hs=>?_,nd:=fun nm A hA hs=>?_,qs:=fun x y b hx hy=>?_,dS:=fun x b hx=>?_,tY:=fun x b hx=>?_,s0:=hm.s0,sn:=hm.sn,fr:=hm.fr,sz:=hm.sz,os:=hm.os,tp:=hm.tp,out:=hm.out,pin:=fun o p hp=>?_,bv:=fun o j u hv=>(by obtain⟨_,_,r⟩:=hm.bv o j u hv;obtain⟨q1,q2⟩:=hbv o j u hv;exact⟨q1,q2,r⟩),ap:=hap,hv:=fun a=>(by simp only[St.dC,h.vr,look];rfl),ds:=hm.ds,hh:=fun nm A hA hs hn=>?_}
 ·show SlV (match look al a with|some (some a,_)=>G.ψ a|_=>.slice none 0 0)
  split
  ·exact hm.sl _
  ·exact .inl ⟨_,_,_,rfl⟩
 ·obtain⟨sl,hs,ha⟩:=h.dN o tl ho
  obtain⟨arr,elem,mid,g1,g2,g3⟩:=hm.ob o sl hs;exact⟨arr,elem,mid,g1,g2,(ha.imp fun a b hab v hv=>hab X G w v hm hv).adW g3⟩
 ·obtain⟨jX,hl⟩:=h.arr nm A hA
  cases jX with
  |none=>obtain⟨h1,h2,h3⟩:=h.nil nm A hl;refine(ia h1 h3).2 ?_;exact .inl ⟨h2,by simp[Gh.uL,hl],by simp[Gh.uL,hl]⟩
  |some a=>obtain⟨h1,h2⟩:=h.jX nm a A hl;exact(hm.ar a A h2).mono (G:=G) (a:=a) (G':=G.uL al) (a':=nm) (fun _ _ h=>h) (by simp[Gh.uL,hl]) (by simp[Gh.uL,hl]) (fun _ _ _=>⟨rfl,rfl,rfl⟩)
 ·obtain⟨jX,hl⟩:=h.arr nm A hA
  cases jX with
  |none=>intro p hp;simp[Gh.uL,hl] at hp
  |some a=>simpa[Gh.uL,hl] using hm.ah a A (h.jX nm a A hl).2 hs
 ·obtain⟨jX,hl⟩:=h.arr nm A hA
  cases jX with
  |none=>simp[Gh.uL,hl]
  |some a=>simpa[Gh.uL,hl] using hm.nd a A (h.jX nm a A hl).2 hs
 ·obtain⟨x',Fk,cx⟩:=gz x b hx
  obtain⟨y',Gy,cy⟩:=gz y b hy;have e:=hm.qs x' y' b Fk Gy;rcases cx with ⟨o,rfl,rfl⟩|⟨nm,a,A,rfl,rfl,hl⟩<;>rcases cy with ⟨o',rfl,rfl⟩|⟨nm',a',A',rfl,rfl,Mx⟩
  ·exact e
  ·simp at e
  ·simp at e
  ·simp only[ala,cba] at e
   subst e;rw[h.inj nm nm' a A A' hl Mx]
 ·obtain⟨x',Fk,_⟩:=gz x b hx;exact hm.dS x' b Fk
 ·obtain⟨x',Fk,_⟩:=gz x b hx;exact hm.tY x' b Fk
 ·exact⟨Ya o p hp,(hm.pin o p hp).2⟩
 ·obtain⟨jX,hl⟩:=h.arr nm A hA
  cases jX with
  |none=>simp[Gh.uL,hl,kF]
  |some a=>simp[Gh.uL,hl]
theorem adL.ok{st t:St}{al:AL}(h:adL st t al){X:mS}{G:Gh}{w:World}(hm:az X st G w):az X t (G.uL al) w:=
 h.toKU.ok hm (fun o p hp=>(by obtain⟨⟨sl,hs⟩,_⟩:=hm.pin o p hp;exact h.pin o sl (X.pl o p hp) hs))
  (fun o j u hv=>(by obtain⟨⟨lf,h1⟩,⟨sl,h2,h3⟩,_⟩:=hm.bv o j u hv;exact h.vb o j lf sl (X.bl o j u hv) h1 h2 h3))
  (fun a u hu=>(by
   obtain⟨h1,_,h3⟩:=hm.ap a u hu;obtain⟨⟨A,h4⟩,B,h5⟩:=h.pa a h1;exact⟨(by rw[h.pn];exact h1),⟨B,h5⟩,by simp[Gh.uL,h4,h3]⟩))
theorem KU.eB{st t:St}{al:AL}(h:KU st t al){X:mS}{G:Gh}{w:World}(hm:az X st G w){act:Act}(hr:bO G st act):bO (G.uL al) t act:=
 ⟨hr.1,hr.2.1.trans h.n.symm,fun i tv ht=>by
  refine h.ir i tv ht X G w _ hm ?_;unfold St.uK;cases hs:st.ir i with
  |none=>trivial
  |some sv=>exact hr.2.2 i sv hs⟩
structure Y1(st t:St):Prop where
 vr:t.Fc=st.Fc
 pn:t.pin=st.pin
 ap:∀ a A,eV a st.pin=true→st.arr a=some A→∃ B,t.arr a=some B
 n:t.n=st.n
 arr:∀ nm A,t.arr nm=some A→st.arr nm=some A
 ir:∀ i tv,t.ir i=some tv→∀ G v,aO G (st.uK i) v→aO G tv v
 dN:∀ o tl,t.dN o=some tl→∃ sl,st.dN o=some sl∧All2 (fun a b=>∀ G v,aS G a v→aS G b v) (st.kc o 0 sl) (t.kc o 0 tl)
 pin:∀ o sl,o<10000→st.dN o=some sl→∃ tl,t.dN o=some tl
 vb:∀ o j lf sl,dZ t.cF o j=some lf→st.dN o=some sl→sl[j]? = some .vb→∃ tl,t.dN o=some tl∧tl[j]? = some .vb
theorem Y1.ok{st t:St}(h:Y1 st t){X:mS}{G:Gh}{w:World}(hm:az X st G w)(hbv:∀ o j u,X.bv o j=some u→∃ lf,dZ t.cF o j=some lf):az X t G w:=by
 have gz:∀ x b,eW G t x b→eW G st x b:=fun x b hx=>by
  obtain⟨k,n⟩:=x;cases k with
  |false=>obtain⟨⟨tl,ht⟩,rfl⟩:=hx;obtain⟨sl,hs,_⟩:=h.dN n tl ht;exact⟨⟨sl,hs⟩,rfl⟩
  |true=>obtain⟨⟨A,hA,hs⟩,p,hp,rfl⟩:=hx;exact⟨⟨A,h.arr n A hA,hs⟩,p,hp,rfl⟩
 refine {sl:=hm.sl,sh:=hm.sh,ob:=fun o tl ho=>?_,ar:=fun nm A hA=>hm.ar nm A (h.arr nm A hA),ah:=fun nm A hA hs=>hm.ah nm A (h.arr nm A hA) hs,nd:=fun nm A hA hs=>hm.nd nm A (h.arr nm A hA) hs,qs:=fun x y b hx hy=>hm.qs x y b (gz x b hx) (gz y b hy),dS:=fun x b hx=>hm.dS x b (gz x b hx),tY:=fun x b hx=>hm.tY x b (gz x b hx),s0:=hm.s0,sn:=hm.sn,fr:=hm.fr,sz:=hm.sz,os:=hm.os,tp:=hm.tp,out:=hm.out,pin:=fun o p hp=>?_,bv:=fun o j u hv=>(by obtain⟨_,⟨sl,h2,h3⟩,r⟩:=hm.bv o j u hv;obtain⟨lf,h1⟩:=hbv o j u hv;exact⟨⟨lf,h1⟩,h.vb o j lf sl h1 h2 h3,r⟩),ap:=fun a u hu=>(by obtain⟨h1,⟨A,h2⟩,h3⟩:=hm.ap a u hu;exact⟨by rw[h.pn];exact h1,h.ap a A h1 h2,h3⟩),hv:=fun a=>(by rw[hm.hv a];simp only[St.dC,h.vr]),ds:=hm.ds,hh:=fun nm A hA hs hn=>hm.hh nm A (h.arr nm A hA) hs hn}
 ·obtain⟨sl,hs,ha⟩:=h.dN o tl ho
  obtain⟨arr,elem,mid,g1,g2,g3⟩:=hm.ob o sl hs;exact⟨arr,elem,mid,g1,g2,(ha.imp fun a b hab v hv=>hab G v hv).adW g3⟩
 ·obtain⟨⟨sl,hs⟩,e⟩:=hm.pin o p hp
  exact⟨h.pin o sl (X.pl o p hp) hs,e⟩
theorem Y1.eB{st t:St}(h:Y1 st t){G:Gh}{act:Act}(hr:bO G st act):bO G t act:=
 ⟨hr.1,hr.2.1.trans h.n.symm,fun i tv ht=>by
  refine h.ir i tv ht G _ ?_;unfold St.uK;cases hs:st.ir i with
  |none=>trivial
  |some sv=>exact hr.2.2 i sv hs⟩
end Go.Fx
namespace Go.Fx
inductive Pl where
 |r (i:Nat)|l (o j:Nat)|q (i j:Nat)
def Pl.key:Pl→Nat
 |.r i=>1000000+i
 |.l o j=>2000000+o * 1000+j
 |.q i j=>20000000+i * 1000+j
def Md.Sr:Md→Bool
 |.dV=>true
 |.bx=>true
 |_=>false
inductive mP where
 |any|d (t:Ty)|h (m:Md) (t:Ty)|lit (l:ag)
@[reducible] def mP.V:mP→Type
 |.any=>Unit | .d t=>t.nH | .h _ t=>List t.nH | .lit _=>Unit
abbrev li:=List (Pl×mP)
@[reducible] def PV:li→Type
 |[]=>Unit
 |p::r=>p.2.V×PV r
def mP.bP(nm:Nat):(s:mP)→s.V→ag
 |.any,_=>.any
 |.d t,x=>.eZ t x
 |.h _ _,_=>.mT nm
 |.lit l,_=>l
def mP.arr:(s:mP)→s.V→Option jS
 |.h m t,x=>some ⟨t,m,false,x⟩
 |_,_=>none
def lX:(ps:li)→PV ps→List (Nat×ae)
 |[],_=>[]
 |(.r i,s)::r,v=>(i,.one (s.bP (Pl.r i).key v.1))::lX r v.2
 |(.l _ _,_)::r,v=>lX r v.2
 |(.q _ _,_)::r,v=>lX r v.2
def Jw:(ps:li)→PV ps→List (Nat×Nat×ag)
 |[],_=>[]
 |(.q i j,s)::r,v=>(i,j,s.bP (Pl.q i j).key v.1)::Jw r v.2
 |(.r _,_)::r,v=>Jw r v.2
 |(.l _ _,_)::r,v=>Jw r v.2
def Sz(i:Nat):li→Nat
 |[]=>0
 |(.q i' _,_)::r=>bif Nat.beq i' i then Sz i r+1 else Sz i r
 |_::r=>Sz i r
def Yx(full:li):li→List (Nat×Nat)
 |[]=>[]
 |(.q i 0,_)::r=>(i,Sz i full)::Yx full r
 |_::r=>Yx full r
def qsh(l:List (Nat×Nat×ag))(i:Nat):Nat→Nat→List ag
 |_,0=>[]
 |j,n+1=>(match dZ l i j with|some l=>l|none=>.any)::qsh l i (j+1) n
def S3(ps:li)(v:PV ps):List (Nat×ae):=(Yx ps ps).map fun p=>(p.1,.agg (qsh (Jw ps v) p.1 0 p.2))
def b9:(ps:li)→PV ps→List (Nat×Nat×ag)
 |[],_=>[]
 |(.l o j,s)::r,v=>(o,j,s.bP (Pl.l o j).key v.1)::b9 r v.2
 |(.r _,_)::r,v=>b9 r v.2
 |(.q _ _,_)::r,v=>b9 r v.2
def eJ:(ps:li)→PV ps→List (Nat×jS)
 |[],_=>[]
 |(p,s)::r,v=>(match s.arr v.1 with|some A=>(p.key,A)::eJ r v.2|none=>eJ r v.2)
structure qr where
 n:Nat
 ci:List (Nat×Nat)
 cs:li
 vs:li
 pin:List Nat
def pC(cl vl:List (Nat×Nat×ag))(o:Nat):Nat→Nat→List ag
 |_,0=>[]
 |j,k+1=>(match dZ cl o j with|some _=>.vb|none=>match dZ vl o j with|some l=>l|none=>.any)::pC cl vl o (j+1) k
def qr.st(L:qr)(c:PV L.cs)(v:PV L.vs):St:=
 ⟨L.n,lX L.vs v++S3 L.vs v,L.ci.map fun p=>(p.1,pC (b9 L.cs c) (b9 L.vs v) p.1 0 p.2),eJ L.vs v,lX L.cs c,b9 L.cs c,eJ L.cs c,L.pin,[]⟩
def wv:ag→ag→Bool
 |.nil,.nil=>true
 |.KD,.KD=>true
 |.vV,.vV=>true
 |.lw o f,.lw o' f'=>Nat.beq o o'&&Nat.beq f f'
 |.fn f,.fn f'=>Nat.beq f f'
 |_,_=>false
def ae.qls(v:ae):Option (List ag):=bif v.isAgg then v.p8 else none
def qOk(ps:li)(s:St):Bool:=(Yx ps ps).all fun p=>match (s.uK p.1).qls with|some ls=>Nat.beq ls.length p.2|none=>false
def St.at(st:St):Pl→ae
 |.r i=>st.uK i
 |.q i j=>(match (st.uK i).qls with|some ls=>(match ls[j]? with|some l=>.one l|none=>.one .any)|none=>.one .any)
 |.l o j=>(match st.dN o with|some ls=>(match ls[j]? with|some l=>.one (st.res o j l)|none=>.one .any)|none=>.one .any)
def Af(st:St)(p:Pl):(s:mP)→Option (s.V×AL)
 |.any=>some ((),[])
 |.d t=>(match (st.at p).vK st t with|some x=>some (x,[])|none=>none)
 |.h m t=>(match st.at p with
  |.one .nil=>(bif m.Sr then some ([],[(p.key,none,⟨t,m,false,[]⟩)]) else none)
  |.one (.mT a)=>(match st.arr a with
   |some A=>(bif A.sh||!m.lG A.md then none else match wd (.slice A.t) (.slice t) A.l with|some x=>some (x,[(p.key,some a,⟨t,m,false,x⟩)])|none=>none)
   |none=>none)
  |_=>none)
 |.lit l=>(match st.at p with | .one l'=>(bif wv l l' then some ((),[]) else none)|_=>none)
def lz(st:St):(ps:li)→Option (PV ps×AL)
 |[]=>some ((),[])
 |p::r=>(match Af st p.1 p.2 with
  |some (x,a)=>(match lz st r with|some (xs,b)=>some ((x,xs),a++b)|none=>none)
  |none=>none)
def iS:li→St→Option St
 |[],st=>some st
 |(p,.d _)::r,st=>(match (st.at p).qL st with|some st'=>iS r st' | none=>none)
 |_::r,st=>iS r st
def Au(al:AL):Bool:=oo (al.map (·.1))&&oo (al.filterMap (·.2.1))
def EM(ci:List (Nat×Nat))(st:St):Bool:=
 ci.all (fun p=>match st.dN p.1 with|some ls=>Nat.beq ls.length p.2|none=>false)&&st.ci.all fun p=>Nat.ble 10000 p.1||eV p.1 (ci.map (·.1))
def Jc(st:St):Pl→mP→Bool
 |.r i,s=>(look st.eB i).isNone&&(match s with | .h _ _=>(look st.cO (Pl.r i).key).isNone | .lit l=>wv l l|_=>true)
 |.l o j,s=>(match st.dN o with|some ls=>(match ls[j]? with|some .vb=>true|_=>false)|none=>false)&&(match s with | .h _ _=>(look st.cO (Pl.l o j).key).isNone | .lit l=>wv l l|_=>true)
 |.q _ _,_=>false
def vP(st:St)(cs:li):Bool:=oo (cs.map fun p=>p.1.key)&&cs.all fun p=>Jc st p.1 p.2
def fY:(cs:li)→PV cs→AL
 |[],_=>[]
 |(p,s)::r,v=>(match s.arr v.1 with|some A=>(p.key,some p.key,A)::fY r v.2|none=>fY r v.2)
def X1:List Nat→List Nat→Bool
 |[],[]=>true
 |x::r,y::s=>Nat.beq x y&&X1 r s
 |_,_=>false
def GD(pin:List Nat)(al:AL):Bool:=pin.all fun q=>match look al q with|some (some b,_)=>Nat.beq q b|_=>false
def ent(L:qr)(st:St):Option (PV L.cs×PV L.vs×St):=
 match iS L.cs st with
 |none=>none
 |some s=>(match iS L.vs s with
  |none=>none
  |some s=>(match lz s L.cs with
   |none=>none
   |some (c,a)=>(match lz s L.vs with
    |none=>none
    |some (v,b)=>(bif Nat.beq L.n s.n&&Au (a++b)&&EM L.ci s&&qOk L.vs s&&(X1 L.pin s.pin&&GD L.pin (a++b)) then some (c,v,s) else none))))
def rnd(L:qr)(al:AL)(s:St):Option (PV L.vs):=
 match iS L.vs s with
 |none=>none
 |some s=>(match lz s L.vs with
  |none=>none
  |some (v,b)=>(bif vP s L.cs&&Au (al++b)&&EM L.ci s&&qOk L.vs s&&GD L.pin (al++b) then some v else none))
end Go.Fx
namespace Go.Fx
theorem eF:∀{l:List Nat},oo l=true→l.Nodup
 |[],_=>b_a
 |x::r,h=>by simp only[oo,Q3,aOa] at h;rw[a2a];exact⟨(fun hx=>(by rw[gO.2 hx] at h;cases h.1)),eF h.2⟩
theorem lu{α:Type}:∀{l:List (Nat×α)} {k:Nat} {v:α},(l.map (·.1)).Nodup→(k,v)∈l→look l k=some v
 |(k',v')::r,k,v,hn,h=>by
  rw[aq];rw[aHa,a2a] at hn;by_cases e:k' = k
  ·subst e
   rcases ama.1 h with h|h
   ·cases h;simp
   ·exact absurd (aIa (f:=(·.1)) h) hn.1
  ·rw[aza e]
   rcases ama.1 h with h|h
   ·cases h;exact absurd rfl e
   ·exact lu hn.2 h
theorem JH:∀{al:AL} {n n' a:Nat} {A A':jS},(al.filterMap (·.2.1)).Nodup→(n,some a,A)∈al→(n',some a,A')∈al→n=n'
 |(k,jX,B)::r,n,n',a,A,A',hn,h,h'=>by
  have ib:∀{m:Nat} {C:jS},(m,some a,C)∈r→a∈r.filterMap (·.2.1):=fun {m C} hm=>bia.2 ⟨_,hm,rfl⟩
  rcases ama.1 h with h1|h1<;>rcases ama.1 h' with h2|h2
  ·cases h1;cases h2;rfl
  ·cases h1
   simp only[b2a,a2a] at hn;exact absurd (ib h2) hn.1
  ·cases h2
   simp only[b2a,a2a] at hn;exact absurd (ib h1) hn.1
  ·refine JH (al:=r) ?_ h1 h2
   cases jX with
   |none=>simpa using hn
   |some _=>simp only[b2a,a2a] at hn;exact hn.2
def ML(s:St)(al:AL):Prop:=∀ nm jX A,(nm,jX,A)∈al→A.sh=false∧(match jX with|some a=>s.arr a=some A|none=>A.l=[]∧A.gz=true)
structure Src(s:St)(al:AL)(p:Pl)(sp:mP)(x:sp.V):Prop where
 GF:∀ X G w v,az X s G w→aO G (s.at p) v→aO (G.uL al) (.one (sp.bP p.key x)) v
 arr:∀ A,sp.arr x=some A→∃ jX,look al p.key=some (jX,A)
def tq(s:St)(al:AL):(ps:li)→PV ps→Prop
 |[],_=>True
 |(p,sp)::r,v=>Src s al p sp v.1∧tq s al r v.2
theorem N5{l l':ag}(h:wv l l' = true):l=l':=by cases l<;>cases l'<;>simp_all[wv]
theorem WN{G:Gh}{al:AL}{l l':ag}{v:Value}(h:wv l l' = true)(r:aS G l' v):aS (G.uL al) l v:=by rw[N5 h];cases l'<;>first|exact r|(cases l<;>simp[wv] at h)
theorem aaP{s:St}{p:Pl}{sp:mP}{x:sp.V}{a:AL}(h:Af s p sp=some (x,a)):ML s a:=by
 cases sp with
 |any=>simp only[Af,OQ,ala] at h;obtain⟨_,rfl⟩:=h;intro _ _ _ hm;cases hm
 |d t=>
  simp only[Af] at h;split at h
  ·simp only[OQ,ala] at h;obtain⟨_,rfl⟩:=h;intro _ _ _ hm;cases hm
  ·cases h
 |lit l=>
  simp only[Af] at h;split at h
  ·rename_i l' _
   cases he:wv l l'<;>simp[he] at h;subst h;intro _ _ _ hm;cases hm
  ·cases h
 |h m t=>
  simp only[Af] at h;split at h
  ·cases hw:m.Sr with
   |false=>simp[hw] at h
   |true=>
   simp only[hw,aja,OQ,ala] at h;obtain⟨_,rfl⟩:=h;intro nm jX A hm;simp only[Q7,ala] at hm;obtain⟨_,rfl,rfl⟩:=hm;exact⟨rfl,rfl,hw⟩
  ·rename_i b _
   split at h
   ·rename_i A hA
    cases hs:(A.sh||!m.lG A.md) with
    |true=>simp[hs] at h
    |false=>
     simp only[hs,aqa] at h;simp only[aGa,boa] at hs;split at h
     ·rename_i y hy
      simp only[OQ,ala] at h;obtain⟨rfl,rfl⟩:=h;intro nm jX B hm;simp only[Q7,ala] at hm;obtain⟨_,rfl,rfl⟩:=hm;obtain⟨ec,el⟩:=lT hy;have vm:=Md.xC hs.2;obtain⟨t',dp,sh,ll⟩:=A;simp only[Ty.slice.injEq] at ec;subst ec;simp only at el hs vm;obtain⟨rfl,_⟩:=hs;subst el vm;exact⟨rfl,hA⟩
     ·cases h
   ·cases h
  ·cases h
theorem acp{s:St}{p:Pl}{sp:mP}{x:sp.V}{a al:AL}(h:Af s p sp=some (x,a))(p6:∀ e∈a,e∈al)(hn:(al.map (·.1)).Nodup):Src s al p sp x:=by
 cases sp with
 |any=>exact⟨fun _ _ _ _ _ _=>trivial,fun A hA=>by cases hA⟩
 |d t=>
  simp only[Af] at h;split at h
  ·rename_i y hy
   simp only[OQ,ala] at h;obtain⟨rfl,_⟩:=h;exact⟨fun X G w v hm hv=>D7 hm hy hv,fun A hA=>by cases hA⟩
  ·cases h
 |lit l=>
  simp only[Af] at h;split at h
  ·rename_i l' Mx
   cases he:wv l l'<;>simp[he] at h;refine⟨fun X G w v hm hv=>?_,fun A hA=>by cases hA⟩
   rw[Mx] at hv;exact WN he hv
  ·cases h
 |h m t=>
  simp only[Af] at h;split at h
  ·rename_i vj
   cases hw:m.Sr with
   |false=>simp[hw] at h
   |true=>
   simp only[hw,aja,OQ,ala] at h;obtain⟨rfl,rfl⟩:=h;have hl:=lu hn (p6 _ (Q7.2 rfl));refine⟨fun X G w v hm hv=>?_,fun A hA=>⟨none,by rw[hl];simp[mP.arr] at hA;rw[hA]⟩⟩
   rw[vj] at hv;show v=(G.uL al).ψ p.key;simp only[Gh.uL,hl];exact hv
  ·rename_i b vj
   split at h
   ·rename_i A hA
    cases hs:(A.sh||!m.lG A.md) with
    |true=>simp[hs] at h
    |false=>
     simp only[hs,aqa] at h;split at h
     ·rename_i y hy
      simp only[OQ,ala] at h;obtain⟨rfl,rfl⟩:=h;have hl:=lu hn (p6 _ (Q7.2 rfl));refine⟨fun X G w v hm hv=>?_,fun A hA=>⟨some b,by rw[hl];simp[mP.arr] at hA;rw[hA]⟩⟩
      rw[vj] at hv;show v=(G.uL al).ψ p.key;simp only[Gh.uL,hl];exact hv
     ·cases h
   ·cases h
  ·cases h
theorem pB{s:St}:∀{ps:li} {v:PV ps} {a:AL},lz s ps=some (v,a)→ML s a
 |[],v,a,h=>by simp only[lz,OQ,ala] at h;obtain⟨_,rfl⟩:=h;intro _ _ _ hm;cases hm
 |(p,sp)::r,v,a,h=>by
  simp only[lz] at h;split at h
  ·rename_i x a1 h1
   split at h
   ·rename_i xs b h2
    simp only[OQ,ala] at h;obtain⟨_,rfl⟩:=h;intro nm jX A hm;rcases aoa.1 hm with hm|hm
    ·exact aaP h1 nm jX A hm
    ·exact pB h2 nm jX A hm
   ·cases h
  ·cases h
theorem vC{s:St}{al:AL}(hn:(al.map (·.1)).Nodup):∀{ps:li} {v:PV ps} {a:AL},lz s ps=some (v,a)→(∀ e∈a,e∈al)→tq s al ps v
 |[],v,a,h,_=>trivial
 |(p,sp)::r,v,a,h,p6=>by
  simp only[lz] at h;split at h
  ·rename_i x a1 h1
   split at h
   ·rename_i xs b h2
    simp only[OQ,ala] at h;obtain⟨rfl,rfl⟩:=h;exact⟨acp h1 (fun e he=>p6 e (aya _ he)) hn,vC hn h2 (fun e he=>p6 e (ara _ he))⟩
   ·cases h
  ·cases h
theorem Cc{s:St}{al:AL}:∀{ps:li} {v:PV ps} {nm:Nat} {A:jS},tq s al ps v→look (eJ ps v) nm=some A→∃ jX,look al nm=some (jX,A)
 |[],v,nm,A,_,h=>by cases h
 |(p,sp)::r,v,nm,A,hs,h=>by
  simp only[eJ] at h;split at h
  ·rename_i B hB
   rw[aq] at h;by_cases e:p.key=nm
   ·simp only[e,ava,OQ] at h
    subst h;subst e;exact hs.1.arr _ hB
   ·simp only[e,Q9] at h;exact Cc hs.2 h
  ·exact Cc hs.2 h
theorem iy{α:Type}:∀(l m:List (Nat×α)) (k:Nat),look (l++m) k=(match look l k with|some v=>some v|none=>look m k)
 |[],m,k=>rfl
 |(k',v)::r,m,k=>by
  simp only[a4a,aq];by_cases e:k' = k
  ·simp[e]
  ·simp only[e,Q9];exact iy r m k
theorem xZ{s:St}:∀{ps:li} {v:PV ps} {a:AL},lz s ps=some (v,a)→∀ nm jX A,(nm,jX,A)∈a→∃ B,look (eJ ps v) nm=some B
 |[],v,a,h,nm,jX,A,hm=>by simp only[lz,OQ,ala] at h;obtain⟨_,rfl⟩:=h;cases hm
 |(p,sp)::r,v,a,h,nm,jX,A,hm=>by
  simp only[lz] at h;split at h
  ·rename_i x a1 h1
   split at h
   ·rename_i xs b h2
    simp only[OQ,ala] at h;obtain⟨rfl,rfl⟩:=h;have key:(∃ B,look (eJ r xs) nm=some B)→∃ B,look (eJ ((p,sp)::r) (x,xs)) nm=some B:=fun⟨B,hB⟩=>by
     simp only[eJ];split
     ·rw[aq];split
      ·exact⟨_,rfl⟩
      ·exact⟨B,hB⟩
     ·exact⟨B,hB⟩
    rcases aoa.1 hm with hm|hm
    ·have hs:nm=p.key∧sp.arr x=some A:=by
      cases sp with
      |any=>simp only[Af,OQ,ala] at h1;obtain⟨_,rfl⟩:=h1;cases hm
      |d t=>simp only[Af] at h1;split at h1<;>simp at h1;obtain⟨_,rfl⟩:=h1;cases hm
      |lit l=>
       simp only[Af] at h1;split at h1
       ·rename_i l' _;cases he:wv l l'<;>simp[he] at h1;subst h1;cases hm
       ·cases h1
      |h m t=>
       simp only[Af] at h1;split at h1
       ·cases hw:m.Sr with
        |false=>simp[hw] at h1
        |true=>simp only[hw,aja,OQ,ala] at h1;obtain⟨rfl,rfl⟩:=h1;simp only[Q7,ala] at hm;obtain⟨rfl,_,rfl⟩:=hm;exact⟨rfl,rfl⟩
       ·split at h1
        ·rename_i A' _
         cases hs:(A'.sh||!m.lG A'.md) with
         |true=>simp[hs] at h1
         |false=>
          simp only[hs,aqa] at h1;split at h1
          ·simp only[OQ,ala] at h1
           obtain⟨rfl,rfl⟩:=h1;simp only[Q7,ala] at hm;obtain⟨rfl,_,rfl⟩:=hm;exact⟨rfl,rfl⟩
          ·cases h1
        ·cases h1
       ·cases h1
     obtain⟨rfl,e⟩:=hs;exact⟨A,by simp[eJ,e,aq]⟩
    ·exact key (xZ h2 nm jX A hm)
   ·cases h
  ·cases h
theorem SC{L:qr}{c:PV L.cs}{v:PV L.vs}{nm:Nat}(h:(∃ B,look (eJ L.cs c) nm=some B)∨∃ B,look (eJ L.vs v) nm=some B):∃ B,(L.st c v).arr nm=some B:=by
 have e:(L.st c v).arr nm=(match look (eJ L.vs v) nm with|some v=>some v|none=>look (eJ L.cs c) nm):=rfl
 rw[e];cases hv:look (eJ L.vs v) nm with
 |some B=>exact⟨B,rfl⟩
 |none=>
  rcases h with h|⟨B,h⟩
  ·exact h
  ·rw[hv] at h;cases h
theorem zh{s:St}{al:AL}:∀{ps:li} {v:PV ps} {i:Nat} {tv:ae},tq s al ps v→look (lX ps v) i=some tv→∀ X G w u,az X s G w→aO G (s.uK i) u→aO (G.uL al) tv u
 |[],v,i,tv,_,h=>by cases h
 |(.r j,sp)::r,v,i,tv,hs,h=>by
  simp only[lX] at h;rw[aq] at h;by_cases e:j=i
  ·simp only[e,ava,OQ] at h
   subst h;subst e;exact hs.1.GF
  ·simp only[e,Q9] at h;exact zh hs.2 h
 |(.l o j,sp)::r,v,i,tv,hs,h=>zh (ps:=r) hs.2 h
 |(.q _ _,sp)::r,v,i,tv,hs,h=>zh (ps:=r) hs.2 h
theorem Fw{s:St}{al:AL}:∀{ps:li} {v:PV ps} {o j:Nat} {lf:ag},tq s al ps v→dZ (Jw ps v) o j=some lf→∀ X G w u,az X s G w→aO G (s.at (.q o j)) u→aS (G.uL al) lf u
 |[],v,o,j,lf,_,h=>by cases h
 |(.r _,sp)::r,v,o,j,lf,hs,h=>Fw (ps:=r) hs.2 h
 |(.l _ _,sp)::r,v,o,j,lf,hs,h=>Fw (ps:=r) hs.2 h
 |(.q o' j',sp)::r,v,o,j,lf,hs,h=>by
  simp only[Jw,dZ] at h;cases hb:(Nat.beq o' o&&Nat.beq j' j) with
  |true=>simp only[hb,aja,OQ] at h;simp only[Q3] at hb;have e1:=Q4 hb.1;have e2:=Q4 hb.2;subst h;subst e1;subst e2;exact fun X G w u hm hu=>hs.1.GF X G w u hm hu
  |false=>simp only[hb,aqa] at h;exact Fw hs.2 h
theorem aaO{X:mS}{st:St}{G:Gh}{w:World}{v:ae}{ls:List ag}{u:Value}(hm:az X st G w)(h:v.qls=some ls)(hu:aO G v u):∃ cs:List Value,u=.agg cs.toArray∧All2 (aS G) ls cs:=by
 unfold ae.qls at h;cases hi:v.isAgg with
 |false=>rw[hi] at h;cases h
 |true=>rw[hi,aja] at h;have h1:=mQ hm h hu;obtain⟨cs,e⟩:=Ey hi hu;subst e;exact⟨cs.toList,by simp,h1⟩
theorem Xb{s:St}{al:AL}{ps:li}{v:PV ps}(hs:tq s al ps v){i:Nat}{X:mS}{G:Gh}{w:World}(hm:az X s G w){sl:List ag}(hq:(s.uK i).qls=some sl):∀(n j:Nat) (l:List ag) (cs:List Value),l.length=n→(∀ k,sl[j+k]? = l[k]?)→All2 (aS G) l cs→All2 (aS (G.uL al)) (qsh (Jw ps v) i j n) cs
 |0,j,[],[],_,_,_=>trivial
 |n+1,j,a::l,c::cs,hl,hi,ha=>by
  refine⟨?_,Xb hs hm hq n (j+1) l cs (by simpa using hl) (fun k=>by have:=hi (k+1);rw[show j+(k+1)=j+1+k by omega] at this;simpa using this) ha.2⟩
  cases hc:dZ (Jw ps v) i j with
  |none=>trivial
  |some lf=>
   refine Fw hs hc X G w c hm ?_;have h0:sl[j]? = some a:=by simpa using hi 0
   simp only[St.at,hq,h0];exact ha.1
 |0,j,[],_::_,_,_,ha=>ha.elim
 |n+1,j,_::_,[],_,_,ha=>ha.elim
theorem Y2{s:St}{al:AL}{ps:li}{v:PV ps}(hs:tq s al ps v)(hq:qOk ps s=true){i:Nat}{tv:ae}(h:look (S3 ps v) i=some tv):∀ X G w u,az X s G w→aO G (s.uK i) u→aO (G.uL al) tv u:=by
 intro X G w u hm hu;obtain⟨n,hin,rfl⟩:∃ n,(i,n)∈Yx ps ps∧tv=.agg (qsh (Jw ps v) i 0 n):=by unfold S3 at h;have ib:=dX h;obtain⟨⟨k,n⟩,h1,h2⟩:=a0a.1 ib;simp only[ala] at h2;obtain⟨rfl,rfl⟩:=h2;exact⟨n,h1,rfl⟩
 have h2:=ana.1 hq _ hin;split at h2
 ·rename_i ls OZ
  obtain⟨cs,e1,e2⟩:=aaO hm OZ hu;exact⟨cs,e1,Xb hs hm OZ n 0 ls cs (Q4 h2) (fun k=>by rw[aWa]) e2⟩
 ·cases h2
theorem ur{s:St}{al:AL}:∀{ps:li} {v:PV ps} {o j:Nat} {lf:ag},tq s al ps v→dZ (b9 ps v) o j=some lf→∀ X G w u,az X s G w→aO G (s.at (.l o j)) u→aS (G.uL al) lf u
 |[],v,o,j,lf,_,h=>by cases h
 |(.r _,sp)::r,v,o,j,lf,hs,h=>ur (ps:=r) hs.2 h
 |(.q _ _,sp)::r,v,o,j,lf,hs,h=>ur (ps:=r) hs.2 h
 |(.l o' j',sp)::r,v,o,j,lf,hs,h=>by
  simp only[b9,dZ] at h;cases hb:(Nat.beq o' o&&Nat.beq j' j) with
  |true=>simp only[hb,aja,OQ] at h;simp only[Q3] at hb;have e1:=Q4 hb.1;have e2:=Q4 hb.2;subst h;subst e1;subst e2;exact fun X G w u hm hu=>hs.1.GF X G w u hm hu
  |false=>simp only[hb,aqa] at h;exact ur hs.2 h
theorem xX{cl vl:List (Nat×Nat×ag)}:∀{ci:List (Nat×Nat)} {o:Nat} {tl:List ag},look (ci.map fun p=>(p.1,pC cl vl p.1 0 p.2)) o=some tl→∃ len,(o,len)∈ci∧tl=pC cl vl o 0 len
 |[],o,tl,h=>by cases h
 |(q,len)::r,o,tl,h=>by
  simp only[aHa,aq] at h;by_cases e:q=o
  ·simp only[e,ava,OQ] at h
   subst h;subst e;exact⟨len,by simp,rfl⟩
  ·simp only[e,Q9] at h
   obtain⟨len,h1,h2⟩:=xX h;exact⟨len,Q8 _ h1,h2⟩
theorem vQ{α β:Type}{f:Nat×α→β}:∀{l:List (Nat×α)} {o:Nat},o∈l.map (·.1)→∃ b,look (l.map fun p=>(p.1,f p)) o=some b
 |[],o,h=>by cases h
 |p::r,o,h=>by
  simp only[aHa,aq];by_cases e:p.1=o
  ·simp[e]
  ·simp only[e,Q9]
   rcases ama.1 h with h|h
   ·exact absurd h.symm e
   ·exact vQ h
theorem QY{s:St}{al:AL}{L:qr}{c:PV L.cs}{v:PV L.vs}(hc:tq s al L.cs c)(hv:tq s al L.vs v){o:Nat}{sl:List ag}(ho:s.dN o=some sl):∀(k j:Nat) (l:List ag),l.length=k→(∀ i,sl[j+i]? = l[i]?)→
  All2 (fun a b=>∀ X G w u,az X s G w→aS G a u→aS (G.uL al) b u) (s.kc o j l) ((L.st c v).kc o j (pC (b9 L.cs c) (b9 L.vs v) o j k))
 |0,j,[],_,_=>trivial
 |k+1,j,a::l,hl,hi=>by
  refine⟨fun X G w u hm hu=>?_,QY hc hv ho k (j+1) l (by simpa using hl) (fun i=>by have:=hi (i+1);rw[show j+(i+1)=j+1+i by omega] at this;simpa using this)⟩
  have vj:s.at (.l o j)=.one (s.res o j a):=by
   have h0:sl[j]? = some a:=by simpa using hi 0
   simp[St.at,ho,h0]
  have hu':aO G (s.at (.l o j)) u:=by rw[vj];exact hu
  cases mD:dZ (b9 L.cs c) o j with
  |some lf=>simp only[mD,St.res];have:(L.st c v).cF=b9 L.cs c:=rfl;rw[this,mD];exact ur hc mD X G w u hm hu'
  |none=>
   simp only[mD];cases hvl:dZ (b9 L.vs v) o j with
   |none=>exact trivial
   |some lf=>
    simp only;have h1:=ur hv hvl X G w u hm hu';cases lf with
    |vb=>simp only[St.res];have:(L.st c v).cF=b9 L.cs c:=rfl;rw[this,mD];trivial
    |_=>exact h1
theorem zj{cl vl:List (Nat×Nat×ag)}{o:Nat}:∀{k i j:Nat} {lf:ag},j<k→dZ cl o (i+j)=some lf→(pC cl vl o i k)[j]? = some .vb
 |k+1,i,0,lf,_,h=>by simp only[pC];rw[cwa] at h;simp[h]
 |k+1,i,j+1,lf,hj,h=>by simp only[pC,bta];exact zj (by omega) (by rw[show i+1+j=i+(j+1) by omega];exact h)
theorem T3{s:St}{al:AL}{L:qr}{c:PV L.cs}{v:PV L.vs}(hc:tq s al L.cs c)(hv:tq s al L.vs v)(hg:ML s al)(Gv:Au al=true)(ho:(L.ci.all fun p=>match s.dN p.1 with|some ls=>Nat.beq ls.length p.2|none=>false)=true)(hn:L.n=s.n)(hq:qOk L.vs s=true):KU s (L.st c v) al:=by
 simp only[Au,Q3] at Gv;refine {n:=hn,vr:=rfl,arr:=fun nm A h=>?_,jX:=fun nm a A h=>?_,nil:=fun nm A h=>?_,inj:=fun nm nm' a A A' h h'=>?_,ir:=fun i tv h=>?_,dN:=fun o tl h=>?_}
 ·unfold St.arr at h
  split at h
  ·rename_i B hB;cases h;exact Cc hv hB
  ·exact Cc hc h
 ·exact hg nm (some a) A (dX h)
 ·exact hg nm none A (dX h)
 ·exact JH (eF Gv.2) (dX h) (dX h')
 ·unfold St.ir at h
  split at h
  ·rename_i B hB
   cases h;have hB:look (lX L.vs v++S3 L.vs v) i=some tv:=hB;rw[iy] at hB;cases hr:look (lX L.vs v) i with
   |some x=>rw[hr] at hB;cases hB;exact zh hv hr
   |none=>rw[hr] at hB;exact Y2 hv hq hB
  ·exact zh hc h
 ·obtain⟨len,h1,rfl⟩:=xX h
  have h2:=ana.1 ho _ h1;split at h2
  ·rename_i sl Mz
   exact⟨sl,Mz,QY hc hv Mz len 0 sl (Q4 h2) (fun i=>by rw[aWa])⟩
  ·cases h2
theorem Sd{s:St}{al:AL}{L:qr}{c:PV L.cs}{v:PV L.vs}(hc:tq s al L.cs c)(hv:tq s al L.vs v)(hg:ML s al)(Gv:Au al=true)(ho:EM L.ci s=true)(hn:L.n=s.n)(hbl:∀ o j lf,dZ s.cF o j=some lf→∃ lf',dZ (b9 L.cs c) o j=some lf')(hq:qOk L.vs s=true)(O0:L.pin=s.pin)(JM:GD L.pin al=true)
  (tH:∀ nm jX A,(nm,jX,A)∈al→∃ B,(L.st c v).arr nm=some B):adL s (L.st c v) al:=by
 simp only[EM,Q3] at ho
 refine {toKU:=T3 hc hv hg Gv ho.1 hn hq,pn:=O0,pa:=fun a ha=>(by
  rw[←O0] at ha;have h1:=ana.1 JM a (gO.1 ha);split at h1
  ·rename_i b A hl
   obtain rfl:=Q4 h1;exact⟨⟨A,hl⟩,tH _ _ _ (dX hl)⟩
  ·cases h1),pin:=fun o sl bg h=>?_,vb:=fun o j lf sl bg hl h hj=>?_}
 ·have h2:=ana.1 ho.2 _ (dX h)
  simp only[a5a] at h2;rcases h2 with h2|h2
  ·have:=aZa h2;omega
  ·exact vQ (f:=fun p=>pC (b9 L.cs c) (b9 L.vs v) p.1 0 p.2) (gO.1 h2)
 ·have h2:=ana.1 ho.2 _ (dX h)
  simp only[a5a] at h2;obtain⟨lf',hlf⟩:=hbl o j lf hl;refine⟨⟨lf',hlf⟩,?_⟩;rcases h2 with h2|h2
  ·have:=aZa h2;omega
  ·obtain⟨tl,htl⟩:=vQ (f:=fun p=>pC (b9 L.cs c) (b9 L.vs v) p.1 0 p.2) (gO.1 h2)
   refine⟨tl,htl,?_⟩;obtain⟨len,h1,rfl⟩:=xX htl;have h3:=ana.1 ho.1 _ h1;simp only[h] at h3;have h3:sl.length=len:=Q4 h3;have hjl:j<sl.length:=(aka.1 hj).1;exact zj (by omega) (by rw[aWa];exact hlf)
end Go.Fx
namespace Go.Fx
theorem n9{X:mS}{w:World}:∀{ps:li} {st st':St} {G:Gh},iS ps st=some st'→az X st G w→∃ G',az X st' G' w∧G.MT G'∧rK st st'
 |[],st,st',G,h,hm=>by simp only[iS,OQ] at h;subst h;exact⟨G,hm,.refl G,.refl _⟩
 |(p,sp)::r,st,st',G,h,hm=>by
  cases sp with
  |d t=>
   simp only[iS] at h;split at h
   ·rename_i s1 h1
    obtain⟨G1,m1,a1,k1⟩:=FB h1 hm;obtain⟨G2,m2,a2,k2⟩:=n9 h m1;exact⟨G2,m2,a1.trans a2,k1.trans k2⟩
   ·cases h
  |_=>exact n9 (ps:=r) h hm
theorem ot:∀{ps:li} {st st':St},iS ps st=some st'→kv st st'
 |[],st,st',h=>by simp only[iS,OQ] at h;subst h;exact .refl _
 |(p,sp)::r,st,st',h=>by
  cases sp with
  |d t=>
   simp only[iS] at h;split at h
   ·rename_i s1 h1;exact(Lk h1).trans (ot h)
   ·cases h
  |_=>exact ot (ps:=r) h
theorem BB{G G':Gh}{st st':St}(k:rK st st')(h:G.MT G'){act:Act}(r:bO G st act):bO G' st' act:=r.sub h k.n k.ir
theorem RR:∀{l m:List Nat},X1 l m=true→l=m
 |[],[],_=>rfl
 |x::r,y::s,h=>by simp only[X1,Q3] at h;rw[Q4 h.1,RR h.2]
 |[],_::_,h=>by cases h
 |_::_,[],h=>by cases h
theorem Zp{L:qr}{st s:St}{c:PV L.cs}{v:PV L.vs}(h:ent L st=some (c,v,s))(hbl:∀ o j lf,dZ s.cF o j=some lf→∃ lf',dZ (b9 L.cs c) o j=some lf'){X:mS}{G:Gh}{w:World}{act:Act}(hm:az X st G w)(hr:bO G st act):
  ∃ G',az X (L.st c v) G' w∧bO G' (L.st c v) act:=by
 unfold ent at h;split at h
 ·cases h
 ·rename_i s1 h1
  split at h
  ·cases h
  ·rename_i s2 h2
   split at h
   ·cases h
   ·rename_i c' a hc
    split at h
    ·cases h
    ·rename_i v' b hv
     cases hk:(Nat.beq L.n s2.n&&Au (a++b)&&EM L.ci s2&&qOk L.vs s2&&(X1 L.pin s2.pin&&GD L.pin (a++b))) with
     |false=>simp[hk] at h
     |true=>
      simp only[hk,aja,OQ,ala] at h;obtain⟨rfl,rfl,rfl⟩:=h;simp only[Q3] at hk;obtain⟨⟨⟨⟨k1,k2⟩,k3⟩,k4⟩,k5,k6⟩:=hk;obtain⟨G1,m1,a1,q1⟩:=n9 h1 hm;obtain⟨G2,m2,a2,q2⟩:=n9 h2 m1;have hn:((a++b).map (·.1)).Nodup:=by have:=k2;simp only[Au,Q3] at this;exact eF this.1
      have N:=Sd (L:=L) (vC hn hc (fun e he=>aya _ he)) (vC hn hv (fun e he=>ara _ he))
       (fun nm jX A ib=>by
        rcases aoa.1 ib with ib|ib
        ·exact pB hc nm jX A ib
        ·exact pB hv nm jX A ib) k2 k3 (Q4 k1) hbl k4 (RR k5) k6
       (fun nm jX A ib=>SC ((aoa.1 ib).imp (xZ hc nm jX A) (xZ hv nm jX A)))
      exact⟨_,N.ok m2,N.eB m2 (BB q2 a2 (BB q1 a1 hr))⟩
def lh(full:(ps:li)×PV ps):(ps:li)→PV ps→Prop
 |[],_=>True
 |(.r i,sp)::r,v=>look (lX full.1 full.2) i=some (.one (sp.bP (Pl.r i).key v.1))∧(∀ A,sp.arr v.1=some A→look (eJ full.1 full.2) (Pl.r i).key=some A)∧lh full r v.2
 |(.l o j,sp)::r,v=>dZ (b9 full.1 full.2) o j=some (sp.bP (Pl.l o j).key v.1)∧(∀ A,sp.arr v.1=some A→look (eJ full.1 full.2) (Pl.l o j).key=some A)∧lh full r v.2
 |(.q i j,sp)::r,v=>True∧(∀ A,sp.arr v.1=some A→look (eJ full.1 full.2) (Pl.q i j).key=some A)∧lh full r v.2
def P5(p:Pl×mP)(x:p.2.V)(f:(ps:li)×PV ps):(ps:li)×PV ps:=⟨p::f.1,(x,f.2)⟩
theorem lh.cons{p:Pl×mP}{x:p.2.V}{full:(ps:li)×PV ps}:∀{ps:li} {v:PV ps},lh full ps v→p.1.key∉ps.map (fun p=>p.1.key)→lh (P5 p x full) ps v
 |[],v,_,_=>trivial
 |(.r i,sp)::r,v,h,hn=>by
  obtain⟨h1,h2,h3⟩:=h;simp only[aHa,ama,cka] at hn;refine⟨?_,fun A hA=>?_,lh.cons h3 hn.2⟩
  ·obtain⟨q,sq⟩:=p
   cases q with
   |r j=>
    have:j≠i:=fun e=>hn.1 (by rw[e])
    simp only[P5,lX,aq,aza this];exact h1
   |l o j=>exact h1
   |q _ _=>exact h1
  ·have:=h2 A hA
   simp only[P5,eJ];split
   ·rw[aq,aza hn.1];exact this
   ·exact this
 |(.l o j,sp)::r,v,h,hn=>by
  obtain⟨h1,h2,h3⟩:=h;simp only[aHa,ama,cka] at hn;refine⟨?_,fun A hA=>?_,lh.cons h3 hn.2⟩
  ·obtain⟨q,sq⟩:=p
   cases q with
   |r i=>exact h1
   |q _ _=>exact h1
   |l o' j'=>
    have:(Nat.beq o' o&&Nat.beq j' j)=false:=by
     cases hb:(Nat.beq o' o&&Nat.beq j' j) with
     |false=>rfl
     |true=>simp only[Q3] at hb;exact absurd (by rw[Q4 hb.1,Q4 hb.2]) hn.1
    simp only[P5,b9,dZ,this,aqa];exact h1
  ·have:=h2 A hA
   simp only[P5,eJ];split
   ·rw[aq,aza hn.1];exact this
   ·exact this
 |(.q i j,sp)::r,v,h,hn=>by
  obtain⟨h1,h2,h3⟩:=h;simp only[aHa,ama,cka] at hn;refine⟨trivial,fun A hA=>?_,lh.cons h3 hn.2⟩;have:=h2 A hA;simp only[P5,eJ];split
  ·rw[aq,aza hn.1];exact this
  ·exact this
theorem Bm:∀{ps:li} {v:PV ps},(ps.map fun p=>p.1.key).Nodup→lh ⟨ps,v⟩ ps v
 |[],v,_=>trivial
 |p::r,v,hn=>by
  rw[aHa,a2a] at hn;have ih:=lh.cons (p:=p) (x:=v.1) (Bm (v:=v.2) hn.2) hn.1;obtain⟨q,sq⟩:=p;cases q with
  |r i=>
   refine⟨by simp[lX,aq],fun A hA=>?_,ih⟩
   simp only at hA;simp[eJ,hA,aq]
  |l o j=>
   refine⟨by simp[b9,dZ],fun A hA=>?_,ih⟩
   simp only at hA;simp[eJ,hA,aq]
  |q i j=>refine⟨trivial,fun A hA=>?_,ih⟩;simp only at hA;simp[eJ,hA,aq]
def tZ(L:qr)(c:PV L.cs)(s:St):Prop:=L.n=s.n∧s.js=lX L.cs c∧s.cF=b9 L.cs c∧(s.fQ,s.pin)=(eJ L.cs c,L.pin)
theorem TP{s:St}{al:AL}{p:Pl}{sp:mP}{x:sp.V}(vj:s.at p=.one (sp.bP p.key x))(hl:∀ l,sp=.lit l→wv l l=true)(ha:∀ A,sp.arr x=some A→look al p.key=some (some p.key,A)):Src s al p sp x:=by
 refine⟨fun X G w u hm hu=>?_,fun A hA=>⟨_,ha A hA⟩⟩;rw[vj] at hu;cases sp with
 |any=>trivial
 |d t=>exact hu
 |lit l=>exact WN (hl l rfl) hu
 |h m t=>have:=ha _ rfl;show u=(G.uL al).ψ p.key;simp only[Gh.uL,this];exact hu
theorem Jd{s:St}{al:AL}{full:(ps:li)×PV ps}(h1:s.js=lX full.1 full.2)(h2:s.cF=b9 full.1 full.2)(hn:(al.map (·.1)).Nodup):
  ∀{ps:li} {v:PV ps},lh full ps v→(ps.all fun p=>Jc s p.1 p.2)=true→(∀ e∈fY ps v,e∈al)→tq s al ps v
 |[],v,_,_,_=>trivial
 |(.r i,sp)::r,v,hf,hk,hs=>by
  obtain⟨f1,f2,f3⟩:=hf;simp only[bpa,Q3] at hk;obtain⟨k12,k3⟩:=hk;simp only[Jc,Q3] at k12;obtain⟨k1,k2⟩:=k12;have hlr:look s.eB i=none:=by simpa using k1
  refine⟨TP (by simp[St.at,St.uK,St.ir,hlr,h1,f1]) (fun l e=>by subst e;exact k2) (fun A hA=>?_),Jd h1 h2 hn f3 (by simpa using k3) (fun e he=>hs e ?_)⟩
  ·exact lu hn (hs _ (by simp[fY,hA]))
  ·simp only[fY];split<;>simp[he]
 |(.l o j,sp)::r,v,hf,hk,hs=>by
  obtain⟨f1,f2,f3⟩:=hf;simp only[bpa,Q3] at hk;obtain⟨k12,k3⟩:=hk;simp only[Jc,Q3] at k12;obtain⟨k1,k2⟩:=k12;refine⟨TP ?_ (fun l e=>by subst e;exact k2) (fun A hA=>?_),Jd h1 h2 hn f3 (by simpa using k3) (fun e he=>hs e ?_)⟩
  ·split at k1
   ·rename_i ls ho
    split at k1
    ·rename_i hj
     simp[St.at,ho,hj,St.res,h2,f1]
    ·cases k1
   ·cases k1
  ·exact lu hn (hs _ (by simp[fY,hA]))
  ·simp only[fY];split<;>simp[he]
 |(.q i j,sp)::r,v,hf,hk,hs=>by simp only[bpa,Q3,Jc] at hk;cases hk.1
theorem Be{sp:mP}{x:sp.V}{A:jS}(h:sp.arr x=some A):A.sh=false∧∃ m t,sp=.h m t:=by cases sp<;>simp[mP.arr] at h;subst h;exact⟨rfl,_,_,rfl⟩
theorem Bz{s:St}{full:(ps:li)×PV ps}(h3:s.fQ=eJ full.1 full.2):
  ∀{ps:li} {v:PV ps},lh full ps v→(ps.all fun p=>Jc s p.1 p.2)=true→ML s (fY ps v)
 |[],v,_,_=>by intro _ _ _ h;cases h
 |(p,sp)::r,v,hf,hk=>by
  simp only[bpa,Q3] at hk;obtain⟨k1,k3⟩:=hk;have f2:∀ A,sp.arr v.1=some A→look (eJ full.1 full.2) p.key=some A:=by cases p<;>exact hf.2.1
  have f3:lh full r v.2:=by cases p<;>exact hf.2.2
  intro nm jX A hm;simp only[fY] at hm;split at hm
  ·rename_i B hB
   rcases ama.1 hm with hm|hm
   ·simp only[ala] at hm
    obtain⟨rfl,rfl,rfl⟩:=hm;obtain⟨e1,m,t,e2⟩:=Be hB;refine⟨e1,?_⟩;have wN:look s.cO p.key=none:=by subst e2;cases p<;>first|(simp only[Jc,Q3] at k1;simpa using k1.2)|(simp only[Jc] at k1;cases k1)
    simp[St.arr,wN,h3,f2 _ hB]
   ·exact Bz h3 f3 (by simpa using k3) nm jX A hm
  ·exact Bz h3 f3 (by simpa using k3) nm jX A hm
theorem tZ.iG{L:qr}{c:PV L.cs}{s s':St}(h:tZ L c s)(b:kv s s'):tZ L c s':=⟨h.1.trans b.1.symm,b.2.1.trans h.2.1,b.2.2.1.trans h.2.2.1,b.2.2.2.trans h.2.2.2⟩
theorem Cs:∀{cs:li} {c:PV cs} (nm:Nat) (jX:Option Nat) (A:jS),(nm,jX,A)∈fY cs c→∃ B,look (eJ cs c) nm=some B
 |[],_,nm,jX,A,h=>by cases h
 |(p,s)::r,c,nm,jX,A,h=>by
  simp only[fY] at h;simp only[eJ];split
  ·rename_i B hB
   rw[hB] at h;rw[aq];by_cases e:p.key=nm
   ·exact⟨B,by rw[a7a e]⟩
   ·rw[aza e]
    rcases ama.1 h with h|h
    ·cases h;exact absurd rfl e
    ·exact Cs nm jX A h
  ·rename_i hB
   rw[hB] at h;exact Cs nm jX A h
theorem VR{L:qr}{c:PV L.cs}{s:St}{v:PV L.vs}(hb:tZ L c s)(h:rnd L (fY L.cs c) s=some v){X:mS}{G:Gh}{w:World}{act:Act}(hm:az X s G w)(hr:bO G s act):
  ∃ G',az X (L.st c v) G' w∧bO G' (L.st c v) act:=by
 unfold rnd at h;split at h
 ·cases h
 ·rename_i s1 h1
  split at h
  ·cases h
  ·rename_i v' b hv
   cases hk:(vP s1 L.cs&&Au (fY L.cs c++b)&&EM L.ci s1&&qOk L.vs s1&&GD L.pin (fY L.cs c++b)) with
   |false=>simp[hk] at h
   |true=>
    simp only[hk,aja,OQ] at h;subst h;simp only[Q3,vP] at hk;obtain⟨⟨⟨⟨⟨k0,k1⟩,k2⟩,k3⟩,k4⟩,k6⟩:=hk;have DO:=hb.iG (ot h1);obtain⟨G1,m1,a1,q1⟩:=n9 h1 hm;have hn:((fY L.cs c++b).map (·.1)).Nodup:=by have:=k2;simp only[Au,Q3] at this;exact eF this.1
    have hf:=Bm (v:=c) (eF k0);have N:=Sd (L:=L) (Jd (full:=⟨L.cs,c⟩) DO.2.1 DO.2.2.1 hn hf k1 (fun e he=>aya _ he)) (vC hn hv (fun e he=>ara _ he))
     (fun nm jX A ib=>by
      rcases aoa.1 ib with ib|ib
      ·exact Bz (full:=⟨L.cs,c⟩) (bla DO.2.2.2).1 hf k1 nm jX A ib
      ·exact pB hv nm jX A ib) k2 k3 DO.1 (fun o j lf hl=>⟨lf,by rw[←DO.2.2.1];exact hl⟩) k4 (bla DO.2.2.2).2.symm k6
     (fun nm jX A ib=>SC ((aoa.1 ib).imp (Cs nm jX A) (xZ hv nm jX A)))
    exact⟨_,N.ok m1,N.eB m1 (BB q1 a1 hr)⟩
end Go.Fx
namespace Go.Fx
def qG(st:St)(k:Nat):mP→ae→Bool
 |.d _,.one (.eZ _ _)=>true
 |.h _ _,.one (.mT a)=>Nat.beq a k&&(look st.cO k).isNone
 |.lit l,.one l'=>wv l l'
 |.any,.one .any=>true
 |_,_=>false
def PT(st:St):Pl→mP→Bool
 |.r i,s=>(match look st.js i with|none=>true|some tv=>(look st.eB i).isNone&&qG st (Pl.r i).key s tv)
 |.q _ _,_=>true
 |.l o j,s=>(match dZ st.cF o j with|none=>true|some lf=>(match st.dN o with|some ls=>(match ls[j]? with|some .vb=>true|_=>false)|none=>false)&&qG st (Pl.l o j).key s (.one lf))
def ZC(i:Nat):li→Bool
 |[]=>false
 |(.r j,_)::r=>Nat.beq j i||ZC i r
 |_::r=>ZC i r
def zy(o j:Nat):li→Bool
 |[]=>false
 |(.l o' j',_)::r=>(Nat.beq o' o&&Nat.beq j' j)||zy o j r
 |_::r=>zy o j r
def ZB(st:St)(nm:Nat):li→Bool
 |[]=>false
 |(p,.h _ _)::r=>(Nat.beq p.key nm&&(match p with | .r i=>(look st.js i).isSome | .l o j=>(dZ st.cF o j).isSome | .q _ _=>false))||ZB st nm r
 |_::r=>ZB st nm r
def MY(cs:li)(st:St):Bool:=
 oo (cs.map fun p=>p.1.key)&&cs.all (fun p=>PT st p.1 p.2)&&st.js.all (fun p=>ZC p.1 cs)&&st.cF.all (fun p=>zy p.1 p.2.1 cs)&&st.fQ.all (fun p=>ZB st p.1 cs)
def IU(cl bl:List (Nat×Nat×ag))(o:Nat):Nat→List ag→List ag
 |_,[]=>[]
 |j,l::r=>(match l with | .vb=>(match dZ bl o j with|some _=>.vb|none=>match dZ cl o j with|some l=>l|none=>.any)|l=>l)::IU cl bl o (j+1) r
def aft(L:qr)(c:PV L.cs)(v:PV L.vs)(st:St):St:=
 ⟨L.n,lX L.vs v++(S3 L.vs v++(lX L.cs c).filter (fun p=>(look st.js p.1).isNone)),(L.st c v).ci.map (fun p=>(p.1,IU (b9 L.cs c) st.cF p.1 0 p.2)),
  eJ L.vs v++(eJ L.cs c).filter (fun p=>(look st.fQ p.1).isNone),st.js,st.cF,st.fQ,st.pin,[]⟩
theorem Ad{α:Type}(f:Nat→Bool):∀(l:List (Nat×α)) (k:Nat),look (l.filter fun p=>f p.1) k=if f k=true then look l k else none
 |[],k=>by simp[look]
 |(k',v)::r,k=>by
  have ih:=Ad f r k;by_cases hf:f k' = true
  ·simp only[cra,hf,ava,aq]
   by_cases e:k' = k
   ·subst e;simp[hf]
   ·simp only[e,Q9];exact ih
  ·simp only[cra,hf,aq]
   by_cases e:k' = k
   ·subst e;simp only[asa,Q9];rw[ih];simp[hf]
   ·simp only[e,Q9,asa];exact ih
structure SO(st:St)(L:qr)(c:PV L.cs):Prop where
 ir:∀ i tv,look st.js i=some tv→look (lX L.cs c) i=some tv
 bP:∀ o j lf,dZ st.cF o j=some lf→dZ (b9 L.cs c) o j=some lf
 arr:∀ nm A,look st.fQ nm=some A→look (eJ L.cs c) nm=some A
theorem QH{s:St}{p:Pl}{sp:mP}{x:sp.V}{a:AL}{tv:ae}(h:Af s p sp=some (x,a))(vj:s.at p=tv)(hk:qG s p.key sp tv=true):tv=.one (sp.bP p.key x):=by
 cases sp with
 |any=>
  cases tv with
  |one l=>cases l with
   |any=>rfl
   |_=>simp[qG] at hk
  |_=>simp[qG] at hk
 |d t=>
  cases tv with
  |one l=>
   cases l with
   |eZ t' y=>
    simp only[Af,vj,ae.vK,ag.vK] at h;cases hc:wd t' t y with
    |none=>simp[hc] at h
    |some z=>simp only[hc,OQ,ala] at h;obtain⟨rfl,_⟩:=h;obtain⟨rfl,rfl⟩:=lT hc;rfl
   |_=>simp[qG] at hk
  |_=>simp[qG] at hk
 |lit l=>
  cases tv with
  |one l'=>simp only[qG] at hk;rw[N5 hk];rfl
  |_=>simp[qG] at hk
 |h m t=>
  cases tv with
  |one l=>
   cases l with
   |mT b=>simp only[qG,Q3] at hk;rw[Q4 hk.1];rfl
   |_=>simp[qG] at hk
  |_=>simp[qG] at hk
theorem VD{s:St}{p:Pl}{m:Md}{t:Ty}{x:(mP.h m t).V}{a:AL}{tv:ae}(h:Af s p (.h m t)=some (x,a))(vj:s.at p=tv)(hk:qG s p.key (.h m t) tv=true){A:jS}(hA:look s.fQ p.key=some A):A=⟨t,m,false,x⟩:=by
 cases tv with
 |one l=>
  cases l with
  |mT b=>
   simp only[qG,Q3] at hk;have e:=Q4 hk.1;subst e;have wN:look s.cO p.key=none:=by simpa using hk.2
   simp only[Af,vj,St.arr,wN,hA] at h;cases hs:(A.sh||!m.lG A.md) with
   |true=>simp[hs] at h
   |false=>
    simp only[hs,aqa] at h;simp only[aGa,boa] at hs;have vm:=Md.xC hs.2;split at h
    ·rename_i y hy
     simp only[OQ,ala] at h;obtain⟨rfl,_⟩:=h;obtain⟨ec,el⟩:=lT hy;obtain⟨t',dp,sh,ll⟩:=A;simp only[Ty.slice.injEq] at ec;subst ec;simp only at el hs vm;obtain⟨rfl,_⟩:=hs;subst el vm;rfl
    ·cases h
  |_=>simp[qG] at hk
 |_=>simp[qG] at hk
theorem Wj{s:St}{full:(ps:li)×PV ps}:∀{ps:li} {v:PV ps} {a:AL},lz s ps=some (v,a)→lh full ps v→(ps.all fun p=>PT s p.1 p.2)=true→
  (∀ i tv,ZC i ps=true→look s.js i=some tv→look (lX full.1 full.2) i=some tv)∧
  (∀ o j lf,zy o j ps=true→dZ s.cF o j=some lf→dZ (b9 full.1 full.2) o j=some lf)∧
  (∀ nm A,ZB s nm ps=true→look s.fQ nm=some A→look (eJ full.1 full.2) nm=some A)
 |[],v,a,_,_,_=>⟨(fun _ _ h _=>(by cases h)),(fun _ _ _ h _=>(by cases h)),(fun _ _ h _=>(by cases h))⟩
 |(p,sp)::r,v,a,h,hf,hb=>by
  simp only[lz] at h;split at h
  ·rename_i x a1 h1
   split at h
   ·rename_i xs b h2
    simp only[OQ,ala] at h;obtain⟨rfl,rfl⟩:=h;simp only[bpa,Q3] at hb;obtain⟨b1,b2⟩:=hb;have f3:lh full r xs:=by cases p<;>exact hf.2.2
    have f2:∀ A,sp.arr x=some A→look (eJ full.1 full.2) p.key=some A:=by cases p<;>exact hf.2.1
    obtain⟨g1,g2,g3⟩:=Wj h2 f3 b2;refine⟨fun i tv hh hl=>?_,fun o j lf hh hl=>?_,fun nm A hh hl=>?_⟩
    ·cases p with
     |l o j=>exact g1 i tv hh hl
     |q _ _=>exact g1 i tv hh hl
     |r k=>
      simp only[ZC,a5a] at hh;rcases hh with hh|hh
      ·obtain rfl:=Q4 hh
       simp only[PT,hl,Q3] at b1;have wN:look s.eB k=none:=by simpa using b1.1
       have:=QH h1 (tv:=tv) (by simp[St.at,St.uK,St.ir,wN,hl]) b1.2
       rw[this];exact hf.1
      ·exact g1 i tv hh hl
    ·cases p with
     |r k=>exact g2 o j lf hh hl
     |q _ _=>exact g2 o j lf hh hl
     |l o' j'=>
      simp only[zy,a5a] at hh;rcases hh with hh|hh
      ·simp only[Q3] at hh
       obtain rfl:=Q4 hh.1;obtain rfl:=Q4 hh.2;simp only[PT,hl,Q3] at b1;obtain⟨b3,b4⟩:=b1;have vj:s.at (.l o' j')=.one lf:=by
        split at b3
        ·rename_i ls ho
         split at b3
         ·rename_i hj;simp[St.at,ho,hj,St.res,hl]
         ·cases b3
        ·cases b3
       have:=QH h1 (tv:=.one lf) vj b4;simp only[ae.one.injEq] at this;rw[this];exact hf.1
      ·exact g2 o j lf hh hl
    ·cases sp with
     |h m t=>
      simp only[ZB,a5a,Q3] at hh;rcases hh with ⟨hk,hh⟩|hh
      ·obtain rfl:=Q4 hk
       rw[f2 _ rfl];have key:∀ tv,s.at p=tv→qG s p.key (.h m t) tv=true→some (⟨t,m,false,x⟩:jS)=some A:=fun tv vj hk=>by rw[VD h1 vj hk hl]
       cases p with
       |q _ _=>cases hh
       |r k=>
        obtain⟨tv,htv⟩:=cia.1 hh;simp only[PT,htv,Q3] at b1;have wN:look s.eB k=none:=by simpa using b1.1
        exact key tv (by simp[St.at,St.uK,St.ir,wN,htv]) b1.2
       |l o j=>
        obtain⟨lf,hlf⟩:=cia.1 hh;simp only[PT,hlf,Q3] at b1;obtain⟨b3,b4⟩:=b1;refine key (.one lf) ?_ b4;split at b3
        ·rename_i ls ho
         split at b3
         ·rename_i hj;simp[St.at,ho,hj,St.res,hlf]
         ·cases b3
        ·cases b3
      ·exact g3 nm A hh hl
     |_=>exact g3 nm A hh hl
   ·cases h
  ·cases h
theorem Wk{s:St}{L:qr}{c:PV L.cs}{a:AL}(h:lz s L.cs=some (c,a))(hb:MY L.cs s=true):SO s L c:=by simp only[MY,Q3] at hb;obtain⟨⟨⟨⟨h1,h2⟩,h3⟩,h4⟩,h5⟩:=hb;obtain⟨g1,g2,g3⟩:=Wj (full:=⟨L.cs,c⟩) h (Bm (eF h1)) h2;exact⟨fun i tv hl=>g1 i tv (ana.1 h3 _ (dX hl)) hl,fun o j lf hl=>g2 o j lf (ana.1 h4 _ (KA hl)) hl,fun nm A hl=>g3 nm A (ana.1 h5 _ (dX hl)) hl⟩
theorem SO.iG{s st:St}{L:qr}{c:PV L.cs}(h:SO s L c)(b:kv st s):SO st L c:=
 ⟨fun i tv hl=>h.ir i tv (by rw[b.2.1];exact hl),fun o j lf hl=>h.bP o j lf (by rw[b.2.2.1];exact hl),fun nm A hl=>h.arr nm A (by rw[(bla b.2.2.2).1];exact hl)⟩
theorem Qg{L:qr}{c:PV L.cs}{v:PV L.vs}{st:St}(hs:SO st L c){o:Nat}:∀(ls:List ag) (j:Nat),
  All2 (fun a b=>∀ G u,aS G a u→aS G b u) ((L.st c v).kc o j ls) ((aft L c v st).kc o j (IU (b9 L.cs c) st.cF o j ls))
 |[],j=>trivial
 |l::r,j=>by
  refine⟨fun G u hu=>?_,Qg hs r (j+1)⟩;have DO:(L.st c v).cF=b9 L.cs c:=rfl;have Qo:(aft L c v st).cF=st.cF:=rfl;have nb:∀ l':ag,(match l' with | .vb=>False|_=>True)→(aft L c v st).res o j l' = l':=fun l' h=>by cases l'<;>first|exact h.elim|rfl
  cases l with
  |vb=>
   simp only[St.res,DO] at hu;simp only;cases hl:dZ st.cF o j with
   |some lf=>simp only[St.res,Qo,hl];rw[hs.bP o j lf hl] at hu;exact hu
   |none=>
    simp only;cases hc:dZ (b9 L.cs c) o j with
    |none=>trivial
    |some lf=>
     rw[hc] at hu;simp only;cases lf with
     |vb=>simp only[St.res,Qo,hl];trivial
     |_=>exact hu
  |_=>exact hu
theorem Jh{f:Nat→List ag→List ag}:∀{l:List (Nat×List ag)} {o:Nat} {tl:List ag},look (l.map fun p=>(p.1,f p.1 p.2)) o=some tl→∃ sl,look l o=some sl∧tl=f o sl
 |[],o,tl,h=>by cases h
 |(q,ls)::r,o,tl,h=>by
  simp only[aHa,aq] at h;rw[aq];by_cases e:q=o
  ·simp only[e,ava,OQ] at h ⊢
   subst h;exact⟨ls,rfl,rfl⟩
  ·simp only[e,Q9] at h ⊢
   exact Jh h
theorem AI{f:Nat→List ag→List ag}:∀{l:List (Nat×List ag)} {o:Nat} {sl:List ag},look l o=some sl→look (l.map fun p=>(p.1,f p.1 p.2)) o=some (f o sl)
 |(q,ls)::r,o,sl,h=>by
  rw[aq] at h;simp only[aHa,aq];by_cases e:q=o
  ·simp only[e,ava,OQ] at h ⊢;rw[h]
  ·simp only[e,Q9] at h ⊢
   exact AI h
theorem Qf{cl bl:List (Nat×Nat×ag)}{o:Nat}:∀{ls:List ag} {i j:Nat} {lf:ag},dZ bl o (i+j)=some lf→ls[j]? = some .vb→(IU cl bl o i ls)[j]? = some .vb
 |[],i,j,lf,_,h=>by simp at h
 |l::r,i,0,lf,hl,h=>by simp only[bda,OQ] at h;subst h;rw[cwa] at hl;simp[IU,hl]
 |l::r,i,j+1,lf,hl,h=>by simp only[IU,bta] at h ⊢;exact Qf (by rw[show i+1+j=i+(j+1) by omega];exact hl) h
theorem IA{L:qr}{c:PV L.cs}{v:PV L.vs}{st:St}(hs:SO st L c)(O0:L.pin=st.pin):Y1 (L.st c v) (aft L c v st):=by
 refine {pn:=O0.symm,vr:=rfl,ap:=fun nm A _ h=>?_,n:=rfl,arr:=fun nm A h=>?_,ir:=fun i tv h G u hu=>?_,dN:=fun o tl h=>?_,pin:=fun o sl _ h=>⟨_,AI (f:=fun o ls=>IU (b9 L.cs c) st.cF o 0 ls) h⟩,vb:=fun o j lf sl hl h hj=>⟨_,AI (f:=fun o ls=>IU (b9 L.cs c) st.cF o 0 ls) h,Qf (by rw[aWa];exact hl) hj⟩}
 ·have e1:(aft L c v st).arr nm=(match look (eJ L.vs v++(eJ L.cs c).filter fun p=>(look st.fQ p.1).isNone) nm with|some v=>some v|none=>look st.fQ nm):=rfl
  have e2:(L.st c v).arr nm=(match look (eJ L.vs v) nm with|some v=>some v|none=>look (eJ L.cs c) nm):=rfl
  rw[e1,iy];rw[e2] at h;cases h1:look (eJ L.vs v) nm with
  |some B=>exact⟨B,rfl⟩
  |none=>
   simp only[h1] at h ⊢;rw[Ad (fun k=>(look st.fQ k).isNone)];cases h2:look st.fQ nm with
   |none=>simp only[cHa,ava,h];exact⟨A,rfl⟩
   |some B=>simp only[cJa,asa,Q9];exact⟨B,rfl⟩
 ·have e1:(aft L c v st).arr nm=(match look (eJ L.vs v++(eJ L.cs c).filter fun p=>(look st.fQ p.1).isNone) nm with|some v=>some v|none=>look st.fQ nm):=rfl
  have e2:(L.st c v).arr nm=(match look (eJ L.vs v) nm with|some v=>some v|none=>look (eJ L.cs c) nm):=rfl
  rw[e1,iy] at h;rw[e2];cases h1:look (eJ L.vs v) nm with
  |some B=>simp only[h1] at h ⊢;exact h
  |none=>
   simp only[h1] at h ⊢;rw[Ad (fun k=>(look st.fQ k).isNone)] at h;cases h2:look st.fQ nm with
   |none=>
    simp only[h2,cHa,ava] at h;cases h3:look (eJ L.cs c) nm with
    |none=>simp[h3] at h
    |some B=>simpa[h3] using h
   |some B=>rw[h2] at h;simp only[cJa,asa,Q9] at h;rw[hs.arr nm B h2];exact h
 ·have e1:(aft L c v st).ir i=(match look (lX L.vs v++(S3 L.vs v++(lX L.cs c).filter fun p=>(look st.js p.1).isNone)) i with|some v=>some v|none=>look st.js i):=rfl
  have e2:(L.st c v).ir i=(match look (lX L.vs v++S3 L.vs v) i with|some v=>some v|none=>look (lX L.cs c) i):=rfl
  have:(L.st c v).ir i=some tv:=by
   rw[e1,iy] at h;rw[e2,iy];cases h1:look (lX L.vs v) i with
   |some B=>simp only[h1] at h ⊢;exact h
   |none=>
    simp only[h1] at h ⊢;rw[iy] at h;cases h0:look (S3 L.vs v) i with
    |some B=>simp only[h0] at h ⊢;exact h
    |none=>
    simp only[h0] at h ⊢;rw[Ad (fun k=>(look st.js k).isNone)] at h;cases h2:look st.js i with
    |none=>
     simp only[h2,cHa,ava] at h;cases h3:look (lX L.cs c) i with
     |none=>simp[h3] at h
     |some B=>simpa[h3] using h
    |some B=>rw[h2] at h;simp only[cJa,asa,Q9] at h;rw[hs.ir i B h2];exact h
  simpa[St.uK,this] using hu
 ·obtain⟨sl,h1,rfl⟩:=Jh (f:=fun o ls=>IU (b9 L.cs c) st.cF o 0 ls) h
  exact⟨sl,h1,Qg hs sl 0⟩
end Go.Fx
namespace Go.Fx
def wI:List ag→Bool
 |[]=>true
 |.eZ _ _::r=>wI r
 |_=>false
abbrev Dk(W:Type):Type 1:={R:Type}→W→((e:Exit)→(vs:li)→PV vs→Option R)→(TypeId→List ag→Option R)→Option R
def R7(o:Nat):li→Nat
 |[]=>0
 |(.l o' _,_)::r=>bif Nat.beq o' o then R7 o r+1 else R7 o r
 |_::r=>R7 o r
def aca(ci:List (Nat×Nat))(full:li):li→List (Nat×Nat)
 |[]=>[]
 |(.l o 0,_)::r=>bif eV o (ci.map (·.1)) then aca ci full r else(o,R7 o full)::aca ci full r
 |_::r=>aca ci full r
def qr.with(L:qr)(vs:li):qr:=⟨L.n,L.ci++aca L.ci vs vs,L.cs,vs,L.pin⟩
def QL(id:Nat):Exit→Exit
 |.exit i=>bif Nat.beq i id then .normal else .exit i
 |e=>e
def xJ(id:Nat)(L:qr){W:Type}(l:PV L.cs→PV L.vs→Option W)(dk:Dk W):lK where
 run st K KP:=(match ent L st with
  |none=>none
  |some (c,v,s)=>(bif MY L.cs s then(l c v).bind fun x=>dk x (fun e vs o=>K (QL id e) (aft (L.with vs) c o st)) (fun T ls=>KP (.AH T ls) (aft (L.with []) c () st)) else none))
theorem Ke{L:qr}{st s:St}{c:PV L.cs}{v:PV L.vs}(h:ent L st=some (c,v,s)):kv st s∧L.n=st.n∧L.pin=st.pin∧∃ a,lz s L.cs=some (c,a):=by
 unfold ent at h;split at h
 ·cases h
 ·rename_i s1 h1
  split at h
  ·cases h
  ·rename_i s2 h2
   split at h
   ·cases h
   ·rename_i c' a hc
    split at h
    ·cases h
    ·rename_i v' b hv
     cases hk:(Nat.beq L.n s2.n&&Au (a++b)&&EM L.ci s2&&qOk L.vs s2&&(X1 L.pin s2.pin&&GD L.pin (a++b))) with
     |false=>simp[hk] at h
     |true=>simp only[hk,aja,OQ,ala] at h;obtain⟨rfl,rfl,rfl⟩:=h;simp only[Q3] at hk;have hb:=(ot h1).trans (ot h2);exact⟨hb,(Q4 hk.1.1.1.1).trans hb.1,(RR hk.2.1).trans (bla hb.2.2.2).2,a,hc⟩
theorem S2{L:qr}{c:PV L.cs}{v:PV L.vs}{st:St}(hn:L.n=st.n):kv st (aft L c v st):=⟨hn,rfl,rfl,rfl⟩
theorem QC(id:Nat)(L:qr){W:Type}(l:PV L.cs→PV L.vs→Option W)(dk:Dk W):A6 (xJ id L l dk):=by
 intro R st K K' KP KP' hK hP;simp only[xJ];split
 ·rfl
 ·rename_i c v s hs
  obtain⟨_,hn,_,_⟩:=Ke hs;have e1:(fun(e:Exit) (vs:li) (o:PV vs)=>K (QL id e) (aft (L.with vs) c o st))=(fun e vs o=>K' (QL id e) (aft (L.with vs) c o st)):=funext fun e=>funext fun vs=>funext fun o=>hK _ _ (S2 (L:=L.with _) hn)
  have e2:(fun(T:TypeId) (ls:List ag)=>KP (.AH T ls) (aft (L.with []) c () st))=(fun T ls=>KP' (.AH T ls) (aft (L.with []) c () st)):=funext fun T=>funext fun ls=>hP _ _ (S2 (L:=L.with _) hn)
  rw[e1,e2];rfl
theorem Ic{G G':Gh}(h:G.MT G'):∀{ls:List ag} {vs:List Value},All2 (aS G) ls vs→All2 (aS G') ls vs:=fun {ls vs} hr=>hr.imp fun l v h'=>h'.sub h
theorem Xc{G:Gh}{al:AL}:∀{ls:List ag} {vs:List Value},wI ls=true→All2 (aS G) ls vs→All2 (aS (G.uL al)) ls vs
 |[],[],_,_=>trivial
 |.eZ t d::r,_::_,h,hr=>⟨hr.1,Xc (ls:=r) h hr.2⟩
 |[],_::_,_,hr=>hr.elim
 |_::_,[],_,hr=>hr.elim
theorem Xe{L:qr}{c:PV L.cs}{s:St}{v:PV L.vs}(hb:tZ L c s)(h:rnd L (fY L.cs c) s=some v){X:mS}{G:Gh}{w:World}(hm:az X s G w):
  ∃ G',az X (L.st c v) G' w∧∀ T ls u,wI ls=true→aO G (.AH T ls) u→aO G' (.AH T ls) u:=by
 unfold rnd at h;split at h
 ·cases h
 ·rename_i s1 h1
  split at h
  ·cases h
  ·rename_i v' b hv
   cases hk:(vP s1 L.cs&&Au (fY L.cs c++b)&&EM L.ci s1&&qOk L.vs s1&&GD L.pin (fY L.cs c++b)) with
   |false=>simp[hk] at h
   |true=>
    simp only[hk,aja,OQ] at h;subst h;simp only[Q3,vP] at hk;obtain⟨⟨⟨⟨⟨k0,k1⟩,k2⟩,k3⟩,k4⟩,k6⟩:=hk;have DO:=hb.iG (ot h1);obtain⟨G1,m1,a1,q1⟩:=n9 h1 hm;have hn:((fY L.cs c++b).map (·.1)).Nodup:=by have:=k2;simp only[Au,Q3] at this;exact eF this.1
    have hf:=Bm (v:=c) (eF k0);have N:=Sd (L:=L) (Jd (full:=⟨L.cs,c⟩) DO.2.1 DO.2.2.1 hn hf k1 (fun e he=>aya _ he)) (vC hn hv (fun e he=>ara _ he))
     (fun nm jX A ib=>by
      rcases aoa.1 ib with ib|ib
      ·exact Bz (full:=⟨L.cs,c⟩) (bla DO.2.2.2).1 hf k1 nm jX A ib
      ·exact pB hv nm jX A ib) k2 k3 DO.1 (fun o j lf hl=>⟨lf,by rw[←DO.2.2.1];exact hl⟩) k4 (bla DO.2.2.2).2.symm k6
     (fun nm jX A ib=>SC ((aoa.1 ib).imp (Cs nm jX A) (xZ hv nm jX A)))
    exact⟨_,N.ok m1,fun T ls u hd hu=>by
     obtain⟨x,cs,e1,e2,e3⟩:=hu;exact⟨x,cs,e1,e2,Xc hd (Ic a1 e3)⟩⟩
noncomputable def gd(L:qr)(c:PV L.cs)(s:St){W:Type}(x:Option W):Option W:=@ite _ (tZ L c s) (Classical.propDecidable _) x none
theorem Km{L:qr}{c:PV L.cs}{s:St}{W:Type}{x:Option W}(h:tZ L c s):gd L c s x=x:=by unfold gd;rw[a7a h]
theorem Fj{L:qr}{c:PV L.cs}{s:St}{W:Type}{x:Option W}{y:W}(h:gd L c s x=some y):tZ L c s∧x=some y:=by
 unfold gd at h;split at h
 ·rename_i hb;exact⟨hb,h⟩
 ·cases h
section
variable {P:Program} {E:tn} (hE:Gj P E)
include hE
theorem ab5{id:Nat}{body:Code}{L:qr}{W:Type}{l:Nat→PV L.cs→PV L.vs→Option W}{dk:Dk W}{out:PV L.cs→Exit→St→Option W}{pout:PV L.cs→ae→St→Option W}(hb:sY P E body)
  (h0:∀ c v,l 0 c v=none)
  (h1:∀ k c v,l (k+1) c v=tx E body (L.st c v) (fun e s=>match e with | .normal=>(rnd L (fY L.cs c) s).bind (l k c)|e=>out c e s) (pout c))
  (h2:∀ c e s x,out c e s=some x→∃ vs o,rnd (L.with vs) (fY L.cs c) s=some o∧∀(R:Type) f g,dk (R:=R) x f g=f e vs o)
  (h3:∀ c av s x,pout c av s=some x→∃ T ls,av=.AH T ls∧wI ls=true∧rnd (L.with []) (fY L.cs c) s=some ()∧∀(R:Type) f g,dk (R:=R) x f g=g T ls) (k:Nat):
  Rm P E.gt id (.loop body) (xJ id L (l k) dk):=by
 intro R r X st G w act K KP Q h zA hm hr hK hP;simp only[xJ] at h;split at h
 ·cases h
 ·rename_i c v s hs
  obtain⟨hbs,hn,O0,a,AR⟩:=Ke hs;cases hbi:MY L.cs s with
  |false=>simp[hbi] at h
  |true=>
   simp only[hbi,aja] at h;obtain⟨x,hx,h⟩:=axa.1 h;have bs0:=Wk AR hbi;have bs:SO st L c:=bs0.iG hbs;obtain⟨G1,m1,r1⟩:=Zp hs (fun o j lf hl=>⟨lf,bs0.bP o j lf hl⟩) hm hr;let Q':Exit→Act→World→Prop:=fun e a w=>match e with
    |.panic ch=>Q (.panic ch) a w
    |e=>Q (QL id e) a w
   have hQ:∀ e a w,Q' e a w→Exit.inBlock id Q e a w:=fun e a w hq=>by
    cases e with
    |exit i=>
     simp only[Exit.inBlock];by_cases e:i=id
     ·subst e;simp only[Q',QL,b8a,aja] at hq;simpa using hq
     ·simp only[Q',QL,vw e,aqa] at hq;simpa[e] using hq
    |_=>exact hq
   have yF:∀ e s G w act,e≠.normal→tZ L c s→az X s G w→bO G s act→out c e s=some x→Q' e act w:=fun e s G w act hG hb m r' ho=>by
    obtain⟨vs,o,g1,g2⟩:=h2 c e s x ho;rw[g2] at h;obtain⟨G',m',r''⟩:=VR (L:=L.with vs) (c:=c) (v:=o) hb g1 m r'
    have wk:=IA (L:=L.with vs) (c:=c) (v:=o) (st:=st) ⟨bs.ir,bs.bP,bs.arr⟩ O0
    have:=hK _ _ _ _ _ (wk.ok m' (fun o j u hu=>(hm.bv o j u hu).1)) (wk.eB r'') h;cases e with
    |panic ch=>exact this
    |_=>exact this
   have aei:∀ av u s G w act,tZ L c s→az X s G w→act.defers=G.ds→aO G av u→pout c av s=some x→Q' (.panic [{v:=u,recovered:=false}]) act w:=fun av u s G w act hb m r' hv ho=>by
    obtain⟨T,ls,rfl,hd,g1,g2⟩:=h3 c av s x ho;rw[g2] at h;obtain⟨G',m',hp⟩:=Xe (L:=L.with []) (c:=c) (v:=()) hb g1 m
    have wk:=IA (L:=L.with []) (c:=c) (v:=()) (st:=st) ⟨bs.ir,bs.bP,bs.arr⟩ O0
    exact hP _ _ _ _ _ _ (wk.ok m' (fun o j u hu=>(hm.bv o j u hu).1)) (r'.trans (m.ds.trans m'.ds.symm)) (hp T ls u hd hv) h
   refine wp_block (wp_mono (Q:=Q') ?_ hQ);intro b kk cs;have key:∀ k v G act w,az X (L.st c v) G w→bO G (L.st c v) act→l k c v=some x→
     ∃ e a' w',Q' e a' w'∧Arrives P (lone (b.at act (.code body::.inLoop body::kk)) cs w) b kk cs e a' w':=by
    intro k;induction k with
    |zero=>intro v G act w _ _ hl;rw[h0] at hl;cases hl
    |succ k ih=>
     intro v G act w m r' hl;rw[h1] at hl;have hl:=(QT hE.RI hE.adr body (K':=fun e s=>gd L c s (match e with | .normal=>(rnd L (fY L.cs c) s).bind (l k c)|e=>out c e s))
      (KP':=fun av s=>gd L c s (pout c av s)) (fun e s hs=>(Km ⟨hs.1.symm,hs.2.1,hs.2.2.1,hs.2.2.2⟩).symm) (fun av s hs=>(Km ⟨hs.1.symm,hs.2.1,hs.2.2.1,hs.2.2.2⟩).symm)).symm.trans hl
     have hwp:=Ag hE zA body hb (Q:=Exit.then (fun a w=>∃ e a' w',Q' e a' w'∧Arrives P (lone (b.at a (.code body::.inLoop body::kk)) cs w) b kk cs e a' w') Q') hl m r'
      (fun e s G w act m r' hk=>by
       obtain⟨hbo,hk⟩:=Fj hk;cases e with
       |normal=>obtain⟨v',g1,g2⟩:=axa.1 hk;obtain⟨G',m',r''⟩:=VR hbo g1 m r';exact ih v' G' act w m' r'' g2
       |_=>exact yF _ _ _ _ _ (by simp) hbo m r' hk)
      (fun av u s G w act m r' hv hk=>by
       obtain⟨hbo,hk⟩:=Fj hk;exact aei _ _ _ _ _ _ hbo m r' hv hk)
     obtain⟨e,a₁,w₁,hq,pt⟩:=hwp b (.inLoop body::kk) cs;cases e with
     |normal=>obtain⟨e₂,a₂,w₂,hq₂,afE⟩:=hq;exact⟨e₂,a₂,w₂,hq₂,.of_steps (Steps.trans pt (.one step_inLoop)) afE⟩
     |exit id=>exact⟨_,a₁,w₁,hq,.pass (x:=.inLoop body) rfl (fun _ _=>.inl (by simp)) pt⟩
     |goto l=>exact⟨_,a₁,w₁,hq,.pass (x:=.inLoop body) rfl (fun _ _=>.inl (by simp)) pt⟩
     |ret=>exact⟨_,a₁,w₁,hq,.pass (x:=.inLoop body) rfl (fun _ _=>.inl (by simp)) pt⟩
     |panic ch=>exact⟨_,a₁,w₁,hq,.pass (x:=.inLoop body) rfl (fun _ _=>.inl (by simp)) pt⟩
     |outgrown=>exact⟨_,a₁,w₁,hq,.pass (x:=.inLoop body) rfl (fun _ _=>.inl (by simp)) pt⟩
   obtain⟨e,a',w',hq,pt⟩:=key k v G1 act w m1 r1 hx;exact⟨e,a',w',hq,.of_steps (.one step_loop) pt⟩
theorem aeK{id:Nat}{ops:Array Oper}{L:qr}{W:Type}{F:PV L.cs→PV L.vs→Option W}{dk:Dk W}{out:PV L.cs→St→Option W}{pout:PV L.cs→ae→St→Option W}{ls:List (List Nat)}
  (hd:Eh ops.toList (iX ops.toList [])=true) (hc:jb ops.toList (iX ops.toList []) ops.toList.length []=ls)
  (h1:∀ l∈ls,Kb ops.toList l=true∧∀ c v,F c v=H6 E ops.toList (iX ops.toList []) l [] (L.st c v) (out c) (pout c))
  (h2:∀ c s x,out c s=some x→∃ vs o,rnd (L.with vs) (fY L.cs c) s=some o∧∀(R:Type) f g,dk (R:=R) x f g=f .normal vs o)
  (h3:∀ c av s x,pout c av s=some x→∃ T ls,av=.AH T ls∧wI ls=true∧rnd (L.with []) (fY L.cs c) s=some ()∧∀(R:Type) f g,dk (R:=R) x f g=g T ls):
  u9 P E.gt (.region id ops true) (xJ (id+1000000) L F dk):=by
 intro R r X st G w act K KP Q h zA hm hr hK hP;simp only[xJ] at h;split at h
 ·cases h
 ·rename_i c v s hs
  obtain⟨hbs,hn,O0,a,AR⟩:=Ke hs;cases hbi:MY L.cs s with
  |false=>simp[hbi] at h
  |true=>
   simp only[hbi,aja] at h;obtain⟨x,hx,h⟩:=axa.1 h;have bs0:=Wk AR hbi;have bs:SO st L c:=bs0.iG hbs;obtain⟨G1,m1,r1⟩:=Zp hs (fun o j lf hl=>⟨lf,bs0.bP o j lf hl⟩) hm hr;refine Xh hE.iE hE.BU hE.RI hE.det zA (K:=fun s=>gd L c s (out c s)) (KP:=fun av s=>gd L c s (pout c av s)) (r:=x) (Kok:=fun s=>gd L c s (out c s)=some x) (KPok:=fun av s=>gd L c s (pout c av s)=some x)
    (fun s G w act m r' ho=>?_) (fun av u s G w act m r' hv ho=>?_) hE.mix hd (fun l hl=>?_) (fun _ h=>h) (fun _ _ h=>h) m1 r1
   ·obtain⟨hb,ho⟩:=Fj ho
    obtain⟨vs,o,g1,g2⟩:=h2 c s x ho;rw[g2] at h;obtain⟨G',m',r''⟩:=VR (L:=L.with vs) (c:=c) (v:=o) hb g1 m r'
    have wk:=IA (L:=L.with vs) (c:=c) (v:=o) (st:=st) ⟨bs.ir,bs.bP,bs.arr⟩ O0
    exact hK _ _ _ _ _ (wk.ok m' (fun o j u hu=>(hm.bv o j u hu).1)) (wk.eB r'') h
   ·obtain⟨hb,ho⟩:=Fj ho
    obtain⟨T,xK,rfl,Mv,g1,g2⟩:=h3 c av s x ho;rw[g2] at h;obtain⟨G',m',hp⟩:=Xe (L:=L.with []) (c:=c) (v:=()) hb g1 m
    have wk:=IA (L:=L.with []) (c:=c) (v:=()) (st:=st) ⟨bs.ir,bs.bP,bs.arr⟩ O0
    exact hP _ _ _ _ _ _ (wk.ok m' (fun o j u hu=>(hm.bv o j u hu).1)) (r'.trans (m.ds.trans m'.ds.symm)) (hp T xK u Mv hv) h
   ·rw[hc] at hl
    obtain⟨q1,q2⟩:=h1 l hl;refine⟨q1,?_⟩;rw[q2 c v] at hx;exact(Fy hE.RI (fun s hs=>(Km ⟨hs.1.symm,hs.2.1,hs.2.2.1,hs.2.2.2⟩).symm) (fun av s hs=>(Km ⟨hs.1.symm,hs.2.1,hs.2.2.1,hs.2.2.2⟩).symm)).symm.trans hx
end
end Go.Fx
namespace Go.Fx
@[reducible] def DL:List Ty→Type
 |[]=>Unit
 |t::r=>t.nH×DL r
def vR:List ae→St→Option St
 |[],st=>some st
 |v::r,st=>(match v.qL st with|some st'=>vR r st' | none=>none)
def Qk(st:St):(ts:List Ty)→List ae→Option (DL ts)
 |[],[]=>some ()
 |t::ts,v::vs=>(match v.vK st t with|some x=>(match Qk st ts vs with|some r=>some (x,r)|none=>none)|none=>none)
 |_,_=>none
def Tr:(ts:List Ty)→Nat→DL ts→List (Nat×ae)
 |[],_,_=>[]
 |t::r,i,d=>(i,.one (.eZ t d.1))::Tr r (i+1) d.2
def stD(n:Nat)(ts:List Ty)(d:DL ts):St:=⟨n,Tr ts 0 d,[],[],[],[],[],[],[]⟩
def Mj(E:tn)(st:St):List ResultVar→Option (List ae)
 |[]=>some []
 |.tmp t::r=>(match Mj E st r with|some l=>some (st.uK t::l)|none=>none)
 |.cell t T::r=>(match st.uK t with
  |.one (.lw o off)=>(match zd E T (.one (.lw o off)) st (fun v _=>some v),Mj E st r with|some v,some l=>some (v::l)|_,_=>none)
  |_=>none)
def PM(E:tn)(rv:List ResultVar)(rs:List Ty)(st:St):Option (DL rs):=
 match Mj E st rv with
 |some vs=>(match vR vs st with|some st'=>Qk st' rs vs|none=>none)
 |none=>none
def acN:(rs:List Ty)→DL rs→List (Bool×List ag)
 |[],_=>[]
 |t::r,d=>(t.agg,jZ t d.1)::acN r d.2
def Uj(rs:List Ty)(d:DL rs):ae:=
 match rs,d with
 |[t],d=>.one (.eZ t d.1)
 |rs,d=>.Lm (acN rs d)
def AN(ts rs:List Ty){W:Type}(F:DL ts→Option W)(dec:W→DL rs):iF where
 run _ args st K _:=(match vR args st with
  |some st'=>(match Qk st' ts args with
   |some d=>(F d).bind fun r=>K (Uj rs (dec r)) (bif rs.all Ty.za then st else st')
   |none=>none)
  |none=>none)
 LP args _:=bif rs.all Ty.za then [] else nE args
theorem Lj:∀{vs:List ae} {st st':St},vR vs st=some st'→qZ (nE vs) st st'
 |[],st,st',h=>by cases h;exact .refl _ _
 |v::r,st,st',h=>by
  simp only[vR] at h;split at h
  ·rename_i s1 h1;exact((vG h1).mono fun q hq=>aya _ hq).trans ((Lj h).mono fun q hq=>ara _ hq)
  ·cases h
theorem SB:∀{vs:List ae} {st st':St},vR vs st=some st'→kv st st'
 |[],st,st',h=>by cases h;exact .refl _
 |v::r,st,st',h=>by
  simp only[vR] at h;split at h
  ·rename_i s1 h1;exact(Lk h1).trans (SB h)
  ·cases h
theorem yd(ts rs:List Ty){W:Type}(F:DL ts→Option W)(dec:W→DL rs):nz (AN ts rs F dec):=by
 intro R dst args st K K' KP KP' hK hP;simp only[AN] at hK ⊢;split
 ·rename_i st' hs
  split
  ·refine dW fun r=>hK _ _ ?_
   cases rs.all Ty.za with
   |true=>exact .refl _ _
   |false=>exact Lj hs
  ·rfl
 ·rfl
theorem BV(ts rs:List Ty){W:Type}(F:DL ts→Option W)(dec:W→DL rs):po (AN ts rs F dec):=by
 intro R dst args st K KP;simp only[AN]
 repeat' (first|rfl|apply fM|intro _|split)
theorem zn{X:mS}{w:World}:∀{vs:List ae} {st st':St} {G:Gh},vR vs st=some st'→az X st G w→∃ G',az X st' G' w∧G.MT G'∧rK st st'
 |[],st,st',G,h,hm=>by cases h;exact⟨G,hm,.refl G,.refl _⟩
 |v::r,st,st',G,h,hm=>by
  simp only[vR] at h;split at h
  ·rename_i s1 h1
   obtain⟨G1,m1,a1,k1⟩:=FB h1 hm;obtain⟨G2,m2,a2,k2⟩:=zn h m1;exact⟨G2,m2,a1.trans a2,k1.trans k2⟩
  ·cases h
def Ao(G:Gh):(ts:List Ty)→DL ts→List Value→Prop
 |[],_,[]=>True
 |t::r,d,v::vs=>aS G (.eZ t d.1) v∧Ao G r d.2 vs
 |_,_,_=>False
theorem Ep{X:mS}{st:St}{G:Gh}{w:World}(hm:az X st G w):∀{ts:List Ty} {avs:List ae} {d:DL ts} {vs:List Value},Qk st ts avs=some d→All2 (aO G) avs vs→Ao G ts d vs
 |[],[],d,[],_,_=>trivial
 |t::ts,a::avs,d,v::vs,h,hr=>by
  simp only[Qk] at h;split at h
  ·rename_i x hx
   split at h
   ·rename_i r hr'
    simp only[OQ] at h;subst h;exact⟨D7 hm hx hr.1,Ep hm hr' hr.2⟩
   ·cases h
  ·cases h
 |[],[],d,_::_,_,hr=>hr.elim
 |[],_::_,d,_,h,_=>by cases h
 |_::_,[],d,_,h,_=>by cases h
 |_::_,_::_,d,[],_,hr=>hr.elim
theorem Ao.eB{G:Gh}{n:Nat}:∀{ts:List Ty} {d:DL ts} {vs:List Value} (pre:List Value),Ao G ts d vs→∀ i v,look (Tr ts pre.length d) i=some v→aO G v ((pre++vs).getD i undef)
 |[],d,[],pre,_,i,v,h=>by cases h
 |t::r,d,u::vs,pre,hd,i,v,h=>by
  simp only[Tr,aq] at h;by_cases e:pre.length=i
  ·simp only[e,ava,OQ] at h
   subst h;subst e;have:(pre++u::vs).getD pre.length undef=u:=by simp[a8a]
   rw[this];exact hd.1
  ·simp only[e,Q9] at h
   have:=Ao.eB (n:=n) (pre++[u]) hd.2 i v (by simpa using h)
   simpa using this
 |[],d,_::_,_,h,_,_,_=>h.elim
 |_::_,d,[],_,h,_,_,_=>h.elim
theorem Ao.length{G:Gh}:∀{ts:List Ty} {d:DL ts} {vs:List Value},Ao G ts d vs→vs.length=ts.length
 |[],d,[],_=>rfl
 |t::r,d,u::vs,hd=>by simp[Ao.length hd.2]
 |[],d,_::_,h=>h.elim
 |_::_,d,[],h=>h.elim
def Tl(S:DN)(w:World):mS:=⟨S,fun _=>False,w,fun _=>none,(fun _ _ h=>(by cases h)),fun _ _=>none,(fun _ _ _ h=>(by cases h)),fun _=>none,[]⟩
def ghD(S:DN):Gh:=⟨S,fun _=>0,fun _=>[],fun _=>[],fun _=>.slice none 0 0,fun _=>[],fun _=>0,fun _ _=>[],[]⟩
theorem VW{S:DN}{w:World}(hS:∀ b o,S b=some o→w.heap[b]? = some o)(n:Nat)(ts:List Ty)(d:DL ts):az (Tl S w) (stD n ts d) (ghD S) w:=by
 have no:∀ x b,¬ eW (ghD S) (stD n ts d) x b:=fun x b hx=>by
  obtain⟨k,m⟩:=x;cases k with
  |false=>obtain⟨⟨ls,h⟩,_⟩:=hx;cases h
  |true=>obtain⟨⟨A,h,_⟩,_⟩:=hx;cases h
 refine {sl:=fun _=>.inl ⟨_,_,_,rfl⟩,sh:=hS,ob:=fun o ls h=>(by cases h),ar:=fun a A h=>(by cases h),ah:=fun a A h=>(by cases h),nd:=fun a A h=>(by cases h),qs:=fun x y b h=>(no x b h).elim,dS:=fun x b h=>(no x b h).elim,tY:=fun x b h=>(no x b h).elim,s0:=fun b o h=>h,sn:=fun b o h=>.inl h,fr:=fun b _ _=>rfl,sz:=awa _,os:=rfl,tp:=rfl,out:=rfl,pin:=fun o p h=>(by cases h),bv:=fun o j u h=>(by cases h),ap:=fun a u h=>(by cases h),hv:=fun _=>rfl,ds:=rfl,hh:=fun a A h=>(by cases h)}
theorem az.afm{X:mS}{st:St}{G:Gh}{w w':World}(hm:az X st G w){t:St}{G3:Gh}(h3:az (Tl G.S w) t G3 w'):az X st {G with S:=G3.S} w'∧G.MT {G with S:=G3.S}:=by
 have hS:∀ b o,G.S b=some o→G3.S b=some o:=h3.s0;have p6:G.MT {G with S:=G3.S}:=⟨hS,rfl,rfl,rfl,rfl,rfl,rfl,rfl,rfl⟩
 have tV:∀ b,b<w.heap.size→w'.heap[b]? = w.heap[b]?:=fun b hb=>h3.fr b hb (fun h=>h);have gz:∀ x b,eW {G with S:=G3.S} st x b→eW G st x b:=fun x b hx=>by obtain⟨k,m⟩:=x;cases k<;>exact hx
 refine⟨{sl:=hm.sl,sh:=h3.sh,ob:=fun o ls h=>?_,ar:=fun a A h=>?_,ah:=fun a A h hs p hp=>?_,nd:=hm.nd,qs:=fun x y b hx hy=>hm.qs x y b (gz x b hx) (gz y b hy),dS:=fun x b hx=>?_,tY:=fun x b hx=>hm.tY x b (gz x b hx),s0:=fun b o h=>hS b o (hm.s0 b o h),sn:=fun b o h=>?_,fr:=fun b h1 h2=>?_,sz:=bEa hm.sz h3.sz,os:=h3.os.trans hm.os,tp:=h3.tp.trans hm.tp,out:=h3.out.trans hm.out,pin:=hm.pin,bv:=fun o j u h=>(by obtain⟨h1,⟨l,h2,h5⟩,yw,rE,h4,h6⟩:=hm.bv o j u h;exact⟨h1,⟨l,h2,h5⟩,yw,rE,by rw[tV _ (eW.lt hm (x:=(false,o)) ⟨⟨l,h2⟩,rfl⟩)];exact h4,h6⟩),ap:=hm.ap,hv:=hm.hv,ds:=hm.ds,hh:=hm.hh},p6⟩
 ·obtain⟨arr,elem,mid,g1,g2,g3⟩:=hm.ob o ls h
  exact⟨arr,elem,mid,by rw[tV _ (eW.lt hm (x:=(false,o)) ⟨⟨ls,h⟩,rfl⟩)];exact g1,g2,Ic p6 g3⟩
 ·exact(hm.ar a A h).mono (G:=G) (a:=a) (G':={G with S:=G3.S}) (a':=a) hS rfl rfl (fun _ _ _=>⟨rfl,rfl,rfl⟩)
 ·rw[tV p.1 (eW.lt hm (x:=(true,a)) ⟨⟨A,h,hs⟩,p,hp,rfl⟩)];exact hm.ah a A h hs p hp
 ·have Fk:=gz x b hx
  have bg:=eW.lt hm Fk;cases hc:G3.S b with
  |none=>rfl
  |some o=>
   rcases h3.sn b o hc with h|h|h
   ·have:=hm.dS x b Fk;rw[show G.S b=some o from h] at this;cases this
   ·exact h.elim
   ·have h:w.heap.size≤b:=h;omega
 ·rcases h3.sn b o h with h|h|h
  ·exact hm.sn b o h
  ·exact h.elim
  ·have:=hm.sz;have h:w.heap.size≤b:=h;exact .inr (.inr (by omega))
 ·rw[tV b (by have:=hm.sz;omega)];exact hm.fr b h1 h2
def H5:List Value→Value
 |[v]=>v
 |vs=>.tuple vs.toArray
theorem Zm{G G':Gh}(hS:G'.S=G.S):∀{ts:List Ty} {d:DL ts} {vs:List Value},Ao G ts d vs→Ao G' ts d vs
 |[],d,[],_=>trivial
 |t::r,d,v::vs,h=>by obtain⟨cs,e1,e2⟩:=h.1;exact⟨⟨cs,e1,by rw[hS];exact e2⟩,Zm hS h.2⟩
 |[],d,_::_,h=>h.elim
 |_::_,d,[],h=>h.elim
theorem P9{G G':Gh}:∀{ts:List Ty} {d:DL ts} {vs:List Value},ts.all Ty.za=true→Ao G ts d vs→Ao G' ts d vs
 |[],d,[],_,_=>trivial
 |t::r,d,v::vs,hn,h=>by simp only[bpa,Q3] at hn;obtain⟨cs,e1,e2⟩:=h.1;exact⟨⟨cs,e1,wy hn.1 e2⟩,P9 hn.2 h.2⟩
 |[],d,_::_,_,h=>h.elim
 |_::_,d,[],_,h=>h.elim
theorem Ct{P:Program}{E:tn}(hE:iO P E.iE){X:mS}{st:St}{G:Gh}{w:World}{act:Act}(hm:az X st G w)(hr:bO G st act):∀{rv:List ResultVar} {avs:List ae},Mj E st rv=some avs→
  ∃ zD:List Value,(rv.mapM fun(x:ResultVar)=>(match x with
   |.tmp t=>pure (act.tmps.getD t undef)
   |.cell a t=>do loadVar t (←asAddr (act.tmps.getD a undef)):Sem Value)).run P w=.ok zD w∧All2 (aO G) avs zD
 |[],avs,h=>by cases h;exact⟨[],rfl,trivial⟩
 |.tmp t::r,avs,h=>by
  simp only[Mj] at h;split at h
  ·rename_i l hl
   cases h;obtain⟨zD,h1,h2⟩:=Ct hE hm hr hl;refine⟨act.tmps.getD t undef::zD,?_,?_,h2⟩
   ·rw[List.mapM_cons,aMa]
    simp only[baa,aFa];rw[aMa,h1];rfl
   ·unfold St.uK
    cases hs:st.ir t with
    |none=>trivial
    |some sv=>exact hr.2.2 t sv hs
  ·cases h
 |.cell t T::r,avs,h=>by
  simp only[Mj] at h;split at h
  ·rename_i o off xG
   split at h
   ·rename_i v l hv hl
    simp only[OQ] at h;subst h;obtain⟨zD,h1,h2⟩:=Ct hE hm hr hl;have hp:aO G (.one (.lw o off)) (act.tmps.getD t undef):=by
     rw[←xG];unfold St.uK;cases hs:st.ir t with
     |none=>rw[St.uK,hs] at xG;cases xG
     |some sv=>exact hr.2.2 t sv hs
    obtain⟨av,u,h3,h4,h5⟩:=KG hE hv hm hp;cases h5;have hq:∃ a,act.tmps.getD t undef=.pointer (some a):=⟨_,hp⟩;obtain⟨a,ha⟩:=hq;rw[ha] at h3;refine⟨u::zD,?_,h4,h2⟩;have h3':(do loadVar T (←asAddr (act.tmps.getD t undef)):Sem Value).run P w=.ok u w:=by rw[ha];have:=h3;simpa[Instr.loadAt,Instr.sureAddr,asAddr] using this
    rw[List.mapM_cons,aMa];dsimp only;rw[h3'];simp only[aFa];rw[aMa,h1];rfl
   ·cases h
  ·cases h
theorem Lg{P:Program}{E:tn}(hE:iO P E.iE){X:mS}{st:St}{G:Gh}{w:World}{act:Act}{fn:Func}{avs:List ae}(hm:az X st G w)(hr:bO G st act)(h:Mj E st fn.results.toList=some avs):
  ∃ zD:List Value,(results fn act.tmps).run P w=.ok (H5 zD) w∧All2 (aO G) avs zD:=by
 obtain⟨zD,h1,h2⟩:=Ct hE hm hr h;refine⟨zD,?_,h2⟩;obtain⟨g,g1,g2⟩:∃ g:ResultVar→Sem Value,results fn act.tmps=(do let vs ←fn.results.mapM g;pure (if h:vs.size=1 then vs[0] else .tuple vs))∧g=fun(x:ResultVar)=>(match x with
   |.tmp t=>pure (act.tmps.getD t undef)
   |.cell a t=>do loadVar t (←asAddr (act.tmps.getD a undef)):Sem Value):=⟨_,rfl,by funext x;cases x<;>rfl⟩
 rw[g1,Array.mapM_eq_mapM_toList,g2,aMa,Sem.run_map,h1];simp only[aFa,baa]
 congr 1
 match zD with
 |[]=>rfl
 |[v]=>rfl
 |v::u::r=>simp[H5]
theorem Xw{G:Gh}:∀{rs:List Ty} {d:DL rs} {vs:List Value},Ao G rs d vs→All2 (fun(p:Bool×List ag) u=>if p.1=true then ∃ cs:List Value,u=.agg cs.toArray∧All2 (aS G) p.2 cs else ∃ l,p.2=[l]∧aS G l u) (acN rs d) vs
 |[],d,[],_=>trivial
 |t::r,d,v::vs,h=>by
  refine⟨?_,Xw h.2⟩;obtain⟨cs,e1,e2⟩:=h.1;cases ha:t.agg with
  |true=>simp only[ha,ava] at e1 ⊢;exact⟨cs,e1,lV e2⟩
  |false=>simp only[ha,asa,Q9] at e1 ⊢;cases t<;>simp[Ty.agg] at ha<;>exact⟨_,rfl,_,by simp[Ty.agg,e1],e2⟩
 |[],d,_::_,h=>h.elim
 |_::_,d,[],h=>h.elim
theorem MF{G:Gh}{rs:List Ty}{x:DL rs}{vs:List Value}(h:Ao G rs x vs):aO G (Uj rs x) (H5 vs):=by
 cases rs with
 |nil=>
  cases vs with
  |nil=>exact⟨[],rfl,trivial⟩
  |cons _ _=>exact h.elim
 |cons t rs=>
  cases vs with
  |nil=>exact h.elim
  |cons v vs=>
   cases rs with
   |nil=>
    cases vs with
    |nil=>exact h.1
    |cons _ _=>exact h.2.elim
   |cons t2 rs=>
    cases vs with
    |nil=>exact h.2.elim
    |cons v2 vs=>exact⟨v::v2::vs,rfl,Xw h⟩
section
variable {P:Program} {E:tn} (hE:Gj P E)
include hE
omit hE in
theorem az.ad5{X:mS}{st:St}{G:Gh}{w w':World}(hm:az X st G w)(tV:∀ b,b<w.heap.size→w'.heap[b]? = w.heap[b]?)(mX:w.heap.size≤w'.heap.size)(hos:w'.os=w.os)(htp:w'.tape=w.tape)(yF:w'.output=w.output):az X st G w':=by
 have old:∀{b:Nat} {o:Obj},w.heap[b]? = some o→w'.heap[b]? = some o:=fun {b o} h=>by rw[tV b (fZ h)];exact h
 exact {
  sl:=hm.sl,sh:=fun b o h=>old (hm.sh b o h),ob:=fun o ls h=>(by obtain⟨arr,elem,mid,g1,g2,g3⟩:=hm.ob o ls h;exact⟨arr,elem,mid,old g1,g2,g3⟩),ar:=hm.ar,ah:=fun a A h hs p hp=>old (hm.ah a A h hs p hp),nd:=hm.nd,qs:=hm.qs,dS:=hm.dS,tY:=hm.tY,s0:=hm.s0,sn:=hm.sn,fr:=fun b h1 h2=>(by rw[tV b (by have:=hm.sz;omega)];exact hm.fr b h1 h2),sz:=bEa hm.sz mX,os:=hos.trans hm.os,tp:=htp.trans hm.tp,out:=yF.trans hm.out,pin:=hm.pin
  bv:=fun o j u h=>(by obtain⟨h1,h2,yw,rE,h4,h5⟩:=hm.bv o j u h;exact⟨h1,h2,yw,rE,old h4,h5⟩),ap:=hm.ap,hv:=hm.hv,ds:=hm.ds,hh:=hm.hh}
omit hE in
theorem Nq{G1:Gh}{ts:List Ty}{d:DL ts}{vs:List Value}{n:Nat}(hdr:Ao G1 ts d vs)(hn:ts.length≤n):bO (ghD G1.S) (stD n ts d) {tmps:=vs.toArray++Array.replicate (n - vs.toArray.size) undef,defers:=[]}:=by
 have hl:=hdr.length;refine⟨rfl,by simp[stD];omega,fun i v hv=>?_⟩
 have ahf:Ao (ghD G1.S) ts d vs:=by
  have key:∀{ts:List Ty} {d:DL ts} {vs:List Value},Ao G1 ts d vs→Ao (ghD G1.S) ts d vs:=by
   intro ts;induction ts with
   |nil=>intro d vs h;cases vs<;>exact h
   |cons t r ih=>intro d vs h;cases vs with
    |nil=>exact h
    |cons v vs=>exact⟨h.1,ih h.2⟩
  exact key hdr
 have h1:(stD n ts d).ir i=look (Tr ts 0 d) i:=by simp only[St.ir,stD];cases look (Tr ts 0 d) i<;>rfl
 rw[h1] at hv;have h2:=Ao.eB (n:=0) [] ahf i v hv;simp only[aYa] at h2;have hi:i<vs.length:=by
  rw[hl];have:∀{ts:List Ty} {d:DL ts} {k i:Nat} {v:ae},look (Tr ts k d) i=some v→i<k+ts.length:=by
   intro ts;induction ts with
   |nil=>intro d k i v h;cases h
   |cons t r ih=>
    intro d k i v h;simp only[Tr,aq] at h;by_cases e:k=i
    ·subst e;simp
    ·simp only[e,Q9] at h
     have:=ih h;simp only[aDa];omega
  have:=this hv;omega
 rw[aBa,Array.getElem?_append_left (by simpa using hi)]
 simpa[a8a] using h2
theorem Uy{X:mS}{st wU:St}{G G1:Gh}{w w':World}(hm:az X st G w)(m1:az X wU G1 w)(a1:G.MT G1)(k1:rK st wU){rs:List Ty}{x:DL rs}{fn:Func}{s:St}{G3:Gh}{act:Act}{R:Type}{r:R}{K:ae→St→Option R}
  (hr:K (Uj rs x) (bif rs.all Ty.za then st else wU)=some r) (m3:az (Tl G1.S w) s G3 w') (r3:bO G3 s act) (Kq:PM E fn.results.toList rs s=some x):
  ∃ v,(results fn act.tmps).run P w' = .ok v w'∧∃ av st' G',az X st' G' w'∧(∀ act,bO G st act→bO G' st' act)∧aO G' av v∧K av st' = some r:=by
 unfold PM at Kq;split at Kq
 ·rename_i avs hav
  split at Kq
  ·rename_i s' Co
   obtain⟨vs',iH,h2⟩:=Lg hE.iE m3 r3 hav;obtain⟨G4,m4,a4,k4⟩:=zn Co m3;have afM:=Ep m4 Kq (h2.imp fun a v h=>h.sub a4);cases Mz:rs.all Ty.za with
   |true=>rw[Mz] at hr;exact⟨_,iH,Uj rs x,st,G,hm.ad5 (fun b hb=>m4.fr b hb (fun h=>h)) m4.sz m4.os m4.tp m4.out,fun act ra=>ra,MF (P9 Mz afM),hr⟩
   |false=>rw[Mz] at hr;obtain⟨mc,ahU⟩:=m1.afm m4;exact⟨_,iH,Uj rs x,wU,_,mc,fun act ra=>(BB k1 a1 ra).sub ahU rfl (fun _=>rfl),MF (Zm (G:=G4) (G':={G1 with S:=G4.S}) rfl afM),hr⟩
  ·cases Kq
 ·cases Kq
theorem abN{f:FuncId}{fn:Func}{c:Code}{ts rs:List Ty}{W:Type}{F:DL ts→Option W}(pack:DL rs→W){dec:W→DL rs}(Vh:∀ r,dec (pack r)=r)(hf:P.funcs[f]? = some fn)(hb:fn.body=some c)(Bs:∀ args w,(callFunc f args).run P w=.ok (.enter f args) w)(hL:sY P E c)
  (hn:ts.length≤fn.ntmps)
  (h:∀ d,F d=tx E c (stD fn.ntmps ts d) (fun e s=>match e with | .normal=>(PM E fn.results.toList rs s).map pack | .ret=>(PM E fn.results.toList rs s).map pack|_=>none) (fun _ _=>none)):Bc P E.gt f (AN ts rs F dec):=by
 intro R r X st G w dst args vs K KP hr zA hm _ ha;simp only[AN] at hr;split at hr
 ·rename_i wU hs
  split at hr
  ·rename_i d hd
   obtain⟨y,hx,hr⟩:=axa.1 hr;obtain⟨G1,m1,a1,k1⟩:=zn hs hm;have B0:nG E.gt (Tl G1.S w).S0:=zA.mono m1.s0;have hdr:=Ep m1 hd (ha.imp fun a v h=>h.sub a1);refine⟨Bs _ _,calls_of_wp hf hb ?_⟩;have Bw:∀ s G3 w' act,az (Tl G1.S w) s G3 w'→bO G3 s act→(PM E fn.results.toList rs s).map pack=some y→act.defers=[]∧∃ v,(results fn act.tmps).run P w' = .ok v w'∧
     ∃ av st' G',az X st' G' w'∧(∀ act,bO G st act→bO G' st' act)∧aO G' av v∧K av st' = some r:=fun s G3 w' act m3 r3 Kq=>by
    refine⟨r3.1.trans m3.ds,?_⟩;obtain⟨x,af7,hy⟩:=aKa.1 Kq;rw[←hy,Vh] at hr;exact Uy hE hm m1 a1 k1 hr m3 r3 af7
   rw[h] at hx;refine Ag hE B0 c hL hx (VW m1.sh _ _ _) (Nq hdr hn) (fun e s G3 w' act m3 r3 hk=>?_) (fun av v s G3 w' act m3 r3 hv hk=>by cases hk)
   cases e with
   |normal=>exact Bw s G3 w' act m3 r3 hk
   |ret=>exact Bw s G3 w' act m3 r3 hk
   |_=>cases hk
  ·cases hr
 ·cases hr
end
end Go.Fx
namespace Go.Fx
noncomputable def xe(t:St)(G:Gh)(w:World):mS where
 S0:=G.S
 Yq:=fun b=>∃ x,eW G t x b
 w0:=w
 pin:=fun o=>if o<10000 then(match t.dN o with|some _=>some (G.φ o,G.pre o,G.post o)|none=>none) else none
 pl:=fun o p h=>by
  by_cases bg:o<10000
  ·exact bg
  ·simp[bg] at h
 bv:=fun o j=>if o<10000 then(match t.dN o,dZ t.cF o j with
  |some ls,some _=>(match ls[j]?,w.heap[G.φ o]? with
   |some .vb,some (.cells arr elem fz)=>arr.toList[(G.pre o).length+j]?
   |_,_=>none)
  |_,_=>none) else none
 bl:=fun o j u h=>by
  by_cases bg:o<10000
  ·exact bg
  ·simp[bg] at h
 abx:=fun a=>if eV a t.pin=true then(match t.arr a with|some _=>some (G.ψ a)|none=>none) else none
theorem Gh.Qy{G:Gh}{ds:List Deferred}{l:ag}{v:Value}(r:aS G l v):aS {G with ds:=ds} l v:=by cases l<;>exact r
theorem Gh.ae8{G:Gh}{ds:List Deferred}{a:ae}{v:Value}(r:aO G a v):aO {G with ds:=ds} a v:=by
 cases a with
 |one l=>exact Qy r
 |agg ls=>obtain⟨cs,e,hr⟩:=r;exact⟨cs,e,hr.imp fun _ _=>Qy⟩
 |Lm vs=>
  obtain⟨us,e,hr⟩:=r;refine⟨us,e,hr.imp fun p u NO=>?_⟩;split at NO
  ·rename_i hc;simp only[hc,ava];obtain⟨cs,e,hr⟩:=NO;exact⟨cs,e,hr.imp fun _ _=>Qy⟩
  ·rename_i hc
   obtain⟨l,e,hr⟩:=NO;simp only[hc,Q9];exact⟨l,e,Qy hr⟩
 |AH t ls=>obtain⟨u,cs,e1,e2,hr⟩:=r;exact⟨u,cs,e1,e2,hr.imp fun _ _=>Qy⟩
theorem az.aaX{X:mS}{t:St}{G:Gh}{w:World}(hm:az X t G w)(ds:List Deferred)(p:Nat→Option (Nat×List Value×List Value))(pl:∀ o q,p o=some q→o<10000)
  (hp:∀ o q,p o=some q→(∃ ls,t.dN o=some ls)∧q=(G.φ o,G.pre o,G.post o)):az {X with ds:=ds,pin:=p,pl:=pl} t {G with ds:=ds} w:=
 {
  sl:=hm.sl,sh:=hm.sh,ob:=fun o ls h=>(by obtain⟨a,e,m,h1,h2,h3⟩:=hm.ob o ls h;exact⟨a,e,m,h1,h2,h3.imp fun _ _=>Gh.Qy⟩),ar:=hm.ar,ah:=hm.ah,nd:=hm.nd,qs:=fun x y b h1 h2=>hm.qs x y b (by cases x with|mk k o=>cases k<;>exact h1) (by cases y with|mk k o=>cases k<;>exact h2)
  dS:=fun x b h=>hm.dS x b (by cases x with|mk k o=>cases k<;>exact h),tY:=fun x b h=>hm.tY x b (by cases x with|mk k o=>cases k<;>exact h),s0:=hm.s0,sn:=hm.sn,fr:=hm.fr,sz:=hm.sz,os:=hm.os,tp:=hm.tp,out:=hm.out,pin:=hp,bv:=hm.bv,ap:=hm.ap,hv:=hm.hv,ds:=rfl,hh:=hm.hh}
theorem az.ds0{X:mS}{t:St}{G:Gh}{w:World}(hm:az X t G w):az {X with ds:=[]} t {G with ds:=[]} w:=
 hm.aaX [] X.pin X.pl hm.pin
theorem az.enter{X:mS}{t:St}{G:Gh}{w:World}(hm:az X t G w):az (xe t G w) t {G with ds:=[]} w:=by
 replace hm:=hm.ds0
 refine {sl:=hm.sl,sh:=hm.sh,ob:=hm.ob,ar:=hm.ar,ah:=hm.ah,nd:=hm.nd,qs:=hm.qs,dS:=hm.dS,tY:=fun x b h=>.inl ⟨x,by cases x with|mk k o=>cases k<;>exact h⟩,s0:=fun b o h=>h,sn:=fun b o h=>.inl h,fr:=fun b _ _=>rfl,sz:=awa _,os:=rfl,tp:=rfl,out:=rfl,pin:=fun o p h=>?_,bv:=fun o j u h=>?_,ap:=fun a u h=>?_,hv:=hm.hv,ds:=hm.ds,hh:=hm.hh}
 ·simp only[xe] at h
  split at h
  ·split at h
   ·rename_i ls ho
    simp only[OQ] at h;exact⟨⟨ls,ho⟩,h.symm⟩
   ·cases h
  ·cases h
 ·simp only[xe] at h
  split at h
  ·split at h
   ·rename_i ls lf ho hl
    split at h
    ·rename_i arr elem fz hj hh
     obtain⟨yw,rE,mid,g1,g2,g3⟩:=hm.ob o ls ho;rw[g1] at hh;cases hh;exact⟨⟨lf,hl⟩,⟨ls,ho,hj⟩,_,_,g1,h⟩
    ·cases h
   ·cases h
  ·cases h
 ·simp only[xe] at h
  split at h
  ·rename_i hp
   split at h
   ·rename_i A hA;simp only[OQ] at h;exact⟨hp,⟨A,hA⟩,h⟩
   ·cases h
  ·cases h
theorem Vm{t:St}{G:Gh}{w:World}{a:Nat}{A:jS}(hp:eV a t.pin=true)(ha:t.arr a=some A):(xe t G w).abx a=some (G.ψ a):=by simp[xe,hp,ha]
theorem Qu{t:St}{G:Gh}{w:World}{o:Nat}{ls:List ag}(bg:o<10000)(ho:t.dN o=some ls):(xe t G w).pin o=some (G.φ o,G.pre o,G.post o):=by simp[xe,bg,ho]
theorem NX{X:mS}{t:St}{G:Gh}{w:World}(hm:az X t G w){o j:Nat}{ls:List ag}{lf:ag}(bg:o<10000)(ho:t.dN o=some ls)(hl:dZ t.cF o j=some lf)(hj:ls[j]? = some .vb):
  ∃ arr elem u,w.heap[G.φ o]? = some (.cells arr elem (0,0))∧arr.toList[(G.pre o).length+j]? = some u∧(xe t G w).bv o j=some u:=by
 obtain⟨arr,elem,mid,g1,g2,g3⟩:=hm.ob o ls ho;have hml:mid.length=ls.length:=by have:=All2.length g3;rw[iW] at this;exact this.symm
 have hjl:j<ls.length:=(aka.1 hj).1;have:(G.pre o).length+j<arr.toList.length:=by rw[g2];simp;omega
 refine⟨arr,elem,arr.toList[(G.pre o).length+j],g1,bja this,?_⟩;simp only[xe,bg,ava,ho,hl,hj,g1];exact bja this
end Go.Fx
namespace Go.Fx
def Gh.iP(G G3:Gh)(told:Nat→Option (Option Nat))(lE oS:Nat→Option Nat):Gh:={G with
 S:=G3.S
 φ:=fun o=>match oS o with|some k=>G3.φ k|none=>G.φ o
 pre:=fun o=>match oS o with|some k=>G3.pre k|none=>G.pre o
 post:=fun o=>match oS o with|some k=>G3.post k|none=>G.post o
 ψ:=fun a=>match told a with|some (some k)=>G3.ψ k|some none=>.slice none 0 0|none=>G.ψ a
 HA:=fun a=>match told a with|some (some k)=>G3.HA k|some none=>[]|none=>match lE a with|some k=>G3.HA k|none=>G.HA a
 vn:=fun a=>match lE a with|some _=>G.vn a+1|none=>G.vn a
 HV:=fun a v=>match told a with|some (some k)=>kF (G3.HA k)|some none=>[]|none=>match lE a with|some k=>if v≤G.vn a then G.HV a v else kF (G3.HA k)|none=>G.HV a v}
structure Iv(st t s st':St)(al:AL)(told:Nat→Option (Option Nat))(lE oS:Nat→Option Nat):Prop where
 n:st'.n=st.n
 vr:∀ a,st'.dC a=(match lE a with|some _=>st.dC a+1|none=>st.dC a)
 ir:∀ i,st'.ir i=st.ir i
 bl:st'.cF=st.cF
 acM:∀ q tl,t.dN q=some tl→q<10000∧(∃ ls,st.dN q=some ls)∧∃ sl,s.dN q=some sl
 dN:∀ q xK,st'.dN q=some xK→(t.dN q=none∧st.dN q=some xK)∨
  (∃ ls tl sl,st.dN q=some ls∧t.dN q=some tl∧s.dN q=some sl∧tl.length=ls.length∧sl.length=ls.length∧xK.length=ls.length∧∀(j:Nat) (l' l a:ag),xK[j]? = some l'→ls[j]? = some l→sl[j]? = some a→
   (st'.res q j l' = st.res q j l∧tl[j]? = some .vb∧∃ lf,dZ t.cF q j=some lf)∨∀(G G3:Gh) (u:Value),(∃ X w',az X s G3 w')→(∀ q tl,t.dN q=some tl→G3.φ q=G.φ q∧G3.pre q=G.pre q)→aS G3 (s.res q j a) u→aS (G.iP G3 told lE oS) (st'.res q j l') u)∨
  (∃ k sl,oS q=some k∧s.dN k=some sl∧xK.length=sl.length∧∀(j:Nat) (l' a:ag),xK[j]? = some l'→sl[j]? = some a→∀(G G3:Gh) (u:Value),(∃ X w',az X s G3 w')→(∀ q tl,t.dN q=some tl→G3.φ q=G.φ q∧G3.pre q=G.pre q)→aS G3 (s.res k j a) u→aS (G.iP G3 told lE oS) (st'.res q j l') u)
 EK:∀ q k,oS q=some k→st.dN q=none∧st.dc false q=false∧t.dN k=none
 ago:∀ q q' k,oS q=some k→oS q' = some k→q=q'
 WH:∀ q ls,st.dN q=some ls→∃ xK,st'.dN q=some xK
 vb:∀ q j ls lf,st.dN q=some ls→ls[j]? = some .vb→dZ st.cF q j=some lf→∃ xK,st'.dN q=some xK∧xK[j]? = some .vb∧(t.dN q=none∨∃ tl lf',t.dN q=some tl∧tl[j]? = some .vb∧dZ t.cF q j=some lf')
 arr:∀ a A,st'.arr a=some A→(∃ k,told a=some (some k)∧s.arr k=some A∧A.sh=false∧∀ i o,A.md≠.DK i o)∨
  (told a=some none∧A.l=[]∧A.sh=false∧A.gz=true)∨
  (∃ k,told a=none∧lE a=some k∧True∧s.arr k=some A∧A.sh=false∧∀ i o,A.md≠.DK i o)∨
  (told a=none∧lE a=none∧st.arr a=some A∧(A.sh=true∨∀ nm B,look al nm≠some (some a,B)))
 ti:∀ a a' k,told a=some (some k)→told a' = some (some k)→a=a'
 ki:∀ a a' k,lE a=some k→lE a' = some k→a=a'
 tk:∀ a a' k,told a=some (some k)→lE a'≠some k
 Gs:∀ a k,told a=some k→st.dc true a=false
 pn:st'.pin=st.pin
 ap:∀ a A,eV a st.pin=true→st.arr a=some A→told a=none∧∃ B,st'.arr a=some B
theorem sy(st:St)(o:Nat):∀(ls:List ag) (i j:Nat),(st.kc o i ls)[j]? = (ls[j]?).map (st.res o (i+j))
 |[],i,j=>by simp[St.kc]
 |l::r,i,0=>by simp[St.kc]
 |l::r,i,j+1=>by simp only[St.kc,bta];rw[sy st o r (i+1) j,show i+1+j=i+(j+1) by omega]
theorem All2.VC{α β:Type}{R:α→β→Prop}:∀{xs:List α} {ys:List β},xs.length=ys.length→(∀(j:Nat) (x:α) (y:β),xs[j]? = some x→ys[j]? = some y→R x y)→All2 R xs ys
 |[],[],_,_=>trivial
 |x::xs,y::ys,h,f=>⟨f 0 x y rfl rfl,All2.VC (by simpa using h) (fun j x y hx hy=>f (j+1) x y (by simpa using hx) (by simpa using hy))⟩
 |[],_::_,h,_=>by simp at h
 |_::_,[],h,_=>by simp at h
theorem Sc{arr:Array Value}{pre mid post:List Value}(h:arr.toList=pre++(mid++post)){j:Nat}(hj:j<mid.length):arr.toList[pre.length+j]? = mid[j]?:=by rw[h,aTa (by omega),bca,aVa hj]
section
variable {st t s st':St} {al:AL} {told:Nat→Option (Option Nat)} {lE oS:Nat→Option Nat} {X:mS} {G G3:Gh} {w w':World}
theorem Iv.le(hM:Iv st t s st' al told lE oS)(hS:∀ b o,G.S b=some o→G3.S b=some o){l:ag}{v:Value}(hm:∀ a k,told a=some k→l.dc true a=false)(hn:∀ q k,oS q=some k→l.dc false q=false)(r:aS G l v):aS (G.iP G3 told lE oS) l v:=by
 cases l with
 |any=>trivial
 |vb=>trivial
 |vV=>exact r
 |eZ t d=>obtain⟨cs,e,hr⟩:=r;exact⟨cs,e,hr.mono hS⟩
 |nil=>exact r
 |KD=>exact r
 |mT a=>
  show v=(G.iP G3 told lE oS).ψ a;have:told a=none:=by
   cases h:told a with
   |none=>rfl
   |some k=>have:=hm a k h;simp[ag.dc] at this
  simp only[Gh.iP,this];exact r
 |lw o off=>
  have:oS o=none:=by
   cases h:oS o with
   |none=>rfl
   |some k=>have:=hn o k h;simp[ag.dc] at this
  simp only[aS,Gh.iP,this];exact r
 |Ei a sz i off=>
  have:told a=none:=by
   cases h:told a with
   |none=>rfl
   |some k=>have:=hm a k h;simp[ag.dc] at this
  simp only[aS,Gh.iP,this];exact r
 |PO t d off=>obtain⟨b,arr,elem,fz,pre,cs,post,h1,h2,h3,h4⟩:=r;exact⟨b,arr,elem,fz,pre,cs,post,hS _ _ h1,h2,h3.mono hS,h4⟩
 |fn f=>exact r
 |Ft a vr sz i off=>
  have hn:told a=none:=by
   cases h:told a with
   |none=>rfl
   |some k=>have:=hm a k h;simp[ag.dc] at this
  exact vY.AP r (by simp only[Gh.iP,hn]) (by simp only[Gh.iP];split<;>omega) (fun v hv=>by simp only[Gh.iP,hn];split<;>simp[hv])
 |nse a vr sz i off sz2 j T4=>
  have hn:told a=none:=by
   cases h:told a with
   |none=>rfl
   |some k=>have:=hm a k h;simp[ag.dc] at this
  obtain⟨b2,Kx,LM,h1,h2⟩:=r;exact⟨b2,Kx,LM,vY.AP h1 (by simp only[Gh.iP,hn]) (by simp only[Gh.iP];split<;>omega) (fun v hv=>by simp only[Gh.iP,hn];split<;>simp[hv]),h2⟩
 |Mo a kk n=>
  have hn:told a=none:=by
   cases h:told a with
   |none=>rfl
   |some k=>have:=hm a k h;simp[ag.dc] at this
  simp only[aS,Gh.iP,hn];exact r
 |ga t l=>obtain⟨b,arr,elem,fz,cs,rest,h1,h2,h3,h4⟩:=r;exact⟨b,arr,elem,fz,cs,rest,hS _ _ h1,h2,h3.EH hS,h4⟩
theorem Iv.leV(hM:Iv st t s st' al told lE oS)(hS:∀ b o,G.S b=some o→G3.S b=some o){x:ae}{v:Value}(hm:∀ a k,told a=some k→x.dc true a=false)(hn:∀ q k,oS q=some k→x.dc false q=false)(r:aO G x v):aO (G.iP G3 told lE oS) x v:=by
 have fk:∀{ls:List ag} {vs:List Value},(∀ a k,told a=some k→ls.any (ag.dc true a)=false)→(∀ a k,oS a=some k→ls.any (ag.dc false a)=false)→All2 (aS G) ls vs→All2 (aS (G.iP G3 told lE oS)) ls vs:=fun {ls vs} h h' hr=>
  hr.vp fun l v hl Cn=>hM.le hS (fun a k hk=>by have:=aSa.1 (h a k hk) l hl;simpa using this) (fun a k hk=>by have:=aSa.1 (h' a k hk) l hl;simpa using this) Cn
 cases x with
 |one l=>exact hM.le hS hm hn r
 |agg ls=>obtain⟨cs,e,hr⟩:=r;exact⟨cs,e,fk hm hn hr⟩
 |Lm vs=>
  obtain⟨us,e,hr⟩:=r;refine⟨us,e,hr.vp fun p u hp NO=>?_⟩;have hm':∀ a k,told a=some k→p.2.any (ag.dc true a)=false:=fun a k hk=>by have:=aSa.1 (hm a k hk) p hp;simpa using this
  have hn':∀ a k,oS a=some k→p.2.any (ag.dc false a)=false:=fun a k hk=>by have:=aSa.1 (hn a k hk) p hp;simpa using this
  split at NO
  ·rename_i hc;simp only[hc,ava];obtain⟨cs,e,hr⟩:=NO;exact⟨cs,e,fk hm' hn' hr⟩
  ·rename_i hc
   obtain⟨l,e,hr⟩:=NO;simp only[bya] at hc;simp only[hc,asa,Q9];exact⟨l,e,hM.le hS (fun a k hk=>by have:=hm' a k hk;rw[e] at this;simpa using this) (fun a k hk=>by have:=hn' a k hk;rw[e] at this;simpa using this) hr⟩
 |AH t ls=>obtain⟨u,cs,e1,e2,hr⟩:=r;exact⟨u,cs,e1,e2,fk hm hn hr⟩
theorem Iv.eB(hM:Iv st t s st' al told lE oS)(hS:∀ b o,G.S b=some o→G3.S b=some o){act:Act}(hr:bO G st act):bO (G.iP G3 told lE oS) st' act:=
 ⟨hr.1,hr.2.1.trans hM.n.symm,fun i v hv=>by
  rw[hM.ir] at hv;exact hM.leV hS (fun a k hk=>BN (hM.Gs a k hk) hv) (fun q k hk=>BN (hM.EK q k hk).2.1 hv) (hr.2.2 i v hv)⟩
theorem Iv.ok(hM:Iv st t s st' al told lE oS)(hm:az X st G w)(jG:∀ x b,eW (G.uL al) t x b→∃ x',eW G st x' b∧((∃ o,x=(false,o)∧x' = (false,o))∨∃ nm a A,x=(true,nm)∧x' = (true,a)∧look al nm=some (some a,A)))
  {X':mS} (AE:az X' t (G.uL al) w) (h3:az (xe t (G.uL al) w) s G3 w') (I1:∀ a k,lE a=some k→told a=none→G3.ψ k=G.ψ a):az X st' (G.iP G3 told lE oS) w':=by
 have hS:∀ b o,G.S b=some o→G3.S b=some o:=h3.s0;have hφ:∀ q tl,t.dN q=some tl→G3.φ q=G.φ q∧G3.pre q=G.pre q∧G3.post q=G.post q:=fun q tl hq=>by obtain⟨bg,_,_⟩:=hM.acM q tl hq;have:=(h3.pin q _ (Qu bg hq)).2;simp only[ala] at this;exact⟨this.1.symm,this.2.1.symm,this.2.2.symm⟩
 have hφ2:∀ q tl,t.dN q=some tl→G3.φ q=G.φ q∧G3.pre q=G.pre q:=fun q tl hq=>⟨(hφ q tl hq).1,(hφ q tl hq).2.1⟩;have afW:∀ q ls,st.dN q=some ls→oS q=none:=fun q ls h=>by
  cases hn:oS q with
  |none=>rfl
  |some k=>rw[(hM.EK q k hn).1] at h;cases h
 have bφ:∀ q ls,st.dN q=some ls→(G.iP G3 told lE oS).φ q=G.φ q∧(G.iP G3 told lE oS).pre q=G.pre q∧(G.iP G3 told lE oS).post q=G.post q:=fun q ls h=>by simp[Gh.iP,afW q ls h]
 have cls:∀ x b,eW (G.iP G3 told lE oS) st' x b→(eW G st x b∧∀ y,¬ eW (G.uL al) t y b)∨
   ∃ x3,eW G3 s x3 b∧((∃ q q3,x=(false,q)∧x3=(false,q3)∧((q3=q∧∃ tl,t.dN q=some tl)∨oS q=some q3))∨(∃ a k,x=(true,a)∧x3=(true,k)∧told a=some (some k))∨∃ a k,x=(true,a)∧x3=(true,k)∧lE a=some k):=fun x b hx=>by
  obtain⟨kk,n⟩:=x;cases kk with
  |false=>
   obtain⟨⟨xK,hl⟩,rfl⟩:=hx;rcases hM.dN n xK hl with ⟨h1,h2⟩|⟨ls,tl,sl,h1,h2,h4,_⟩|⟨k,sl,h1,h2,_⟩
   ·rw[(bφ n xK h2).1]
    refine .inl ⟨⟨⟨xK,h2⟩,rfl⟩,fun y hy=>?_⟩;obtain⟨y',Gy,c⟩:=jG y _ hy;have e:=hm.qs (false,n) y' _ ⟨⟨xK,h2⟩,rfl⟩ Gy;rcases c with ⟨o,rfl,rfl⟩|⟨nm,a,A,rfl,rfl,_⟩
    ·simp only[ala,cba] at e
     subst e;obtain⟨⟨tl,ht⟩,_⟩:=hy;rw[h1] at ht;cases ht
    ·simp at e
   ·rw[(bφ n ls h1).1]
    exact .inr ⟨(false,n),⟨⟨sl,h4⟩,(hφ n tl h2).1.symm⟩,.inl ⟨n,n,rfl,rfl,.inl ⟨rfl,tl,h2⟩⟩⟩
   ·exact .inr ⟨(false,k),⟨⟨sl,h2⟩,by simp[Gh.iP,h1]⟩,.inl ⟨n,k,rfl,rfl,.inr h1⟩⟩
  |true=>
   obtain⟨⟨A,hA,hs⟩,p,hp,rfl⟩:=hx;rcases hM.arr n A hA with ⟨k,h1,h2,h4,_⟩|⟨h1,_⟩|⟨k,h0,h1,h2,h4,h5,_⟩|⟨h0,h1,h2,h4⟩
   ·simp only[Gh.iP,h1] at hp
    exact .inr ⟨(true,k),⟨⟨A,h2,hs⟩,p,hp,rfl⟩,.inr (.inl ⟨n,k,rfl,rfl,h1⟩)⟩
   ·simp only[Gh.iP,h1] at hp;cases hp
   ·simp only[Gh.iP,h0,h1] at hp
    exact .inr ⟨(true,k),⟨⟨A,h4,hs⟩,p,hp,rfl⟩,.inr (.inr ⟨n,k,rfl,rfl,h1⟩)⟩
   ·simp only[Gh.iP,h0,h1] at hp
    have ho:eW G st (true,n) p.1:=⟨⟨A,h2,hs⟩,p,hp,rfl⟩;refine .inl ⟨ho,fun y hy=>?_⟩;obtain⟨y',Gy,c⟩:=jG y _ hy;have e:=hm.qs (true,n) y' _ ho Gy;rcases c with ⟨o,rfl,rfl⟩|⟨nm,a,B,rfl,rfl,hl⟩
    ·simp at e
    ·simp only[ala,cba] at e
     subst e;rcases h4 with h4|h4
     ·rw[hs] at h4;cases h4
     ·exact h4 nm B hl
 have tV:∀ b,b<w.heap.size→(∀ y,¬ eW (G.uL al) t y b)→w'.heap[b]? = w.heap[b]?:=fun b hb hn=>h3.fr b hb (fun⟨y,hy⟩=>hn y hy);have hin:∀ x3 b,eW G3 s x3 b→(∃ x',eW G st x' b)∨w.heap.size≤b:=fun x3 b hx=>by
  rcases h3.tY x3 b hx with ⟨y,hy⟩|h
  ·obtain⟨y',Gy,_⟩:=jG y b hy;exact .inl ⟨y',Gy⟩
  ·exact .inr h
 refine {sl:=fun a=>?_,sh:=h3.sh,ob:=fun q xK hq=>?_,ar:=fun a A hA=>?_,ah:=fun a A hA hs p hp=>?_,nd:=fun a A hA hs=>?_,qs:=fun x y b hx hy=>?_,dS:=fun x b hx=>?_,tY:=fun x b hx=>?_,s0:=fun b o h=>hS b o (hm.s0 b o h),sn:=fun b o h=>?_,fr:=fun b hb hn=>?_,sz:=bEa hm.sz h3.sz,os:=h3.os.trans hm.os,tp:=h3.tp.trans hm.tp,out:=h3.out.trans hm.out,pin:=fun q p hp=>?_,bv:=fun q j u hu=>?_,ap:=fun a u hu=>(by obtain⟨h1,⟨A,h2⟩,h3⟩:=hm.ap a u hu;obtain⟨h4,h5⟩:=hM.ap a A h1 h2;exact⟨by rw[hM.pn];exact h1,h5,by simp[Gh.iP,h4,h3]⟩),hv:=fun a=>(by rw[hM.vr a];simp only[Gh.iP,hm.hv a]),ds:=hm.ds,hh:=fun a A hA hs hn=>?_}
 ·show SlV (match told a with|some (some k)=>G3.ψ k|some none=>.slice none 0 0|none=>G.ψ a)
  split
  ·exact h3.sl _
  ·exact .inl ⟨_,_,_,rfl⟩
  ·exact hm.sl _
 ·rcases hM.dN q xK hq with ⟨h1,h2⟩|⟨ls,tl,sl,h1,h2,h4,e1,e2,e3,hj⟩|⟨k,sl,h1,h2,e1,hj⟩
  ·obtain⟨arr,elem,mid,g1,g2,g3⟩:=hm.ob q xK h2
   have bg:=eW.lt hm (x:=(false,q)) ⟨⟨xK,h2⟩,rfl⟩;have wN:∀ y,¬ eW (G.uL al) t y (G.φ q):=fun y hy=>by
    rcases cls (false,q) (G.φ q) ⟨⟨xK,hq⟩,(bφ q xK h2).1.symm⟩ with ⟨_,h⟩|⟨x3,hx3,c⟩
    ·exact h y hy
    ·obtain⟨y',Gy,c'⟩:=jG y _ hy
     have e:=hm.qs (false,q) y' _ ⟨⟨xK,h2⟩,rfl⟩ Gy;rcases c' with ⟨o,rfl,rfl⟩|⟨nm,a,A,rfl,rfl,_⟩
     ·simp only[ala,cba] at e
      subst e;obtain⟨⟨tl,ht⟩,_⟩:=hy;rw[h1] at ht;cases ht
     ·simp at e
   obtain⟨b1,b2,b3⟩:=bφ q xK h2;refine⟨arr,elem,mid,by rw[b1,tV _ bg wN];exact g1,by rw[b2,b3];exact g2,?_⟩
   unfold ip at g3 ⊢;rw[ke (st:=st) (fun j l=>by cases l<;>simp[St.res,hM.bl])]
   refine g3.vp fun l v hl Cn=>hM.le hS (fun a k hk=>?_) (fun a k hk=>?_) Cn
   ·have:=aSa.1 (ss (hM.Gs a k hk) h2 0) l hl
    simpa using this
   ·have:=aSa.1 (ss (hM.EK a k hk).2.1 h2 0) l hl
    simpa using this
  ·obtain⟨arr,elem,mid,g1,g2,g3⟩:=h3.ob q sl h4
   obtain⟨f1,f2,f3⟩:=hφ q tl h2;obtain⟨bg,_,_⟩:=hM.acM q tl h2;have hml:mid.length=sl.length:=by have:=All2.length g3;rw[iW] at this;exact this.symm
   obtain⟨b1,b2,b3⟩:=bφ q ls h1;refine⟨arr,elem,mid,by rw[b1,←f1];exact g1,by rw[b2,b3];rw[f2,f3] at g2;exact g2,?_⟩
   refine All2.VC (by rw[iW];omega) fun j x y hx hy=>?_
   rw[sy,aKa] at hx;obtain⟨l',Mx,rfl⟩:=hx;rw[aWa];have hjl:j<xK.length:=(aka.1 Mx).1;have OZ:ls[j]? = some ls[j]:=bja (by omega)
   have Mz:sl[j]? = some sl[j]:=bja (by omega)
   rcases hj j l' ls[j] sl[j] Mx OZ Mz with ⟨e,hb,lf,hlf⟩|hB
   ·obtain⟨yw,rE,u,q1,q2,q3⟩:=NX AE bg h2 hlf hb
    obtain⟨_,_,adO,ac3,q4,q5⟩:=h3.bv q j u q3;rw[g1] at q4;cases q4;have hyu:y=u:=by rw[Sc g2 (by omega),hy] at q5;exact bxa q5
    obtain⟨Y3,Zn,ahI,p1,p2,p3⟩:=hm.ob q ls h1;have q1:w.heap[G.φ q]? = some (.cells yw rE (0,0)):=q1;have q2:yw.toList[(G.pre q).length+j]? = some u:=q2;rw[p1] at q1;cases q1;have aic:ahI.length=ls.length:=by have:=All2.length p3;rw[iW] at this;exact this.symm
    rw[Sc p2 (by omega)] at q2
    obtain⟨u',hu',hr'⟩:=All2.vK (i:=j) p3 (by rw[sy,OZ];rfl)
    rw[q2] at hu';cases hu';rw[aWa] at hr';rw[e,hyu];refine hM.le hS (fun a k hk=>?_) (fun a k hk=>?_) hr'
    ·have:=aSa.1 (ss (hM.Gs a k hk) h1 0) (st.res q j ls[j]) (a1a (i:=j) (by rw[sy,OZ];simp))
     simpa using this
    ·have:=aSa.1 (ss (hM.EK a k hk).2.1 h1 0) (st.res q j ls[j]) (a1a (i:=j) (by rw[sy,OZ];simp))
     simpa using this
   ·obtain⟨u',hu',hr'⟩:=All2.vK (i:=j) g3 (by rw[sy,Mz];rfl)
    rw[hy] at hu';cases hu';rw[aWa] at hr';exact hB G G3 _ ⟨_,_,h3⟩ hφ2 hr'
  ·obtain⟨arr,elem,mid,g1,g2,g3⟩:=h3.ob k sl h2
   refine⟨arr,elem,mid,by simp only[Gh.iP,h1];exact g1,by simp only[Gh.iP,h1];exact g2,?_⟩
   have hml:mid.length=sl.length:=by have:=All2.length g3;rw[iW] at this;exact this.symm
   refine All2.VC (by rw[iW];omega) fun j x y hx hy=>?_
   rw[sy,aKa] at hx;obtain⟨l',Mx,rfl⟩:=hx;rw[aWa];have hjl:j<xK.length:=(aka.1 Mx).1;have Mz:sl[j]? = some sl[j]:=bja (by omega)
   obtain⟨u',hu',hr'⟩:=All2.vK (i:=j) g3 (by rw[sy,Mz];rfl)
   rw[hy] at hu';cases hu';rw[aWa] at hr';exact hj j l' sl[j] Mx Mz G G3 _ ⟨_,_,h3⟩ hφ2 hr'
 ·rcases hM.arr a A hA with ⟨k,h1,h2,h4,h6⟩|⟨h1,h2,h4,h6⟩|⟨k,h0,h1,h2,h4,h5,h6⟩|⟨h0,h1,h2,h4⟩
  ·exact(h3.ar k A h2).mono (G:=G3) (a:=k) (G':=G.iP G3 told lE oS) (a':=a) (fun _ _ h=>h) (by simp[Gh.iP,h1]) (by simp[Gh.iP,h1]) (fun i o e=>absurd e (h6 i o))
  ·exact(ia h4 h6).2 (.inl ⟨h2,by simp[Gh.iP,h1],by simp[Gh.iP,h1]⟩)
  ·exact(h3.ar k A h4).mono (G:=G3) (a:=k) (G':=G.iP G3 told lE oS) (a':=a) (fun _ _ h=>h) (by simp[Gh.iP,h0];exact(I1 a k h1 h0).symm) (by simp[Gh.iP,h0,h1]) (fun i o e=>absurd e (h6 i o))
  ·refine(hm.ar a A h2).mono (G:=G) (a:=a) (G':=G.iP G3 told lE oS) (a':=a) hS (by simp[Gh.iP,h0]) (by simp[Gh.iP,h0,h1]) (fun i o e=>?_)
   have wN:oS o=none:=by
    cases hn:oS o with
    |none=>rfl
    |some k=>exact absurd rfl (Fp (hM.EK o k hn).2.1 h2 e)
   simp[Gh.iP,wN]
 ·have hx:eW (G.iP G3 told lE oS) st' (true,a) p.1:=⟨⟨A,hA,hs⟩,p,hp,rfl⟩
  rcases hM.arr a A hA with ⟨k,h1,h2,h4,h6⟩|⟨h1,h2,h4,h6⟩|⟨k,h0,h1,h2,h4,h5,h6⟩|⟨h0,h1,h2,h4⟩
  ·simp only[Gh.iP,h1] at hp;exact h3.ah k A h2 hs p hp
  ·simp only[Gh.iP,h1] at hp;cases hp
  ·simp only[Gh.iP,h0,h1] at hp;exact h3.ah k A h4 hs p hp
  ·have AF:p∈G.HA a:=by simpa only[Gh.iP,h0,h1] using hp
   rcases cls _ _ hx with ⟨g1,g2⟩|⟨x3,_,c⟩
   ·rw[tV _ (eW.lt hm g1) g2];exact hm.ah a A h2 hs p AF
   ·rcases c with ⟨q,q3,e,_⟩|⟨a',k,e,_,ha⟩|⟨a',k,e,_,ha⟩<;>simp only[ala,cba,reduceCtorEq,false_and] at e
    ·subst e;rw[h0] at ha;cases ha
    ·subst e;rw[h1] at ha;cases ha
 ·rcases hM.arr a A hA with ⟨k,h1,h2,h4,h6⟩|⟨h1,h2,h4,h6⟩|⟨k,h0,h1,h2,h4,h5,h6⟩|⟨h0,h1,h2,h4⟩
  ·simp only[Gh.iP,h1];exact h3.nd k A h2 hs
  ·simp only[Gh.iP,h1];exact b_a
  ·simp only[Gh.iP,h0,h1];exact h3.nd k A h4 hs
  ·simp only[Gh.iP,h0,h1];exact hm.nd a A h2 hs
 ·rcases cls x b hx with ⟨h1,h2⟩|⟨x3,h1,c1⟩<;>rcases cls y b hy with ⟨k1,k2⟩|⟨y3,k1,c2⟩
  ·exact hm.qs x y b h1 k1
  ·rcases h3.tY y3 b k1 with ⟨z,hz⟩|h
   ·exact absurd hz (h2 z)
   ·have:=eW.lt hm h1;have h:w.heap.size≤b:=h;omega
  ·rcases h3.tY x3 b h1 with ⟨z,hz⟩|h
   ·exact absurd hz (k2 z)
   ·have:=eW.lt hm k1;have h:w.heap.size≤b:=h;omega
  ·have e:=h3.qs x3 y3 b h1 k1
   rcases c1 with ⟨q,q3,rfl,rfl,hq⟩|⟨a,k,rfl,rfl,ha⟩|⟨a,k,rfl,rfl,ha⟩<;>rcases c2 with ⟨q',q3',rfl,rfl,I3⟩|⟨a',k',rfl,rfl,ha'⟩|⟨a',k',rfl,rfl,ha'⟩<;>simp only[ala,cba,reduceCtorEq,false_and] at e
   ·subst e
    rcases hq with ⟨e1,tl,h5⟩|hq<;>rcases I3 with ⟨e2,tl',h6⟩|I3
    ·rw[←e1,←e2]
    ·rw[←e1,(hM.EK q' q3 I3).2.2] at h5;cases h5
    ·rw[←e2,(hM.EK q q3 hq).2.2] at h6;cases h6
    ·rw[hM.ago q q' q3 hq I3]
   ·subst e;rw[hM.ti a a' k ha ha']
   ·subst e;exact absurd ha' (hM.tk a a' k ha)
   ·subst e;exact absurd ha (hM.tk a' a k ha')
   ·subst e;rw[hM.ki a a' k ha ha']
 ·rcases cls x b hx with ⟨h1,h2⟩|⟨x3,h1,c1⟩
  ·cases hc:G3.S b with
   |none=>exact hc
   |some o=>
    rcases h3.sn b o hc with h|⟨y,hy⟩|h
    ·have:=hm.dS x b h1;rw[show G.S b=some o from h] at this;cases this
    ·exact absurd hy (h2 y)
    ·have:=eW.lt hm h1;have h:w.heap.size≤b:=h;omega
  ·exact h3.dS x3 b h1
 ·rcases cls x b hx with ⟨h1,h2⟩|⟨x3,h1,c1⟩
  ·exact hm.tY x b h1
  ·rcases hin x3 b h1 with ⟨x',Fk⟩|h
   ·exact hm.tY x' b Fk
   ·have:=hm.sz;exact .inr (by omega)
 ·rcases h3.sn b o h with h|⟨y,hy⟩|h
  ·exact hm.sn b o h
  ·obtain⟨y',Gy,_⟩:=jG y b hy
   rcases hm.tY y' b Gy with h|h
   ·exact .inr (.inl h)
   ·exact .inr (.inr h)
  ·have:=hm.sz;have h:w.heap.size≤b:=h;exact .inr (.inr (by omega))
 ·rw[tV b (by have:=hm.sz;omega) (fun y hy=>by
   obtain⟨y',Gy,_⟩:=jG y b hy;rcases hm.tY y' b Gy with h|h
   ·exact hn h
   ·omega)]
  exact hm.fr b hb hn
 ·obtain⟨⟨ls,h1⟩,h2⟩:=hm.pin q p hp
  obtain⟨b1,b2,b3⟩:=bφ q ls h1;exact⟨hM.WH q ls h1,by rw[b1,b2,b3];exact h2⟩
 ·obtain⟨⟨lf,h1⟩,⟨ls,h2,h4⟩,yw,rE,h5,h6⟩:=hm.bv q j u hu
  obtain⟨xK,k1,k2,k3⟩:=hM.vb q j ls lf h2 h4 h1;refine⟨⟨lf,by rw[hM.bl];exact h1⟩,⟨xK,k1,k2⟩,?_⟩
  obtain⟨b1,b2,b3⟩:=bφ q ls h2;rw[b1,b2];rcases k3 with k3|⟨tl,lf',k3,k4,k5⟩
  ·have hx:eW (G.iP G3 told lE oS) st' (false,q) (G.φ q):=⟨⟨xK,k1⟩,b1.symm⟩
   refine⟨yw,rE,?_,h6⟩;rcases cls _ _ hx with ⟨g1,g2⟩|⟨x3,g1,c⟩
   ·rw[tV _ (eW.lt hm g1) g2];exact h5
   ·have wN:∀ y,¬ eW (G.uL al) t y (G.φ q):=fun y hy=>by
     obtain⟨y',Gy,c'⟩:=jG y _ hy;have e:=hm.qs (false,q) y' _ ⟨⟨ls,h2⟩,rfl⟩ Gy;rcases c' with ⟨o,rfl,rfl⟩|⟨nm,a,A,rfl,rfl,_⟩
     ·simp only[ala,cba] at e
      subst e;obtain⟨⟨tl,ht⟩,_⟩:=hy;rw[k3] at ht;cases ht
     ·simp at e
    rw[tV _ (eW.lt hm (x:=(false,q)) ⟨⟨ls,h2⟩,rfl⟩) wN];exact h5
  ·obtain⟨f1,f2,f3⟩:=hφ q tl k3
   obtain⟨bg,_,_⟩:=hM.acM q tl k3;obtain⟨adO,ac3,u',q1,q2,q3⟩:=NX AE bg k3 k5 k4;have q1:w.heap[G.φ q]? = some (.cells adO ac3 (0,0)):=q1;have q2:adO.toList[(G.pre q).length+j]? = some u':=q2;rw[h5] at q1;cases q1;rw[h6] at q2;cases q2;obtain⟨_,_,Y3,Zn,q4,q5⟩:=h3.bv q j u q3;exact⟨Y3,Zn,by rw[←f1];exact q4,by rw[←f2];exact q5⟩
 ·rcases hM.arr a A hA with ⟨k,h1,_⟩|⟨h1,_⟩|⟨k,h0,h1,_⟩|⟨h0,h1,h2,h4⟩
  ·simp only[Gh.iP,h1]
  ·simp only[Gh.iP,h1,kF]
  ·simp only[Gh.iP,h0,h1];rw[aza (by omega)]
  ·simp only[Gh.iP,h0,h1];exact hm.hh a A h2 hs hn
end
end Go.Fx
namespace Go.Fx
noncomputable def yy(E:tn)(c:Code):List (Code×lK):=
 Code.rec (motive:=fun _=>List (Code×lK)) [] (fun id ops draw=>bif draw then(match E.oB (id+1000000) with|some L=>[(.region id ops true,L)]|none=>[]) else []) (fun _ _ x y=>x++y) (fun _ _ _ x y=>x++y)
  (fun id b x=>match E.oB id with|some L=>[(.block id b,L)]|none=>x) (fun _ _=>[]) (fun _ _ _ _ _ _=>[])
  (fun _=>[]) (fun _ _=>[]) (fun _=>[]) (fun _=>[]) [] (fun _=>[]) c
theorem Vv{P:Program}{E:tn}{c:Code}:(∀ x∈yy E c,u9 P E.gt x.1 x.2)→sY P E c:=by
 induction c with
 |seq a b NV ihb=>intro h;exact⟨NV fun x hx=>h x (aya _ hx),ihb fun x hx=>h x (ara _ hx)⟩
 |cond c a b NV ihb=>intro h;exact⟨NV fun x hx=>h x (aya _ hx),ihb fun x hx=>h x (ara _ hx)⟩
 |region id ops draw=>
  intro h;cases draw with
  |false=>trivial
  |true=>
   have h:∀ x∈(match E.oB (id+1000000) with|some L=>[((.region id ops true:Code),L)]|none=>[]),u9 P E.gt x.1 x.2:=h
   show(match true,E.oB (id+1000000) with|true,some L=>u9 P E.gt (.region id ops true) L|_,_=>True)
   cases hl:E.oB (id+1000000) with
   |some L=>rw[hl] at h;exact h (_,L) (by simp)
   |none=>trivial
 |block id b ih=>
  intro h;have h:∀ x∈(match E.oB id with|some L=>[((.block id b:Code),L)]|none=>yy E b),u9 P E.gt x.1 x.2:=h
  show(match E.oB id with|some L=>Rm P E.gt id b L|none=>sY P E b)
  cases hl:E.oB id with
  |some L=>rw[hl] at h;exact h (_,L) (by simp)
  |none=>rw[hl] at h;exact ih h
 |_=>intro _;trivial
theorem R9{P:Program}{E:tn}{c:Code}{l:List (Code×lK)}(e:yy E c=l)(h:∀ x∈l,u9 P E.gt x.1 x.2):sY P E c:=Vv (by rw[e];exact h)
end Go.Fx
namespace Go.Fx
open Go.RowKit (Below)
def Ty.AM:Ty→Bool
 |.int _=>true | .bool=>true | .str=>true|_=>false
def acD:(t:Ty)→t.nH→Value
 |.int k,n=>.int k n
 |.bool,b=>.bool b
 |.str,s=>kw s
 |_,_=>undef
def JK:(ts:List Ty)→DL ts→List Value
 |[],_=>[]
 |t::r,d=>acD t d.1::JK r d.2
theorem BW{G:Gh}{t:Ty}(ht:t.AM=true){d:t.nH}{v:Value}:aS G (.eZ t d) v↔v=acD t d:=by
 have fwd:∀{t:Ty} {d:t.nH},t.agg=false→(∀ cs,gh G.S false t cs d []→cs=[acD t d])→aS G (.eZ t d) v→v=acD t d:=fun {t d} ha hr h=>by obtain⟨cs,e1,e2⟩:=h;simp only[ha,asa,Q9] at e1;have:=hr cs e2;rw[e1] at this;simpa using this
 cases t with
 |int k=>exact⟨fwd rfl fun cs h=>h.1,fun h=>by subst h;exact kU k d⟩
 |bool=>exact⟨fwd rfl fun cs h=>h.1,fun h=>by subst h;exact oJ d⟩
 |str=>exact⟨fwd rfl fun cs h=>h.1,fun h=>by subst h;exact KM d⟩
 |_=>simp[Ty.AM] at ht
theorem Rf{G:Gh}:∀{ts:List Ty} {d:DL ts} {vs:List Value},(ts.all Ty.AM)=true→Ao G ts d vs→vs=JK ts d
 |[],d,[],_,_=>rfl
 |t::r,d,v::vs,h,hd=>by simp only[bpa,Q3] at h;rw[JK,(BW h.1).1 hd.1,Rf h.2 hd.2]
 |[],d,_::_,_,h=>h.elim
 |_::_,d,[],_,h=>h.elim
theorem Re{G:Gh}:∀{ts:List Ty} {d:DL ts},(ts.all Ty.AM)=true→Ao G ts d (JK ts d)
 |[],d,_=>trivial
 |t::r,d,h=>by simp only[bpa,Q3] at h;exact⟨(BW h.1).2 rfl,Re h.2⟩
theorem az.afj{X:mS}{st:St}{G:Gh}{w w':World}(hm:az X st G w)(hb:Below w.heap.size w w'):az X st G w':=by
 have tV:∀{b:Nat} {o:Obj},w.heap[b]? = some o→w'.heap[b]? = some o:=fun {b o} h=>by rw[hb.block b (fZ h)];exact h
 exact {sl:=hm.sl,sh:=fun b o h=>tV (hm.sh b o h),ob:=fun o ls h=>(by obtain⟨arr,elem,mid,g1,g2,g3⟩:=hm.ob o ls h;exact⟨arr,elem,mid,tV g1,g2,g3⟩),ar:=hm.ar,ah:=fun a A h hs p hp=>tV (hm.ah a A h hs p hp),nd:=hm.nd,qs:=hm.qs,dS:=hm.dS,tY:=hm.tY,s0:=hm.s0,sn:=hm.sn,fr:=fun b h1 h2=>(by rw[hb.block b (by have:=hm.sz;omega)];exact hm.fr b h1 h2),sz:=bEa hm.sz hb.size,os:=hb.os.trans hm.os,tp:=hb.tape.trans hm.tp,out:=hb.output.trans hm.out,pin:=hm.pin,bv:=fun o j u h=>(by obtain⟨h1,h2,yw,rE,h4,h5⟩:=hm.bv o j u h;exact⟨h1,h2,yw,rE,tV h4,h5⟩),ap:=hm.ap,hv:=hm.hv,ds:=hm.ds,hh:=hm.hh}
theorem QW:∀{ts:List Ty},ts.all Ty.AM=true→ts.all Ty.za=true
 |[],_=>rfl
 |t::r,h=>by simp only[bpa,Q3] at h ⊢;exact⟨by cases t<;>simp_all[Ty.AM,Ty.za],QW h.2⟩
theorem E6{P:Program}{gt:Nat→Option GA}{f:FuncId}{ts rs:List Ty}{W:Type}{F:DL ts→Option W}{dec:W→DL rs}(hts:ts.all Ty.AM=true)(hrs:rs.all Ty.AM=true)(Bs:∀ args w,(callFunc f args).run P w=.ok (.enter f args) w)
  (h:∀ d y w,nG gt (fun b=>w.heap[b]?)→F d=some y→Calls P f (JK ts d).toArray w fun e w'=>e=.returned (H5 (JK rs (dec y)))∧Below w.heap.size w w'):Bc P gt f (AN ts rs F dec):=by
 intro R r X st G w dst args vs K KP hr zA hm _ ha;simp only[AN,QW hrs,aja] at hr;split at hr
 ·rename_i wU hs
  split at hr
  ·rename_i d hd
   obtain⟨y,hx,hr⟩:=axa.1 hr;obtain⟨G1,m1,a1,k1⟩:=zn hs hm;have hdr:=Ep m1 hd (ha.imp fun a v h=>h.sub a1);have hv:=Rf hts hdr;subst hv;refine⟨Bs _ _,(h d y w (zA.mono fun b o hb=>hm.sh b o (hm.s0 b o hb)) hx).mono fun e w' ⟨he,hb⟩=>?_⟩;subst he;exact⟨_,st,G,hm.afj hb,fun act ra=>ra,MF (Re hrs),hr⟩
  ·cases hr
 ·cases hr
end Go.Fx
namespace Go.Fx
open Go.RowKit (Below)
theorem az.toBelow{S:DN}{st:St}{G:Gh}{w w':World}(h:az (Tl S w) st G w'):Below w.heap.size w w':=
 ⟨h.os,h.tp,h.out,h.sz,fun k hk=>h.fr k hk (fun h=>h)⟩
theorem Nf{P:Program}{f:FuncId}{ts rs:List Ty}{W:Type}{F:DL ts→Option W}{dec:W→DL rs}{gt:Nat→Option GA}(hs:Bc P gt f (AN ts rs F dec))(hrs:rs.all Ty.AM=true){S:DN}{w:World}(hS:∀ b o,S b=some o→w.heap[b]? = some o)(hg:nG gt S)
  {avs:List ae} {vs:List Value} {d:DL ts} {y:W} (hF:F d=some y) (hv:All2 (aO (ghD S)) avs vs) (du:vR avs (stD 0 [] ())=some (stD 0 [] ())) (hgv:Qk (stD 0 [] ()) ts avs=some d):
  Calls P f vs.toArray w fun e w'=>e=.returned (H5 (JK rs (dec y)))∧Below w.heap.size w w':=by
 have iH:(AN ts rs F dec).run 0 avs (stD 0 [] ()) (fun av _=>some av) (fun _ _=>none)=some (Uj rs (dec y)):=by simp[AN,du,hgv,hF]
 obtain⟨_,h⟩:=hs iH hg (VW hS 0 [] ()) ⟨{tmps:=#[],defers:=[]},rfl,rfl,fun i v h=>by cases h⟩ hv
 refine h.mono fun e w' he=>?_;cases e with
 |returned v=>
  obtain⟨av,st',G',h1,h2,h3,h4⟩:=he;cases h4;refine⟨?_,h1.toBelow⟩;have key:∀{rs:List Ty} {x:DL rs},rs.all Ty.AM=true→aO G' (Uj rs x) v→v=H5 (JK rs x):=by
   intro rs x hrs hv
   match rs,x,hrs,hv with
   |[],x,_,hv=>obtain⟨us,e,h⟩:=hv;cases us with
    |nil=>exact e
    |cons _ _=>exact h.elim
   |[t],x,hrs,hv=>simp only[bpa,Q3] at hrs;exact(BW hrs.1).1 hv
   |t::t2::r,x,hrs,hv=>
    obtain⟨us,e,h⟩:=hv;have Lm:∀{rs:List Ty} {x:DL rs} {us:List Value},rs.all Ty.AM=true→All2 (fun(p:Bool×List ag) u=>if p.1=true then ∃ cs:List Value,u=.agg cs.toArray∧All2 (aS G') p.2 cs else ∃ l,p.2=[l]∧aS G' l u) (acN rs x) us→us=JK rs x:=by
     intro rs;induction rs with
     |nil=>intro x us _ h;cases us with
      |nil=>rfl
      |cons _ _=>exact h.elim
     |cons t r ih=>
      intro x us hrs h;simp only[bpa,Q3] at hrs;cases us with
      |nil=>exact h.elim
      |cons u us=>
       have h1:=h.1;have ha:t.agg=false:=by cases t<;>simp[Ty.AM] at hrs<;>rfl
       simp only[ha,asa,Q9] at h1;obtain⟨l,e1,e2⟩:=h1;have hl:l=.eZ t x.1:=by cases t<;>simp[Ty.AM] at hrs<;>(simp only[jZ,aJa,a_a] at e1;exact e1.symm)
       subst hl;rw[(BW hrs.1).1 e2,ih hrs.2 h.2];rfl
    rw[e,Lm hrs h];rfl
  rw[key hrs h3]
 |panicked IM=>obtain⟨v,_,_,_,_,_,_,h⟩:=he;cases h
 |outgrown=>exact he.elim
end Go.Fx
namespace Go.Fx
def pq:Nat→List ae→List (Nat×ae)
 |_,[]=>[]
 |i,v::r=>(i,v)::pq (i+1) r
def C8(n:Nat)(args:List ae)(st:St):St:=⟨n,pq 0 args,st.ci,st.cO,[],st.cF,st.fQ,st.pin,st.Fc⟩
def zb(ci:List (Nat×Nat))(st:St):Bool:=ci.all fun p=>match st.dN p.1 with|some ls=>Nat.beq ls.length p.2|none=>false
def HS(o:Nat)(ci:List (Nat×Nat)):Bool:=eV o (ci.map (·.1))
def y9(L:qr):Bool:=
 L.ci.all (fun p=>Nat.blt p.1 10000)&&oo (L.ci.map (·.1))&&oo ((L.cs++L.vs).map fun p=>p.1.key) &&
  (L.cs++L.vs).all (fun p=>match p.1 with | .l o _=>HS o L.ci|_=>true) &&
  L.cs.all (fun p=>match p.1 with | .l _ _=>true|_=>false)
def aaH(pin:List Nat)(b:AL):Bool:=pin.all fun k=>(look b k).isSome
structure abs(L:qr) where
 c:PV L.cs
 v:PV L.vs
 st:St
 a:AL
 b:AL
def Zo(L:qr)(args:List ae)(st:St):Option (abs L):=
 match iS L.cs (C8 L.n args st) with
 |none=>none
 |some s=>(match iS L.vs s with
  |none=>none
  |some s=>(match lz s L.cs with
   |none=>none
   |some (c,a)=>(match lz s L.vs with
    |none=>none
    |some (v,b)=>(bif Au (a++b)&&zb L.ci s&&y9 L&&Nat.ble args.length L.n&&qOk L.vs s&&aaH L.pin b then some ⟨c,v,{st with cO:=s.cO},a,b⟩ else none))))
def PN(L:qr)(al:AL)(told:li)(news:List (Nat×Nat×Nat))(s:St):Option (PV told):=
 match iS told s with
 |none=>none
 |some s=>(match lz s told with
  |none=>none
  |some (o,b)=>(bif vP s L.cs&&Au (al++b)&&zb L.ci s&&zb (news.map fun p=>(p.1,p.2.1)) s&&qOk told s&&GD L.pin b then some o else none))
def nmO(dst k:Nat):Nat:=(dst+1) * 1000000000+k
def Jk:List (Nat×Nat×Nat)→Nat→Option Nat
 |[],_=>none
 |p::r,o=>bif Nat.beq p.1 o then some p.2.2 else Jk r o
def aaU(news:List (Nat×Nat×Nat)):ag→ag
 |.lw o off=>(match Jk news o with|some k=>.lw k off|none=>.lw o off)
 |l=>l
def zp(dst:Nat)(pin:List Nat)(news:List (Nat×Nat×Nat))(p:Pl)(s:mP)(x:s.V):ag:=bif eV p.key pin then .any else aaU news (s.bP (nmO dst p.key) x)
def jr(dst:Nat)(pin:List Nat)(news:List (Nat×Nat×Nat)):(ps:li)→PV ps→List (Nat×Nat×ag)
 |[],_=>[]
 |(.l o j,s)::r,v=>(o,j,zp dst pin news (.l o j) s v.1)::jr dst pin news r v.2
 |(.r _,_)::r,v=>jr dst pin news r v.2
 |(.q _ _,_)::r,v=>jr dst pin news r v.2
def Lf(dst:Nat)(pin:List Nat)(news:List (Nat×Nat×Nat)):(ps:li)→PV ps→List (Nat×ae)
 |[],_=>[]
 |(.r i,s)::r,v=>(i,.one (zp dst pin news (.r i) s v.1))::Lf dst pin news r v.2
 |(.l _ _,_)::r,v=>Lf dst pin news r v.2
 |(.q _ _,_)::r,v=>Lf dst pin news r v.2
def VM(dst:Nat)(pin:List Nat)(news:List (Nat×Nat×Nat)):(ps:li)→PV ps→List (Nat×Nat×ag)
 |[],_=>[]
 |(.q i j,s)::r,v=>(i,j,zp dst pin news (.q i j) s v.1)::VM dst pin news r v.2
 |(.r _,_)::r,v=>VM dst pin news r v.2
 |(.l _ _,_)::r,v=>VM dst pin news r v.2
def S4(dst:Nat)(pin:List Nat)(news:List (Nat×Nat×Nat))(ps:li)(v:PV ps):List (Nat×ae):=Lf dst pin news ps v++(Yx ps ps).map fun p=>(p.1,.agg (qsh (VM dst pin news ps v) p.1 0 p.2))
def sd(dst:Nat)(pin:List Nat):(ps:li)→PV ps→List (Nat×jS)
 |[],_=>[]
 |(p,s)::r,v=>(match s.arr v.1 with|some A=>(bif eV p.key pin then sd dst pin r v.2 else(nmO dst p.key,A)::sd dst pin r v.2)|none=>sd dst pin r v.2)
def o8(pin:List Nat)(b:AL):(ps:li)→PV ps→List (Nat×jS)
 |[],_=>[]
 |(p,s)::r,v=>(match s.arr v.1 with|some A=>(bif eV p.key pin then(match look b p.key with|some (some a,_)=>(a,A)::o8 pin b r v.2|_=>o8 pin b r v.2) else o8 pin b r v.2)|none=>o8 pin b r v.2)
def wR(tl:List (Nat×Nat×ag))(cs:li)(o:Nat):Nat→List ag→List ag
 |_,[]=>[]
 |j,l::r=>(match dZ tl o j with|some x=>x|none=>bif zy o j cs then l else .any)::wR tl cs o (j+1) r
def Ma(tl:List (Nat×Nat×ag))(k:Nat):Nat→Nat→List ag
 |_,0=>[]
 |j,n+1=>(match dZ tl k j with|some x=>x|none=>.any)::Ma tl k (j+1) n
def KQ(b:AL):List Nat:=b.filterMap (·.2.1)
def wP(pin:List Nat)(b:AL):AL:=b.filter fun e=>!eV e.1 pin
def Ej(pin:List Nat)(b:AL):AL:=b.filter fun e=>eV e.1 pin
def Iz(dst:Nat)(L:qr)(told:li)(o:PV told)(news:List (Nat×Nat×Nat))(a b:AL)(st:St):St:=
 {st with
  Fc:=(KQ (a++Ej L.pin b)).map (fun k=>(k,st.dC k+1))++st.Fc
  ci:=(news.map fun p=>(p.2.2,Ma (jr dst L.pin news told o) p.1 0 p.2.1))++((L.ci.map fun p=>(p.1,wR (jr dst L.pin news told o) L.cs p.1 0 ((st.dN p.1).getD [])))++st.ci)
  cO:=sd dst L.pin told o++(o8 L.pin b told o++lm (KQ b) st.cO)}
def OS:ae→Bool×List ag
 |.one (.eZ t d)=>(t.agg,jZ t d)
 |.one l=>(false,[l])
 |.agg ls=>(true,ls)
 |_=>(false,[.any])
def QP(l:List (Nat×ae))(i:Nat):ae:=match look l i with|some v=>v|none=>.one .any
def agu(l:List (Nat×ae)):List Nat→ae
 |[i]=>QP l i
 |is=>.Lm (is.map fun i=>OS (QP l i))
def Wh(L:qr)(st:St):Bool:=
 L.ci.all fun p=>(List.range p.2).all fun j=>zy p.1 j L.cs ||(match (st.dN p.1).bind (·[j]?) with|some .vb=>false|_=>true)
def RJ(pin:List Nat)(b:AL)(st:St):Bool:=b.all fun e=>match e.2.1 with|some a=>(look st.fQ a).isNone&&(eV e.1 pin||!eV a st.pin)|none=>true
def El(dst:Nat)(L:qr)(told:li)(o:PV told)(news:List (Nat×Nat×Nat))(st:St):Bool:=
 oo (told.map fun p=>p.1.key)&&(sd dst L.pin told o).all (fun p=>(st.arr p.1).isNone&&!st.dc true p.1) &&
  news.all (fun p=>(st.dN p.2.2).isNone&&!st.dc false p.2.2&&!HS p.1 L.ci)&&oo (news.map (·.1))&&oo (news.map (·.2.2)) &&
  told.all (fun p=>match p.1 with | .r _=>true | .q _ _=>true | .l q _=>!ac9 p.1.key L.cs&&(HS q L.ci||eV q (news.map (·.1)))) &&
  told.all (fun p=>match p.2 with | .lit (.lw q _)=>HS q L.ci||eV q (news.map (·.1))|_=>true)
where
 ac9 (k:Nat) (cs:li):Bool:=eV k (cs.map fun p=>p.1.key)
abbrev DkO(W:Type):Type 1:=(R:Type)→W→((told:li)→PV told→List (Nat×Nat×Nat)→List Nat→Option R)→(TypeId→List ag→Option R)→Option R
def adK{W:Type}(dk:DkO W):Prop:=∀ x,(∃ told o news res,∀(R:Type) (f:(told:li)→PV told→List (Nat×Nat×Nat)→List Nat→Option R) g,dk R x f g=f told o news res)∨
 ∃ T ls,∀(R:Type) (f:(told:li)→PV told→List (Nat×Nat×Nat)→List Nat→Option R) g,dk R x f g=g T ls
def lZ(L:qr){W:Type}(F:PV L.cs→PV L.vs→Option W)(dk:DkO W):iF where
 run dst args st K KP:=(match Zo L args st with
  |none=>none
  |some e=>(bif Wh L e.st&&RJ L.pin e.b e.st then
    (F e.c e.v).bind fun x=>dk _ x (fun told o news res=>bif El dst L told o news e.st then K (agu (S4 dst L.pin news told o) res) (Iz dst L told o news e.a e.b e.st) else none)
     (fun T ls=>KP (.AH T ls) (Iz dst L [] () [] e.a e.b e.st))
   else none))
 LP args st:=(L.ci.flatMap fun p=>((List.range p.2).filter fun j=>!zy p.1 j L.cs).map fun j=>qf.o p.1 j 1)++
  ((L.ci.flatMap fun p=>match st.dN p.1 with|some ls=>fO (st.kc p.1 0 ls)|none=>[])++nE args)
theorem UE(L:qr){W:Type}(F:PV L.cs→PV L.vs→Option W)(dk:DkO W)(hdk:adK dk):po (lZ L F dk):=by
 intro R dst args st K KP;simp only[lZ];split
 ·rfl
 ·refine de (fM fun x=>?_) rfl
  rcases hdk x with ⟨told,o,news,res,h⟩|⟨T,ls,h⟩
  ·rw[h,h];exact de rfl rfl
  ·rw[h,h];rfl
end Go.Fx
