/- Proved here: laws.FnExactEngineTop returns true at every input (the tied card), no condition beyond the card. -/
import Derived.Test.YtldbfcdfogojfaaGreatDoorFa
import Derived.MapKept
import Derived.Laws.BytesString
import Derived.Deep.MidRow
set_option linter.unusedVariables false
set_option linter.unusedSimpArgs false
set_option linter.unusedSectionVars false
set_option linter.defProp false
set_option maxRecDepth 100000
namespace Go.Fx
theorem RA{A:jG}(h:A.md.lj .bK=true):A.md=.bK:=Md.wI h
section ops
variable {P:Program} {E:sb} (hE:iq P E.ia) {X:mz} {w:World} {R:Type} {r:R}
include hE
set_option maxHeartbeats 2000000 in
theorem R1{st:St}{G:Gh}{T ty:TypeId}{dst b:Nat}{x:ab}{vx vy:Value}{K:ab→St→Option R}(h:qG E T dst x b st K=some r)(hm:ay X st G w)(hx:aP G x vx)(hy:aT G (.mA b) vy):
  ∃ av v st' G' w',(Builtin.append_ #[T,T] ty #[vx,vy]).run P w=.ok v w'∧ay X st' G' w'∧(∀ act,bM G st act→bM G' st' act)∧aP G' av v∧K av st' = some r:=by
 unfold qG at h;split at h
 ·rename_i s bb0 y' e z hT
  cases Ag:E.ia e with
  |none=>simp[Ag] at h
  |some ei=>
   simp only[Ag] at h;split at h
   ·rename_i t B hty hB Mh
    cases hc:(Nat.beq ei.size t.size&&Nat.ble ei.bytes 16384&&!(B.sh||!Md.lj B.md .bK ||(look st.fK b).isSome||eU b st.pin||st.cZ true dst)) with
    |false=>rw[hc] at h;cases h
    |true=>
     simp only[hc,Q9] at h;simp only[Q4,aLa,aEa,bla] at hc;obtain⟨⟨q1,q2⟩,⟨⟨⟨Kh,hBm⟩,hBb⟩,hBp⟩,Ai⟩:=hc;have q1:=Q5 q1;have q2:=aUa q2;have hBb:look st.fK b=none:=by simpa using hBb
     split at h
     ·rename_i m Gb
      obtain⟨ety,hm0⟩:=lC Gb;have aeV:=RA hBm;obtain⟨Bt,Bmd,Bsh,Bl⟩:=B;simp only[Ty.slice.injEq] at ety;subst ety;simp only at hm0 Kh aeV;subst hm0 Kh aeV;have hu:=(hE T _ hT).slice;obtain⟨i,d,zz,i1,i2,i3,i4,i5,i6,i7,i8,i9,_⟩:=hE e ei Ag;have hzs:zz.cells.size=i.size:=by rw[i3,←i9,←i6];simp
      have Qh:st.arr b=some ⟨Bt,.bK,false,m⟩:=rA hB;have agn:=(gR rfl rfl).1 (hm.ar b _ Qh);have hvy:vy=G.ψ b:=hy;have aae:(∃ A,st.arr b=some A∧A.sh=false)∧eU b st.pin=false:=⟨⟨_,Qh,rfl⟩,hBp⟩;have qW:(m=[]∧G.HA b=[]∧vy=.slice none 0 0)∨∃(bb cap:Nat) (arr:Array Value) (elem:TypeId) (cells:List Value) (rest:List Value) (H':fY),vy=.slice (some ⟨bb,0,none⟩) m.length cap∧G.HA b=(bb,Obj.cells arr elem (0,0))::H'∧
        RepL (fW G.S true Bt) cells m H'∧(∀ j u,cells[j]? = some u→w.cell? ((⟨bb,0,none⟩:Addr).add j)=some u):=by
       rcases agn with ⟨e1,e2,e3⟩|⟨bb,cap,arr,elem,cells,rest,H',e1,e2,e3,e4,e5,e6⟩
       ·simp only[aHa,a7a] at e3
        exact .inl ⟨e1,e2,hvy.trans e3⟩
       ·simp only[aHa,a7a] at e1
        have sR:=hm.ah b _ Qh rfl (bb,Obj.cells arr elem (0,0)) (by rw[e2];simp)
        refine .inr ⟨bb,cap,arr,elem,cells,rest,H',hvy.trans e1,e2,e6,fun j u hj=>?_⟩;rw[bQa];exact nY (pre:=[]) sR (by simpa using e3) rfl j u hj
      have hnl:∀{news:List Value} {H:fY},RepL (fW G.S true Bt) news m H→news.length=m.length * i.size:=fun hr=>by rw[RepL.size (fun c x H hr=>fW.size hr) hr,i3,q1]
      have low:∀{q:Nat},((∃ A,st.arr q=some A∧A.sh=false)∧eU q st.pin=false)→∀ p∈G.HA q,p.1<w.heap.size∧w.heap[p.1]? = some p.2:=fun {q} hq p hp=>by obtain⟨⟨A,hA,hs⟩,_⟩:=hq;have:=hm.ah q A hA hs p hp;exact⟨fQ this,this⟩
      have F8:∀(C:List Nat) (rr:List Bt.nw),b∈C→C.Nodup→(∀ c∈C,((∃ A,st.arr c=some A∧A.sh=false)∧eU c st.pin=false))→(∀ c∈C,look st.fK c=none)→(∀ c∈C,c≠b→G.HA c=[])→lA ([]:List Bt.nw) m=some rr→
        ∃ v G' w',(Builtin.append_ #[T,T] ty #[.slice none 0 0,vy]).run P w=.ok v w'∧ay X {st with cM:=(dst,⟨Bt,.bK,false,rr⟩)::kW C st.cM} G' w'∧(∀ act,bM G st act→bM G' {st with cM:=(dst,⟨Bt,.bK,false,rr⟩)::kW C st.cM} act)∧aP G' (.one (.mA dst)) v:=by
       intro C rr hbC hnC hC hCb hCe za;obtain⟨jI,adK⟩:=DD za;have adL:m=rr:=adK.symm;subst adL;rcases qW with ⟨rfl,hH,rfl⟩|⟨bb,cap,arr,elem,cells,rest,H',rfl,hH,Ba,sC⟩
       ·obtain⟨G',m',r',hv,_⟩:=hm.tq (w':=w) (dst:=dst) (C:=C) (A':=⟨Bt,.bK,false,[]⟩) (hd:=.slice none 0 0) (HH:=[]) (st':={st with cM:=(dst,⟨Bt,.bK,false,[]⟩)::kW C st.cM}) hC rfl rfl
         (.inl ⟨rfl,rfl,rfl⟩) b5a (fun p hp=>by cases hp) (fun p hp=>by cases hp) (fun _ _ _=>rfl) (ava _) rfl rfl rfl (qS.cM _ _) (xQ hCb) Mh Ai
        exact⟨_,G',w,oF hu i1 none none 0 0 0 (ava _),m',r',hv⟩
       ·by_cases vQ:0<m.length
        ·simp only[aBa,aTa] at jI
         have h48:m.length * i.bytes≤281474976710656:=by
          have:m.length * i.bytes≤4294967296 * 16384:=cia jI (by rw[i4];exact q2)
          omega
         have it:=run_append_nil (P:=P) w T ty e i zz hu i1 i5 ⟨bb,0,none⟩ m.length cap cells (hnl Ba) sC vQ (by omega) h48
         have LS:=grownCap_ge w m.length 0 e;let blk:Obj:=.cells (cells.toArray++Builtin.zeroCells zz.cells (grownCap w m.length 0 e - m.length)) e (0,0);have IQ:kf (RepL (fW G.S true Bt)) Bt.size [.slice (some ⟨w.heap.size,0,none⟩) m.length (grownCap w m.length 0 e)] m ((w.heap.size,blk)::H'):=
          .inr ⟨w.heap.size,grownCap w m.length 0 e,_,e,cells,(Builtin.zeroCells zz.cells (grownCap w m.length 0 e - m.length)).toList,H',rfl,rfl,by simp,by
           rw[bUa,cza,hzs,bAa,hnl Ba,←bna,i3,q1];exact bua _ (by omega),LS,Ba⟩
         have Zt:=hm.nd b _ Qh rfl;rw[hH,aFa,a0a] at Zt;obtain⟨G',m',r',hv,_⟩:=hm.drew.tq (w':=w.drew.alloc blk) (dst:=dst) (C:=C) (A':=⟨Bt,.bK,false,m⟩) (hd:=.slice (some ⟨w.heap.size,0,none⟩) m.length (grownCap w m.length 0 e)) (HH:=(w.heap.size,blk)::H')
          (st':={st with cM:=(dst,⟨Bt,.bK,false,m⟩)::kW C st.cM}) hC rfl rfl IQ
          (by
           rw[aFa,a0a];refine⟨fun gS=>?_,Zt.2⟩;obtain⟨p,hp,e⟩:=aXa.1 gS;have:=(low aae p (by rw[hH];exact Q8 _ hp)).1
           simp only at e;omega)
          (fun p hp=>by
           rcases aka.1 hp with rfl|hp
           ·exact .inr (ava _)
           ·exact .inl ⟨b,hbC,p,by rw[hH];exact Q8 _ hp,rfl⟩)
          (fun p hp=>by
           rcases aka.1 hp with rfl|hp
           ·exact uq w.drew _
           ·have:=low aae p (by rw[hH];exact Q8 _ hp)
            rw[iM w.drew _ this.1];exact this.2)
          (fun b hb _=>iM w.drew _ hb) (by rw[se];exact Nat.le_succ _) rfl rfl rfl (qS.cM _ _) (xQ hCb) Mh Ai
         exact⟨_,G',_,it,m',r',hv⟩
        ·have hm0:m=[]:=by cases m<;>simp at vQ ⊢
         subst hm0;obtain⟨G',m',r',hv,_⟩:=hm.tq (w':=w) (dst:=dst) (C:=C) (A':=⟨Bt,.bK,false,[]⟩) (hd:=.slice none 0 0) (HH:=[]) (st':={st with cM:=(dst,⟨Bt,.bK,false,[]⟩)::kW C st.cM}) hC rfl rfl
          (.inl ⟨rfl,rfl,rfl⟩) b5a (fun p hp=>by cases hp) (fun p hp=>by cases hp) (fun _ _ _=>rfl) (ava _) rfl rfl rfl (qS.cM _ _) (xQ hCb) Mh Ai
         exact⟨_,G',w,oF hu i1 none _ 0 0 _ (ava _),m',r',hv⟩
      cases x with
      |agg ls=>simp[ab.bN] at h
      |Lg ls=>simp[ab.bN] at h
      |Ak t ls=>simp[ab.bN] at h
      |one l=>
       simp only[ab.bN] at h;cases l with
       |nil=>
        simp only at h;obtain⟨rr,hrr,h⟩:=awa.1 h;have hvx:vx=.slice none 0 0:=hx;subst hvx;obtain⟨v,G',w',f1,f2,f3,f4⟩:=F8 [b] rr (Q7.2 rfl) (by simp) (fun c hc=>by rw[Q7.1 hc];exact aae) (fun c hc=>by rw[Q7.1 hc];exact hBb) (fun c hc gT=>absurd (Q7.1 hc) gT) hrr
        exact⟨_,v,_,G',w',f1,f2,f3,f4,h⟩
       |mA a=>
        simp only at h;cases hA:look st.cM a with
        |none=>simp[hA] at h
        |some A=>
         simp only[hA] at h;cases Ny:(A.sh||!Md.lj A.md .bK ||(look st.fK a).isSome||eU a st.pin||Nat.beq a b) with
         |true=>simp[Ny] at h
         |false=>
          simp only[Ny,ana] at h;simp only[aEa,bla] at Ny;obtain⟨⟨⟨⟨Qg,hAm⟩,hAb⟩,ON⟩,hab⟩:=Ny;have hAb:look st.fK a=none:=by simpa using hAb
          have hab:a≠b:=fun e=>by rw[e] at hab;simp at hab
          cases Nz:vf (.slice A.t) (.slice Bt) A.l with
          |none=>simp[Nz] at h
          |some l=>
           simp only[Nz] at h;obtain⟨ety,hl⟩:=lC Nz;have Ze:=RA hAm;obtain⟨At,Amd,Ash,Al⟩:=A;simp only[Ty.slice.injEq] at ety;subst ety;simp only at hl Qg Ze;subst hl Qg Ze;obtain⟨rr,hrr,hK⟩:=awa.1 h;have jH:st.arr a=some ⟨At,.bK,false,l⟩:=rA hA;have sy:=(gR rfl rfl).1 (hm.ar a _ jH);have hvx:vx=G.ψ a:=hx;have ad9:(∃ A,st.arr a=some A∧A.sh=false)∧eU a st.pin=false:=⟨⟨_,jH,rfl⟩,ON⟩;have hC:∀ c∈[a,b],(∃ A,st.arr c=some A∧A.sh=false)∧eU c st.pin=false:=fun c hc=>by
            simp only[aka,bNa,bya] at hc;rcases hc with rfl|rfl
            ·exact ad9
            ·exact aae
           have hCb:∀ c∈[a,b],look st.fK c=none:=fun c hc=>by
            simp only[aka,bNa,bya] at hc;rcases hc with rfl|rfl
            ·exact hAb
            ·exact hBb
           have hnC:[a,b].Nodup:=by simp[hab]
           have acr:∀ p∈G.HA a,∀ p'∈G.HA b,p.1≠p'.1:=fun p hp p' Ax e=>by have:=hm.pX (true,a) (true,b) p.1 ⟨⟨_,jH,rfl⟩,p,hp,rfl⟩ ⟨⟨_,Qh,rfl⟩,p',Ax,e.symm⟩;simp only[aia,b9a] at this;exact hab this
           rcases sy with ⟨e1,e2,e3⟩|⟨ba,cap,arr,elem,cells,rest,Ha,e1,e2,e3,e4,e5,e6⟩
           ·simp only at e1
            subst e1;simp only[aHa,a7a] at e3;rw[hvx,e3];obtain⟨v,G',w',f1,f2,f3,f4⟩:=F8 [a,b] rr (by simp) hnC hC hCb (fun c hc gT=>by
             simp only[aka,bNa,bya] at hc;rcases hc with rfl|rfl
             ·exact e2
             ·exact absurd rfl gT) hrr
            exact⟨_,v,_,G',w',f1,f2,f3,f4,hK⟩
           ·simp only[aHa,a7a] at e1
            rw[hvx,e1];obtain⟨jI,rfl⟩:=DD hrr;have e6:RepL (fW G.S true At) cells l Ha:=e6;have e4:cap * At.size≤arr.size:=e4;have e5:l.length≤cap:=e5;have sR:=hm.ah a _ jH rfl (ba,Obj.cells arr elem (0,0)) (by rw[e2];simp)
            have mg:cells.length=l.length * At.size:=RepL.size (fun c x H hr=>fW.size hr) e6;have aff:=hm.nd a _ jH rfl;have Zs:=aff;rw[e2,aFa,a0a] at Zs;rcases Nat.eq_zero_or_pos m.length with hm0|vQ
            ·have hm0:m=[]:=cxa hm0
             subst hm0;rw[a9a] at hK;obtain⟨xb,xc,agT⟩:∃ xb xc,vy=.slice xb 0 xc:=by
              rcases qW with ⟨_,_,e⟩|⟨bb,cap,_,_,_,_,_,e,_⟩
              ·exact⟨_,_,e⟩
              ·exact⟨_,_,e⟩
             obtain⟨G',m',r',hv,_⟩:=hm.tq (w':=w) (dst:=dst) (C:=[a,b]) (A':=⟨At,.bK,false,l⟩) (hd:=.slice (some ⟨ba,0,none⟩) l.length cap) (HH:=G.HA a) (st':={st with cM:=(dst,⟨At,.bK,false,l⟩)::kW [a,b] st.cM}) hC rfl rfl
              (.inr ⟨ba,cap,arr,elem,cells,rest,Ha,rfl,e2,e3,e4,e5,e6⟩) aff (fun p hp=>.inl ⟨a,by simp,p,hp,rfl⟩) (fun p hp=>(low ad9 p hp).2) (fun _ _ _=>rfl) (ava _) rfl rfl rfl (qS.cM _ _) (xQ hCb) Mh Ai
             exact⟨_,_,_,G',w,by rw[agT];exact oF hu i1 _ _ _ _ _ e5,m',r',hv,hK⟩
            ·rcases qW with ⟨hm0,_,_⟩|⟨bb,aew,ahu,ahk,news,ahl,Hb,rfl,hHb,Ba,sC⟩
             ·rw[hm0] at vQ;simp at vQ
             have Zt:=hm.nd b _ Qh rfl;rw[hHb,aFa,a0a] at Zt;have inB:∀ p∈Hb,p∈G.HA b:=fun p hp=>by rw[hHb];exact Q8 _ hp
             have inA:∀ p∈Ha,p∈G.HA a:=fun p hp=>by rw[e2];exact Q8 _ hp
             have acE:((Ha++Hb).map (·.1)).Nodup:=by rw[bra,a_a];refine⟨Zs.2,Zt.2,fun x1 h1 x2 h2 e=>?_⟩;obtain⟨p,hp,rfl⟩:=aXa.1 h1;obtain⟨p',Ax,rfl⟩:=aXa.1 h2;exact acr p (inA p hp) p' (inB p' Ax) e
             have ZU:∀ p∈Ha++Hb,p.1<w.heap.size∧w.heap[p.1]? = some p.2:=fun p hp=>by
              rcases ala.1 hp with hp|hp
              ·exact low ad9 p (inA p hp)
              ·exact low aae p (inB p hp)
             have Y9:∀ p∈Ha++Hb,∃ c∈[a,b],∃ q∈G.HA c,q.1=p.1:=fun p hp=>by
              rcases ala.1 hp with hp|hp
              ·exact⟨a,by simp,p,inA p hp,rfl⟩
              ·exact⟨b,by simp,p,inB p hp,rfl⟩
             by_cases NI:l.length+m.length≤cap
             ·have wL:0+l.length * i.size+news.length≤arr.size:=by
               rw[hnl Ba,aTa,←bna,i3,q1];exact bFa (bua _ NI) e4
              have hth:=BG sR wL;have it:=run_append_room_cells (P:=P) w T ty e i hu i1 ba 0 l.length cap ⟨bb,0,none⟩ m.length aew news (hnl Ba) sC (RepL.one (fun c x H hr=>fW.one hr) Ba) NI
               (fun j hj=>(hth j hj).1) (fun j hj=>(hth j hj).2)
              obtain⟨arr',g1,g2,g3,g4,g5,g6,g7⟩:=nW ba news (0+l.length * i.size) w sR wL;have RM:arr'.toList=(cells++news)++arr.toList.drop (0+l.length * i.size+news.length):=by
               rw[g2];have:arr.toList.take (0+l.length * i.size)=cells:=by rw[e3,aTa,i3,q1,←mg];simp
               rw[this];simp
              have Zz:arr'.size=arr.size:=by rw[←bda,g2];simp;omega
              have gT:∀ p∈Ha++Hb,p.1≠ba:=fun p hp e=>by
               rcases ala.1 hp with hp|hp
               ·exact Zs.1 (by show ba∈_;rw[←e];exact aGa (f:=(·.1)) hp)
               ·exact acr (ba,Obj.cells arr elem (0,0)) (by rw[e2];simp) p (inB p hp) e.symm
              obtain⟨G',m',r',hv,_⟩:=hm.tq (w':=w.setCells ba (0+l.length * i.size) news) (dst:=dst) (C:=[a,b]) (A':=⟨At,.bK,false,l++m⟩) (hd:=.slice (some ⟨ba,0,none⟩) (l++m).length cap) (HH:=(ba,Obj.cells arr' elem (0,0))::(Ha++Hb)) (st':={st with cM:=(dst,⟨At,.bK,false,l++m⟩)::kW [a,b] st.cM}) hC rfl rfl
               (.inr ⟨ba,cap,arr',elem,cells++news,_,Ha++Hb,rfl,rfl,RM,by rw[Zz];exact e4,by simpa using NI,e6.append Ba⟩)
               (by
                rw[aFa,a0a];refine⟨fun gS=>?_,acE⟩;obtain⟨p,hp,e⟩:=aXa.1 gS;exact gT p hp e)
               (fun p hp=>by
                rcases aka.1 hp with rfl|hp
                ·exact .inl ⟨a,by simp,(ba,Obj.cells arr elem (0,0)),by rw[e2];simp,rfl⟩
                ·exact .inl (Y9 p hp))
               (fun p hp=>by
                rcases aka.1 hp with rfl|hp
                ·exact g1
                ·rw[g3 _ (gT p hp)];exact(ZU p hp).2)
               (fun k hk hn=>g3 k fun e=>hn a (by simp) (ba,Obj.cells arr elem (0,0)) (by rw[e2];simp) e.symm) (by rw[g4];exact ava _) g5 g6 g7 (qS.cM _ _) (xQ hCb) Mh Ai
              simp only[ata] at hv;exact⟨_,_,_,G',_,it,m',r',hv,hK⟩
             ·have holds:∀ j u,cells[j]? = some u→w.cell? ((⟨ba,0,none⟩:Addr).add j)=some u:=fun j u hj=>by
               rw[bQa];exact nY (pre:=[]) sR (by simpa using e3) rfl j u hj
              have hby:(l.length+m.length) * i.bytes≤140737488355328:=by
               have:(l.length+m.length) * i.bytes≤4294967296 * 16384:=cia jI (by rw[i4];exact q2)
               omega
              have wL:=growslice_fits (need:=l.length+m.length) (old:=cap) (bytes:=i.bytes) (by omega) hby
              have it:=run_append_grow (P:=P) w T ty e i zz hu i1 i5 ⟨ba,0,none⟩ l.length cap cells (by rw[mg,i3,q1]) holds ⟨bb,0,none⟩ m.length aew news (hnl Ba) sC (by omega) (by omega) wL
              have LS:=grownCap_ge w (l.length+m.length) cap e;let blk:Obj:=.cells (cells.toArray++news.toArray++Builtin.zeroCells zz.cells (grownCap w (l.length+m.length) cap e - (l.length+m.length))) e (0,0);have IQ:kf (RepL (fW G.S true At)) At.size [.slice (some ⟨w.heap.size,0,none⟩) (l++m).length (grownCap w (l.length+m.length) cap e)] (l++m) ((w.heap.size,blk)::(Ha++Hb)):=
               .inr ⟨w.heap.size,grownCap w (l.length+m.length) cap e,_,e,cells++news,(Builtin.zeroCells zz.cells (grownCap w (l.length+m.length) cap e - (l.length+m.length))).toList,Ha++Hb,rfl,rfl,by simp,by
                rw[bUa,bUa,cza,hzs,bAa,bAa,hnl Ba,mg,i3,q1,←bna,←bna];exact bua _ (by omega),by simpa using LS,e6.append Ba⟩
              obtain⟨G',m',r',hv,_⟩:=hm.drew.tq (w':=w.drew.alloc blk) (dst:=dst) (C:=[a,b]) (A':=⟨At,.bK,false,l++m⟩) (hd:=.slice (some ⟨w.heap.size,0,none⟩) (l++m).length (grownCap w (l.length+m.length) cap e)) (HH:=(w.heap.size,blk)::(Ha++Hb))
               (st':={st with cM:=(dst,⟨At,.bK,false,l++m⟩)::kW [a,b] st.cM}) hC rfl rfl IQ
               (by
                rw[aFa,a0a];refine⟨fun gS=>?_,acE⟩;obtain⟨p,hp,e⟩:=aXa.1 gS;have:=(ZU p hp).1;simp only at e;omega)
               (fun p hp=>by
                rcases aka.1 hp with rfl|hp
                ·exact .inr (ava _)
                ·exact .inl (Y9 p hp))
               (fun p hp=>by
                rcases aka.1 hp with rfl|hp
                ·exact uq w.drew _
                ·have:=ZU p hp
                 rw[iM w.drew _ this.1];exact this.2)
               (fun b hb _=>iM w.drew _ hb) (by rw[se];exact Nat.le_succ _) rfl rfl rfl (qS.cM _ _) (xQ hCb) Mh Ai
              simp only[ata] at hv;exact⟨_,_,_,G',_,it,m',r',hv,hK⟩
       |_=>simp at h
     ·cases h
   ·cases h
 ·cases h
theorem R2{st:St}{G:Gh}{T ty:TypeId}{dst:Nat}{x y:ab}{vx vy:Value}{K:ab→St→Option R}(h:qH E T dst x y st K=some r)(hm:ay X st G w)(hx:aP G x vx)(hy:aP G y vy)(hwx:GS st x)(hwy:GS st y):
  ∃ av v st' G' w',(Builtin.append_ #[T,T] ty #[vx,vy]).run P w=.ok v w'∧ay X st' G' w'∧(∀ act,bM G st act→bM G' st' act)∧aP G' av v∧K av st' = some r:=by
 unfold qH at h;split at h
 ·rename_i b hb
  unfold YW at hb;split at hb
  ·rename_i b' hl
   have hye:y=.one (.mA b'):=by cases y<;>simp[ab.bN] at hl;rw[hl]
   split at hb
   ·rename_i B hB
    cases hc:(!B.sh&&Md.lj B.md .bK) with
    |false=>simp[hc] at hb
    |true=>simp only[hc,Q9,OF] at hb;subst hb;rw[hye] at hy;exact R1 hE h hm hx hy
   ·cases hb
  ·cases hb
 ·split at h
  ·rename_i a v sz i off hl
   have hxe:x=.one (.Fb a v sz i off):=by cases x<;>simp[ab.bN] at hl;rw[hl]
   cases hc:(Nat.beq v (st.dA a)&&Nat.blt off sz&&Sr st a sz) with
   |false=>rw[hc] at h;cases h
   |true=>
    rw[hc,Q9] at h;simp only[Q4] at hc;obtain⟨⟨hv,XV⟩,mF⟩:=hc;obtain rfl:=Q5 hv;rw[b1a] at XV;unfold Sr at mF;split at mF
    ·rename_i A hA
     obtain rfl:=Q5 mF;obtain⟨s1,G1,O,h⟩:=Sc h hm;obtain⟨b1,b2,b3,b4,b5,b6,b7⟩:=O.iL;have adO:s1.dA a=st.dA a:=by simp only[St.dA,b7]
     have ht:∀ off u,off<A.t.size→u9 G1 a (st.dA a) A.t.size i off u→u=G1.ψ (LY a (st.dA a) off):=fun off u ho hu=>O.ab8 A off u hA ho hu;obtain⟨m2,h⟩:=UD h O.Gl (by rw[adO];exact ht)
     generalize hs2:({s1 with cg:=(pF s1.cg []).map fun p=>(p.1,p.2.map (qs a (s1.dA a) A.t.size))}:St)=s2 at m2 h
     have hx1:aP G1 (.one (.mA (LY a (st.dA a) off))) vx:=by have:=O.val x vx hwx hx;rw[hxe] at this;exact ht off vx XV this
     obtain⟨av,v,st',G',w',k1,k2,k3,k4,k5⟩:=K4 hE (ty:=ty) h m2 hx1 (O.val y vy hwy hy);refine⟨av,v,st',G',w',k1,k2,fun act ra=>k3 act ?_,k4,k5⟩;have r1:=O.et act ra;rw[←hs2];exact⟨r1.1,r1.2.1,r1.2.2⟩
    ·cases mF
  ·exact K4 hE h hm hx hy
theorem Jv{S:DB}:∀{t:Ty} {d:t.nw} {cs:List Value} {H:fY} {off:Nat} {n:Int},t.rE=true→fW S true t cs d H→C7 t d off=some n→∃ b k c,cs[off]? = some (.slice b k c)∧n=(k:Int)
 |.slice u,d,cs,H,off,n,_,h,hn=>by
  cases off with
  |succ k=>simp[C7] at hn
  |zero=>
   simp only[C7,OF] at hn;rcases h with ⟨e1,_,e⟩|⟨b,cap,arr,elem,cells,rest,H',e,_⟩
   ·subst e;exact⟨none,0,0,rfl,by rw[←hn,e1];rfl⟩
   ·subst e;exact⟨_,_,_,rfl,hn.symm⟩
 |.aO a b,d,cs,H,off,n,hna,h,hn=>by
  simp only[Ty.rE,Q4] at hna;obtain⟨c1,c2,H1,H2,rfl,rfl,h1,h2⟩:=h;have hl:=fW.size h1;simp only[C7] at hn;cases hb:Nat.blt off a.size with
  |true=>simp only[hb,Q9] at hn;rw[b1a] at hb;obtain⟨bb,k,c,g1,g2⟩:=Jv hna.1 h1 hn;exact⟨bb,k,c,by rw[aRa (by omega)];exact g1,g2⟩
  |false=>
   simp only[hb,ana] at hn;have hb:¬ off<a.size:=fun h=>by
    have:Nat.blt off a.size=true:=by rw[b1a];exact h
    rw[this] at hb;cases hb
   obtain⟨bb,k,c,g1,g2⟩:=Jv hna.2 h2 hn;exact⟨bb,k,c,by rw[aPa (by omega),hl];exact g1,g2⟩
 |.one a,d,cs,H,off,n,hna,h,hn=>by exact Jv (t:=a) hna h hn
 |.int _,_,_,_,off,_,_,_,hn=>by cases off<;>simp[C7] at hn
 |.bool,_,_,_,off,_,_,_,hn=>by cases off<;>simp[C7] at hn
 |.str,_,_,_,off,_,_,_,hn=>by cases off<;>simp[C7] at hn
 |.arr _ _,_,_,_,_,_,hna,_,_=>by cases hna
end ops
end Go.Fx
namespace Go.Fx
def KN(e:MapEntry)(p:ak×Int):Prop:=e.key=kl p.1∧e.val=.int .i64 p.2
theorem Nh{S:DB}:∀{es:List MapEntry} {l:List (ak×Int)} {H:fY},RepL (fW S false mpT) (es.flatMap fun e=>[e.key,e.val]) l H→All2 KN es l
 |[],[],_,_=>trivial
 |[],p::l,H,⟨c1,c2,H1,H2,e1,_,r,_⟩=>by have:=fW.size r;have e:c1=[]:=(bPa.1 e1.symm).1;rw[e] at this;cases this
 |e::es,[],H,h=>by cases h.1
 |e::es,p::l,H,⟨c1,c2,H1,H2,e1,_,r,rl⟩=>by obtain⟨d1,d2,K1,K2,rfl,_,r1,r2⟩:=r;have h1:d1=[kl p.1]:=r1.1;have h2:d2=[.int .i64 p.2]:=r2.1;subst h1 h2;simp only[bJa,a2a,aQa,aHa] at e1;obtain⟨g1,g2,rfl⟩:=e1;exact⟨⟨g1,g2⟩,Nh rl⟩
theorem Ov{S:DB}:∀{es:List MapEntry} {l:List (ak×Int)},All2 KN es l→RepL (fW S false mpT) (es.flatMap fun e=>[e.key,e.val]) l []
 |[],[],_=>⟨rfl,rfl⟩
 |e::es,p::l,h=>by refine⟨[e.key,e.val],_,[],[],rfl,rfl,⟨[kl p.1],[.int .i64 p.2],[],[],?_,rfl,⟨rfl,rfl⟩,⟨rfl,rfl⟩⟩,Ov h.2⟩;rw[h.1.1,h.1.2];rfl
 |[],_::_,h=>h.elim
 |_::_,[],h=>h.elim
theorem aaM{a b:ak}(h:kl a=kl b):a=b:=by simp only[kl,Value.string.injEq,ByteArray.mk.injEq] at h;exact List.toArray_inj h
theorem aaE(a b:ak):Instr.sameNow .string (kl a) (kl b)=some (decide (b=a)):=by
 obtain⟨r,h1,h2⟩:=MapKept.sameNow_of_keys (d:=.string) (a:=kl a) (b:=kl b) trivial trivial;rw[h1];congr 1
 by_cases e:b=a
 ·subst e;simp[h2.2 rfl]
 ·have:r≠true:=fun hr=>e (aaM (h2.1 hr)).symm
  simp[e,this]
theorem Ka{s:ak}:∀{es:List MapEntry} {l:List (ak×Int)} {i:Nat},All2 KN es l→
  (Instr.findNow .string (kl s) es i=some none∧qg l s=0∧∀ v,qF l s v=l++[(s,v)])∨
  ∃ j v e,Instr.findNow .string (kl s) es i=some (some (i+j,.int .i64 v))∧qg l s=v∧es[j]? = some e∧e.key=kl s∧∀ u,qF l s u=l.set j (s,u)
 |[],[],i,_=>.inl ⟨rfl,rfl,fun _=>rfl⟩
 |e::es,p::l,i,h=>by
  obtain⟨⟨hk,hv⟩,ht⟩:=h;have hs:=aaE s p.1;rw[←hk] at hs;by_cases hp:p.1=s
  ·simp only[hp,cDa] at hs
   exact .inr ⟨0,p.2,e,by simp[Instr.findNow,hs,hv],by simp[qg,hp],rfl,by rw[hk,hp],fun u=>by simp[qF,hp]⟩
  ·simp only[hp,cea] at hs
   rcases Ka (s:=s) (i:=i+1) ht with ⟨h1,h2,h3⟩|⟨j,v,e',h1,h2,h3,h4,h5⟩
   ·exact .inl ⟨by simp[Instr.findNow,hs,h1],by simp[qg,hp,h2],fun v=>by simp[qF,hp,h3]⟩
   ·exact .inr ⟨j+1,v,e',by simp[Instr.findNow,hs,h1];omega,by simp[qg,hp,h2],by simpa using h3,h4,fun u=>by simp[qF,hp,h5]⟩
 |[],_::_,_,h=>h.elim
 |_::_,[],_,h=>h.elim
theorem abc{es:List MapEntry}{l:List (ak×Int)}(h:All2 KN es l){j:Nat}{e:MapEntry}{p:ak×Int}(he:KN e p):All2 KN (es.set j e) (l.set j p):=by
 induction es generalizing l j with
 |nil=>cases l with
  |nil=>simp[All2]
  |cons=>exact h.elim
 |cons x es ih=>cases l with
  |nil=>exact h.elim
  |cons y l=>
   cases j with
   |zero=>exact⟨he,h.2⟩
   |succ j=>exact⟨h.1,ih h.2⟩
section ops
variable {P:Program} {E:sb} (hE:iq P E.ia) {X:mz} {st:St} {G:Gh} {w:World} {R:Type} {r:R}
include hE
theorem Wt{T:TypeId}(h:K3 E T=true):∃ k v j,P.underlying T=some (.map k v)∧P.underlying k=some .string∧P.underlying v=some (.int .i64)∧P.info? v=some j∧j.zero=some (.int .i64 0):=by
 unfold K3 at h;split at h
 ·rename_i s b y k v z hT
  obtain⟨i,d,zz,i1,i2,i3,i4,i5,i6,i7,i8,i9,i10,i11⟩:=hE T _ hT;obtain⟨j1,j2,j,j3,j4⟩:=i11 k v rfl;cases d with
  |map k' v'=>obtain⟨rfl,rfl⟩:=i7;exact⟨k,v,j,i2,j1,j2,j3,j4⟩
  |_=>exact i7.elim
 ·cases h
theorem R6{T:TypeId}{dst:Nat}{K:ab→St→Option R}(h:qI E T dst st K=some r)(hm:ay X st G w):
  ∃ av v st' G' w',(Instr.makeMap T none).run P w=.ok v w'∧ay X st' G' w'∧(∀ act,bM G st act→bM G' st' act)∧aP G' av v∧K av st' = some r:=by
 unfold qI at h;split at h
 ·rename_i ha
  cases hc:(K3 E T&&!st.cZ true dst) with
  |false=>rw[hc] at h;cases h
  |true=>
   rw[hc,Q9] at h;simp only[Q4,aLa] at hc;obtain⟨G2,m2,r2,hv2,_⟩:=hm.NP (w':=w.alloc (.map #[] 0)) (dst:=dst) (C:=[]) (A':=⟨mpT,.mp,false,[]⟩) (hd:=.map (some w.heap.size)) (HH:=[(w.heap.size,.map #[] 0)])
    (st':=st.gE dst ⟨mpT,.mp,false,[]⟩) (fun c hc=>by cases hc) rfl (.inr (.inl ⟨_,rfl⟩)) (fun G' e1 e2 e3=>⟨w.heap.size,#[],0,e2,e3,rfl,rfl⟩) (by simp)
    (fun p hp=>by rw[Q7.1 hp];exact .inr (ava _)) (fun p hp=>by rw[Q7.1 hp];exact uq w _)
    (fun b hb _=>iM w _ hb) (by rw[se];omega) rfl rfl rfl ⟨rfl,fun _=>rfl,fun _=>rfl,fun o j l=>by simp,rfl,rfl,rfl⟩
    (fun q=>by rw[dG];by_cases e:dst=q<;>simp[e,cba (a:=q)]) ha hc.2
   exact⟨_,_,_,G2,_,rfl,m2,r2,hv2,h⟩
 ·cases h
theorem Z1{a:Nat}{A:jG}(hm:ay X st G w)(hA:st.arr a=some A)(hs:A.sh=false)(ux:A.md=.mp){l:List (ak×Int)}(hc:vf (.slice A.t) (.slice mpT) A.l=some l):
  ∃ b es xU,G.ψ a=.map (some b)∧G.HA a=[(b,Obj.map es xU)]∧w.heap[b]? = some (.map es xU)∧All2 KN es.toList l:=by
 obtain⟨ety,hl⟩:=lC hc;obtain⟨At,Amd,Ash,Al⟩:=A;simp only[Ty.slice.injEq] at ety;subst ety;simp only at hl hs ux;subst hl hs ux;obtain⟨b,es,xU,e1,e2,e3⟩:=hm.ar a _ hA;have sR:=hm.ah a _ hA rfl (b,Obj.map es xU) (by rw[e2];simp)
 exact⟨b,es,xU,e1,e2,sR,Nh e3⟩
theorem T1{T:TypeId}{x k:ab}{vx vk:Value}{K:ab→St→Option R}(h:tH E T x k st K=some r)(hm:ay X st G w)(hx:aP G x vx)(hk:aP G k vk):
  ∃ av v,(Instr.lookup T vx vk false).run P w=.ok v w∧aP G av v∧K av st=some r:=by
 unfold tH at h;split at h
 ·rename_i a s hl hs
  have hxe:x=.one (.mA a):=by cases x<;>simp[ab.bN] at hl;rw[hl]
  rw[hxe] at hx;have hx:vx=G.ψ a:=hx;cases C8 hs hk;split at h
  ·rename_i A hA
   cases hc:(K3 E T&&!A.sh&&Md.lj A.md .mp) with
   |false=>rw[hc] at h;cases h
   |true=>
    rw[hc,Q9] at h;simp only[Q4,aLa] at hc;obtain⟨⟨hT,dq⟩,ux⟩:=hc;split at h
    ·rename_i l mg
     obtain⟨kt,vt,j,u1,u2,u3,u4,u5⟩:=Wt hE hT;obtain⟨b,es,xU,e1,e2,e3,e4⟩:=Z1 hE hm hA dq (Md.wI ux) mg;have Hm:∀ em,(Instr.checkKey em 10000 kt (kl s)).run P w=.ok () w:=fun em=>MapKept.run_checkKey u2 (k:=kl s) trivial em 9999;rcases Ka (s:=s) (i:=0) e4 with ⟨h1,h2,_⟩|⟨j',v,e,h1,h2,_⟩
     ·refine⟨_,.int .i64 (qg l s),?_,kH _ _,h⟩
      rw[hx,e1,h2];simp[Instr.lookup,aCa u1,b2a e3,Hm,cca u2 h1,zeroValue,typeInfo,u4,u5,Result.andThen]
     ·refine⟨_,.int .i64 (qg l s),?_,kH _ _,h⟩
      rw[hx,e1,h2];simp[Instr.lookup,aCa u1,b2a e3,Hm,cca u2 h1,Result.andThen]
    ·cases h
  ·cases h
 ·cases h
theorem Og{T:TypeId}{x k v:ab}{vx vk vv:Value}{K:ab→St→Option R}(h:nN E T x k v st K=some r)(hm:ay X st G w)(hx:aP G x vx)(hk:aP G k vk)(hv:aP G v vv):
  ∃ st' G' w',(Instr.mapUpdate T vx vk vv).run P w=.ok () w'∧ay X st' G' w'∧(∀ act,bM G st act→bM G' st' act)∧K (.one .uZ) st' = some r:=by
 unfold nN at h;split at h
 ·rename_i a s n hl hs hn
  have hxe:x=.one (.mA a):=by cases x<;>simp[ab.bN] at hl;rw[hl]
  rw[hxe] at hx;have hx:vx=G.ψ a:=hx;cases C8 hs hk;cases qb hn hv;split at h
  ·rename_i A hA
   cases hc:(K3 E T&&!A.sh&&Md.lj A.md .mp) with
   |false=>rw[hc] at h;cases h
   |true=>
    rw[hc,Q9] at h;simp only[Q4,aLa] at hc;obtain⟨⟨hT,dq⟩,ux⟩:=hc;split at h
    ·rename_i l mg
     obtain⟨kt,vt,j,u1,u2,u3,u4,u5⟩:=Wt hE hT;have jH:=rA hA;obtain⟨b,es,xU,e1,e2,e3,e4⟩:=Z1 hE hm jH dq (Md.wI ux) mg;have Hm:∀ em,(Instr.checkKey em 10000 kt (kl s)).run P w=.ok () w:=fun em=>MapKept.run_checkKey u2 (k:=kl s) trivial em 9999;have agV:∃ es' J4,(Instr.mapUpdate T (.map (some b)) (kl s) (.int .i64 n)).run P w=.ok () {w with heap:=w.heap.setIfInBounds b (.map es' J4)}∧All2 KN es'.toList (qF l s n):=by
      rcases Ka (s:=s) (i:=0) e4 with ⟨h1,_,h3⟩|⟨j',u,e,h1,_,h3,h4,h5⟩
      ·refine⟨es.push {key:=kl s,val:=.int .i64 n,born:=xU},xU+1,?_,?_⟩
       ·simp[Instr.mapUpdate,aCa u1,b2a e3,Hm,cca u2 h1,MapKept.run_setObj_map _ e3,Result.andThen]
       ·rw[h3,Array.toList_push]
        exact e4.append ⟨⟨rfl,rfl⟩,trivial⟩
      ·refine⟨es.modify j' fun e=>{e with key:=kl s,val:=.int .i64 n},xU,?_,?_⟩
       ·rw[aTa] at h1
        have agE:((es[j']?).map (·.key)).getD (kl s)=kl s:=by rw[←bsa,h3];exact h4
        have wN:(Instr.keyThatStays (kl s) (kl s)).run P w=.ok (kl s) w:=MapKept.run_keyThatStays (d:=.string) (k:=kl s) trivial;simp only[Instr.mapUpdate,aKa,aCa u1,aDa,b2a e3,Hm,cca u2 h1,agE,wN,MapKept.run_setObj_map _ e3]
       ·rw[h5]
        have:(es.modify j' fun e=>{e with key:=kl s,val:=.int .i64 n}).toList=es.toList.set j' {e with key:=kl s,val:=.int .i64 n}:=by
         apply bHa;intro i;rw[bsa,cqa,cJa];by_cases hi:j' = i
         ·subst hi
          have bq:=(aja.1 h3).1;rw[bsa] at h3;simp only[aua,h3,bBa,bq]
         ·simp only[hi,aca,bsa]
        rw[this];exact abc e4 ⟨rfl,rfl⟩
     obtain⟨es',J4,it,agw⟩:=agV;obtain⟨hs1,hs2⟩:=MapKept.heap_set (o':=.map es' J4) e3;let G1:Gh:={G with HA:=fun q=>if q=a then [(b,Obj.map es' J4)] else G.HA q}
     have Pk:eR G st (true,a) b:=⟨⟨A,jH,dq⟩,(b,Obj.map es xU),by rw[e2];simp,rfl⟩
     have OO:vK X st (st.gE a ⟨mpT,.mp,false,qF l s n⟩) G G1 w {w with heap:=w.heap.setIfInBounds b (.map es' J4)} (fun y=>y=(true,a)) (fun y=>y=(true,a)) []:=by
      refine {
           n:=rfl,ib:=fun _=>rfl,bl:=rfl,pn:=rfl,S:=rfl,bN:=fun lf v _ hr=>aT.leF (G:=G) (G':=G1) (F:=[]) (fun _ _ h=>h) (fun _ _=>⟨rfl,rfl⟩) (fun q _=>⟨rfl,ava _,fun _ _=>rfl⟩) (by simp) hr,fm:=fun y hy=>(by cases hy),sl:=hm.sl,dL:=fun q ls hq=>.inr ⟨by simp,by simp,hq,rfl,rfl,rfl⟩,arr:=fun q B hq=>?_,
           pd:=fun y c hy hyo=>?_,pX:=fun y z c hy hz _ _=>hy.trans hz.symm,hv:=hm.hv,old:=fun c hc hn=>hs2 c fun e=>hn (true,a) rfl (by rw[e];exact Pk),sz:=by simp,os:=rfl,tp:=rfl,out:=rfl,Vy:=fun q ls hq _=>⟨hq,by simp⟩,Vx:=fun q B hp hq=>⟨?_,rfl⟩}
      ·rw[dG] at hq
       by_cases e:a=q
       ·subst e
        simp only[aua,OF] at hq;subst hq;refine .inl ⟨rfl,⟨b,es',J4,e1,by simp[G1],Ov agw⟩,fun _=>⟨fun p hp=>?_,by simp[G1],fun gT=>by simp[jG.nest] at gT⟩⟩
        simp only[G1,aua,Q7] at hp;rw[hp];exact hs1
       ·simp only[e,aca] at hq
        have gT:q≠a:=fun h=>e h.symm;exact .inr ⟨by simp[gT],hq,rfl,by simp[G1,gT],fun _=>by simp[gT],rfl,fun _ _ _=>⟨rfl,rfl,rfl⟩⟩
      ·subst hy
       obtain⟨_,p,hp,rfl⟩:=hyo;simp only[G1,aua,Q7] at hp;exact .inl ⟨(true,a),rfl,by rw[hp];exact Pk⟩
      ·rw[dG]
       by_cases e:a=q
       ·exact⟨_,by rw[a4a e]⟩
       ·exact⟨B,by rw[aza e];exact hq⟩
     exact⟨_,G1,_,by rw[hx,e1];exact it,OO.ok hm,fun act=>OO.et,h⟩
    ·cases h
  ·cases h
 ·cases h
theorem S5{S:DB}{m:Bool}{t:Ty}:∀(n:Nat) {l r:List Value},Na (sY t) n l=some r→∃ c,l=c++r∧RepL (fW S m t) c (List.replicate n (pJ t)) []
 |0,l,r,h=>by simp only[Na,OF] at h;subst h;exact⟨[],rfl,rfl,rfl⟩
 |n+1,l,r,h=>by
  simp only[Na] at h;cases h1:sY t l with
  |none=>simp[h1] at h
  |some q=>simp only[h1] at h;obtain⟨c1,e1,g1⟩:=Fk (S:=S) (m:=m) h1;obtain⟨c2,e2,g2⟩:=S5 n h;exact⟨c1++c2,by rw[e1,e2];simp,c1,c2,[],[],rfl,rfl,g1,g2⟩
theorem TV{T:TypeId}{dst:Nat}{K:ab→St→Option R}(h:rF E T dst st K=some r)(hm:ay X st G w){cs:Array Value}(hz:∀ ti,E.ia T=some ti→cs.toList=ti.zero):
  ∃ av st' G',ay X st' G' (w.alloc (.cells cs T))∧(∀ act,bM G st act→bM G' st' act)∧aP G' av (.pointer (some ⟨w.heap.size,0,none⟩))∧K av st' = some r:=by
 unfold rF at h;split at h
 ·rename_i ti hT ha
  split at h
  ·rename_i m e hd
   split at h
   ·rename_i t ht
    cases hc:(Nat.beq t.size 1&&!t.agg&&!st.cZ true dst&&ZH (Na (sY t) ti.size ti.zero)) with
    |false=>rw[hc] at h;cases h
    |true=>
     rw[hc,Q9] at h;have NA:=hc;simp only[Q4,aLa] at NA;obtain⟨⟨⟨h1,h2⟩,h3⟩,h4⟩:=NA;have ZB:RepL (fW G.S false t) cs.toList (List.replicate ti.size (pJ t)) []:=by
      cases hcz:Na (sY t) ti.size ti.zero with
      |none=>rw[hcz] at h4;cases h4
      |some q=>
       cases q with
       |cons=>rw[hcz] at h4;cases h4
       |nil=>obtain⟨c,e1,g1⟩:=S5 hE (S:=G.S) (m:=false) ti.size hcz;rw[a9a] at e1;rw[hz ti hT,e1];exact g1
     obtain⟨G2,m2,r2,hv2,_⟩:=hm.NP (w':=w.alloc (.cells cs T)) (dst:=dst) (C:=[]) (A':=⟨t,.arr,false,List.replicate ti.size (pJ t)⟩) (hd:=.pointer (some ⟨w.heap.size,0,none⟩)) (HH:=[(w.heap.size,.cells cs T)])
      (st':=st.gE dst ⟨t,.arr,false,List.replicate ti.size (pJ t)⟩) (fun c hc=>by cases hc) rfl (.inr (.inr ⟨_,rfl⟩)) (fun G' e1 e2 e3=>⟨w.heap.size,cs,T,e2,e3,by rw[e1];exact ZB⟩) (by simp)
      (fun p hp=>by rw[Q7.1 hp];exact .inr (ava _)) (fun p hp=>by rw[Q7.1 hp];exact uq w _)
      (fun b hb _=>iM w _ hb) (by rw[se];omega) rfl rfl rfl ⟨rfl,fun _=>rfl,fun _=>rfl,fun o j l=>by simp,rfl,rfl,rfl⟩
      (fun q=>by rw[dG];by_cases e:dst=q<;>simp[e,cba (a:=q)]) ha h3
     exact⟨_,_,G2,m2,r2,hv2,h⟩
   ·cases h
  ·cases h
 ·cases h
end ops
end Go.Fx
namespace Go.Fx
theorem KS{S:DB}{m:Bool}:∀{cs:List Value} {l:List Int} {H:fY},RepL (fW S m (.int .u8)) cs l H→cs=l.map (Value.int .u8)
 |cs,[],H,h=>h.1
 |cs,x::l,H,⟨c1,c2,H1,H2,e1,e2,r,rl⟩=>by rw[e1,KS rl,show c1=[.int .u8 x] from r.1];rfl
theorem XJ(l:List Int):l.foldl (fun r n=>r.push (UInt8.ofNat n.toNat)) ByteArray.empty=⟨(l.map fun n=>UInt8.ofNat n.toNat).toArray⟩:=by
 have key:∀(l:List Int) (s:ByteArray),(l.foldl (fun r n=>r.push (UInt8.ofNat n.toNat)) s)=⟨(s.data.toList++l.map fun n=>UInt8.ofNat n.toNat).toArray⟩:=fun l=>by
  induction l with
  |nil=>intro s;simp
  |cons n l ih=>intro s;rw[b0a,ih];simp[ByteArray.push]
 rw[key];simp
theorem QJ{P:Program}{w:World}{S:DB}{b:Nat}{arr:Array Value}{elem:TypeId}{fz:Nat×Nat}{pre cells rest:List Value}{l:List Int}{m:Bool}{H:fY}(cap:Nat)
  (hb:w.heap[b]? = some (.cells arr elem fz)) (he:arr.toList=pre++(cells++rest)) (hr:RepL (fW S m (.int .u8)) cells l H):
  (Conv.bytesToString (.slice (some ⟨b,pre.length,none⟩) l.length cap)).run P w=.ok (kl (l.map fun n=>UInt8.ofNat n.toNat)) w:=by
 have hc:=KS hr;subst hc;have hl:=run_loadCells_list (P:=P) w ⟨b,pre.length,none⟩ (l.map (Value.int .u8)) (fun j v hv=>by
  rw[bQa];simp only[World.cell?,hb];have hj:j<l.length:=by have:=(aja.1 hv).1;simpa using this
  have:arr[pre.length+j]? = some v:=by
   rw[←bsa,he,aPa (by omega),bca,aRa (by simpa using hj)]
   exact hv
  simp[this])
 rw[List.length_map] at hl;rw[run_bytesToString w _ _ cap l (by simpa using hl),XJ];rfl
theorem SW{P:Program}{w:World}{S:DB}(dq:∀ b o,S b=some o→w.heap[b]? = some o){v:Value}{l:List Int}(h:BR S (RepL (fW S false (.int .u8))) [v] l []):
  ∃ a n c,v=.slice a n c∧(Conv.bytesToString v).run P w=.ok (kl (l.map fun n=>UInt8.ofNat n.toNat)) w:=by
 rcases h with ⟨_,⟨rfl,iL,cap,hb⟩|⟨b,cap,arr,elem,fz,pre,cells,rest,e1,e2,e3,e4,e5⟩⟩
 ·simp only[aHa,a7a] at hb
  subst hb;refine⟨_,_,_,rfl,?_⟩;cases iL with
  |none=>simp[Conv.bytesToString,kl];rfl
  |some a=>
   have hl:=run_loadCells_list (P:=P) w a [] (by simp)
   rw[run_bytesToString w a 0 cap [] (by simpa using hl)]
   rfl
 ·simp only[aHa,a7a] at e1
  subst e1;exact⟨_,_,_,rfl,QJ cap (dq _ _ e2) e3 e4⟩
theorem Xr{P:Program}{w:World}{S:DB}{m:Bool}{v:Value}{l:List Int}{H:fY}(hH:∀ p∈H,w.heap[p.1]? = some p.2)(h:kf (RepL (fW S m (.int .u8))) 1 [v] l H):
  ∃ a n c,v=.slice a n c∧(Conv.bytesToString v).run P w=.ok (kl (l.map fun n=>UInt8.ofNat n.toNat)) w:=by
 rcases h with ⟨rfl,rfl,hb⟩|⟨b,cap,arr,elem,cells,rest,H',e1,e2,e3,e4,e5,e6⟩
 ·simp only[aHa,a7a] at hb
  subst hb;exact⟨_,_,_,rfl,by simp[Conv.bytesToString,kl];rfl⟩
 ·simp only[aHa,a7a] at e1
  subst e1;subst e2;exact⟨_,_,_,rfl,QJ (pre:=[]) cap (hH _ (aqa ..)) (by simpa using e3) e6⟩
section ops
variable {P:Program} {E:sb} (hE:iq P E.ia) {X:mz} {st:St} {G:Gh} {w:World} {R:Type} {r:R}
include hE
theorem Jg{S D:TypeId}{x:ab}{vx:Value}{K:ab→St→Option R}(h:pE E S D x st K=some r)(hm:ay X st G w)(hx:aP G x vx):
  ∃ av v,(convert S D vx).run P w=.ok v w∧aP G av v∧K av st=some r:=by
 unfold pE at h;cases hS:E.ia S with
 |none=>simp[hS] at h
 |some si=>
  cases hD:E.ia D with
  |none=>simp[hS,hD] at h
  |some di=>
   simp only[hS,hD] at h;obtain⟨d1,u1,t1⟩:=(hE S _ hS).uZ;obtain⟨d2,u2,t2⟩:=(hE D _ hD).uZ;split at h
   ·rename_i k k' n hd
    rw[hd] at t2;cases d2<;>simp[y8] at t2;subst t2;cases qb (v:=.one (.eV (.int k') n)) rfl hx;refine⟨_,_,?_,kH k _,h⟩;cases d1<;>simp[convert,aCa u1,aCa u2,Conv.intToInt]
   ·rename_i s hs hd
    rw[hd] at t2;rw[hs] at t1;cases d2<;>simp[y8] at t2;cases d1<;>simp[y8] at t1;cases C8 (v:=.one (.eV .str s)) rfl hx;exact⟨_,_,by simp[convert,aCa u1,aCa u2,kl],KH _,h⟩
   ·rename_i _ e lf hs hd
    rw[hd] at t2;rw[hs] at t1;cases d2<;>simp[y8] at t2;cases d1<;>simp[y8] at t1;subst t1;have sw:∀{l':List Int} {s b:Nat} {y:Option Ty} {z:List Value},E.ia e=some ⟨s,b,y,.int .u8,z⟩→(∃ a n c,vx=.slice a n c∧(Conv.bytesToString vx).run P w=.ok (kl (l'.map fun n=>UInt8.ofNat n.toNat)) w)→
      K (.one (.eV .str (l'.map fun n=>UInt8.ofNat n.toNat))) st=some r→∃ av v,(convert S D vx).run P w=.ok v w∧aP G av v∧K av st=some r:=fun {l' _ _ _ _} hT hb hK=>by
     obtain⟨d3,u3,t3⟩:=(hE _ _ hT).uZ;cases d3<;>simp[y8] at t3;subst t3;obtain⟨a,n,c,rfl,it⟩:=hb;exact⟨_,_,by rw[run_convert_bytes_string w S D e a n c u1 u3 u2];exact it,KH _,hK⟩
    split at h
    ·rename_i l' hT
     obtain⟨cs,e1,e2⟩:=hx;simp only[Ty.agg,asa,aca] at e1;subst e1;simp only[fW,asa,aca] at e2;exact sw hT (SW hm.sh e2) h
    ·rename_i a hT
     cases hA:st.arr a with
     |none=>simp[hA] at h
     |some A=>
      simp only[hA] at h;cases hsw:(A.sh||A.pd) with
      |false=>simp[hsw] at h
      |true=>
      simp only[hsw,Q9] at h;split at h
      ·rename_i l' hc
       obtain⟨ec,el⟩:=lC hc;have sy:=hm.ar a _ hA;have hv:vx=G.ψ a:=hx;rw[hv] at sw ⊢;have hah:=hm.ah a _ hA;cases dq:A.sh with
       |true=>
        replace sy:=(xm dq).1 sy
        obtain⟨t,dp,sh,ll⟩:=A;simp only[Ty.slice.injEq] at ec;subst ec;simp only at el;subst el;exact sw hT (SW hm.sh sy) h
       |false=>
        replace sy:=(gR dq (by simpa[dq] using hsw)).1 sy
        replace hah:=hah dq
        generalize A.bK=dp at sy;obtain⟨t,_,sh,ll⟩:=A;simp only[Ty.slice.injEq] at ec;subst ec;simp only at el;subst el;exact sw hT (Xr hah sy) h
      ·cases h
    ·cases h
   ·cases h
theorem Mu{t:TypeId}{ts:List TypeId}{ty:TypeId}{v:Value}{vs:List Value}{s b:Nat}{y:Option Ty}{z:List Value}{e:TypeId}(hT:E.ia t=some ⟨s,b,y,.slice e,z⟩){a:Option Addr}{n c:Nat}(hv:v=.slice a n c):
  (Builtin.len_ (t::ts).toArray ty (v::vs).toArray).run P w=.ok (.int .i64 (n:Int)) w:=by
 have:=(hE _ _ hT).slice;subst hv;simp[Builtin.len_,aCa this];rfl
theorem T0{x:ab}{n:Int}{v:Value}(h:lenOf st x.bN=some n)(hs:x.OB = none)(hm:ay X st G w)(hx:aP G x v):∃ a m c,v=.slice a m c∧n=(m:Int):=by
 cases x with
 |one l=>
  cases l with
  |eV t d=>
   cases t<;>simp[ab.bN,lenOf,ab.OB] at h hs;subst h;obtain⟨cs,e1,e2⟩:=hx;simp only[Ty.agg,asa,aca] at e1;subst e1;simp only[fW,asa,aca] at e2;rcases e2 with ⟨_,⟨rfl,iL,cap,hb⟩|⟨b,cap,arr,elem,fz,pre,cells,rest,e1,_⟩⟩
   ·simp only[aHa,a7a] at hb;exact⟨_,_,_,hb,by simp⟩
   ·simp only[aHa,a7a] at e1;exact⟨_,_,_,e1,rfl⟩
  |nil=>simp[ab.bN,lenOf] at h;subst h;exact⟨_,_,_,hx,rfl⟩
  |mA a=>
   simp only[ab.bN,lenOf] at h;cases hA:st.arr a with
   |none=>simp[hA] at h
   |some A=>
    cases hmp:A.Vd with
    |true=>simp[hA,hmp] at h
    |false=>
    simp only[hA,hmp,ana,OF] at h;subst h;have sy:=hm.ar a A hA;have hv:v=G.ψ a:=hx;cases hs:A.sh with
    |true=>
     rcases(xm hs).1 sy with ⟨_,⟨e0,iL,cap,hb⟩|⟨b,cap,arr,elem,fz,pre,cells,rest,e1,_⟩⟩
     ·simp only[aHa,a7a] at hb;exact⟨_,_,_,hv.trans hb,by rw[e0];simp⟩
     ·simp only[aHa,a7a] at e1;exact⟨_,_,_,hv.trans e1,rfl⟩
    |false=>
     rcases It hs hmp sy with ⟨e0,hb⟩|⟨b,cap,e1⟩
     ·exact⟨_,_,_,hv.trans hb,by rw[e0];simp⟩
     ·exact⟨_,_,_,hv.trans e1,rfl⟩
  |_=>simp[ab.bN,lenOf] at h
 |_=>simp[ab.bN,lenOf] at h
omit hE in
theorem Nq{k:IntKind}:∀{vs:List ab} {us:List Value} {a n:Int},wJ k (fun x y=>bif decide (y<x) then y else x) a vs=some n→All2 (aP G) vs us→
  (us.foldlM Builtin.min2 (.int k a)).run P w=.ok (.int k n) w
 |[],[],a,n,h,_=>by simp[wJ] at h;subst h;simp
 |v::vs,u::us,a,n,h,hr=>by
  simp only[wJ] at h;cases hv:v.FO with
  |none=>simp[hv] at h
  |some p=>obtain⟨k',b⟩:=p;simp only[hv] at h;cases qb hv hr.1;have:=Nq h hr.2;rw[List.foldlM_cons,aKa];simp only[Builtin.min2,a8a,aDa];rw[←this];by_cases hb:b<a<;>simp[hb]
omit hE in
theorem Np{k:IntKind}:∀{vs:List ab} {us:List Value} {a n:Int},wJ k (fun x y=>bif decide (y > x) then y else x) a vs=some n→All2 (aP G) vs us→
  (us.foldlM Builtin.max2 (.int k a)).run P w=.ok (.int k n) w
 |[],[],a,n,h,_=>by simp[wJ] at h;subst h;simp
 |v::vs,u::us,a,n,h,hr=>by
  simp only[wJ] at h;cases hv:v.FO with
  |none=>simp[hv] at h
  |some p=>obtain⟨k',b⟩:=p;simp only[hv] at h;cases qb hv hr.1;have:=Np h hr.2;rw[List.foldlM_cons,aKa];simp only[Builtin.max2,a8a,aDa];rw[←this];by_cases hb:b > a<;>simp[hb]
theorem Qw{a vr sz i off:Nat}{A:jG}{u:Value}{x:A.t.nw}{n:Int}(hm:ay X st G w)(hr:aT G (.Fb a vr sz i off) u)(hA:st.arr a=some A)(hc:(A.sh||!Md.lj A.md .bK||!Nat.beq vr (st.dA a)||!Nat.beq sz A.t.size||!A.t.rE)=false)
  (hx:bA A.l (i:Int)=some x) (hn:C7 A.t x off=some n):∃ b m c,u=.slice b m c∧n=(m:Int):=by
 obtain⟨r1,⟨xb,xn,xc,hus⟩,⟨b0,ahs,adj,r3,r4⟩,r5⟩:=hr;simp only[aEa,bla] at hc;obtain⟨⟨⟨⟨dq,ux⟩,hvr⟩,mF⟩,hna⟩:=hc;have ux:=RA ux;obtain rfl:=Q5 hvr;obtain rfl:=Q5 mF;have hi:A.l[i]? = some x:=by simpa[bA] using hx
 have sy:=(gR dq (show A.pd=true by simp[jG.pd,ux])).1 (hm.ar a A hA)
 rw[show A.bK=true by simp[jG.bK,ux]] at sy
 rcases sy with ⟨e1,_⟩|⟨b',cap',arr,elem,cells,rest,H',e1,e2,e3,e4,e5,e6⟩
 ·rw[e1] at hi;simp at hi
 ·have hhd:=hm.hh a A hA dq (by simp[jG.nest,ux])
  rw[e2] at hhd;obtain⟨pre,cc,post,Hp,Hc,Hq,k1,k2,k3,k4,k5⟩:=RepL.at (fun c x H hr=>fW.size hr) e6 hi;obtain⟨bb,kk,cc0,g1,g2⟩:=Jv hE hna k4 hn;have bq:=(aja.1 g1).1;rw[←hm.hv,hhd] at r5;simp only[kp] at r5;rw[e3,k1,←k2,a1a,aPa (by omega),bca,a1a,aRa bq,g1] at r5
  simp only[OF] at r5;exact⟨_,_,_,r5.symm,g2⟩
theorem R3{b:Builtin}{dst:Nat}{ts:List TypeId}{ty:TypeId}{vs:List ab}{us:List Value}{cs:Array Bool}{K:ab→St→Option R}(h:nB E b dst ts vs st K=some r)(hm:ay X st G w)(hv:All2 (aP G) vs us)(hw:∀ x∈vs,GS st x):
  ∃ av v st' G' w',(builtin b ts.toArray ty cs us.toArray).run P w=.ok (.value v) w'∧ay X st' G' w'∧(∀ act,bM G st act→bM G' st' act)∧aP G' av v∧K av st' = some r:=by
 unfold nB at h;split at h
 ·rename_i v
  obtain⟨u,rfl⟩:∃ u,us=[u]:=by
   cases us with
   |nil=>exact hv.elim
   |cons u us=>cases us with
    |nil=>exact⟨u,rfl⟩
    |cons _ _=>exact hv.2.elim
  cases ts with
  |nil=>simp at h
  |cons t ts=>
   simp only[bba,bOa] at h;split at h
   ·rename_i hT
    split at h
    ·rename_i s hs
     cases C8 hs hv.1;have hu:=(hE _ _ hT).str;exact⟨_,_,st,G,w,by simp[builtin,Builtin.len_,aCa hu,kl,goInt];rfl,hm,fun _ h=>h,kH .i64 _,h⟩
    ·cases h
   ·rename_i hT
    split at h
    ·rename_i a vr sz i off hl
     have hr:=hv.1;rw[show v=.one (.Fb a vr sz i off) by cases v<;>simp[ab.bN] at hl;rw[hl]] at hr
     split at h
     ·rename_i A hA
      cases hc:(A.sh||!Md.lj A.md .bK||!Nat.beq vr (st.dA a)||!Nat.beq sz A.t.size||!A.t.rE) with
      |true=>rw[hc] at h;cases h
      |false=>
       rw[hc,ana] at h;obtain⟨x,hx,h⟩:=awa.1 h;split at h
       ·rename_i n hn
        obtain⟨b,m,c,hv',rfl⟩:=Qw hE hm hr hA hc hx hn;exact⟨_,_,st,G,w,by simp only[builtin,aKa,Mu hE hT hv',aDa,a8a],hm,fun _ h=>h,kH .i64 _,h⟩
       ·cases h
     ·cases h
    ·split at h
     ·rename_i n hn hs
      obtain⟨a,m,c,hv',rfl⟩:=T0 hE hn hs hm hv.1;exact⟨_,_,st,G,w,by simp only[builtin,aKa,Mu hE hT hv',aDa,a8a],hm,fun _ h=>h,kH .i64 _,h⟩
     ·cases h
   ·cases h
 ·rename_i s x
  split at h
  ·rename_i t u
   cases htu:Nat.beq t u with
   |false=>simp[htu] at h
   |true=>
    simp only[htu,Q9] at h;obtain rfl:=Q5 htu;cases us with
    |nil=>exact hv.elim
    |cons u1 us=>
     cases us with
     |nil=>exact hv.2.elim
     |cons u2 us=>
      cases us with
      |cons _ _=>exact hv.2.2.elim
      |nil=>
       obtain⟨av,v,st',G',w',h1,h2,h3,h4,h5⟩:=R2 hE (ty:=ty) h hm hv.1 hv.2.1 (hw _ (by simp)) (hw _ (by simp))
       exact⟨av,v,st',G',w',by simp only[builtin,aKa,h1,aDa,a8a],h2,h3,h4,h5⟩
  ·cases h
 ·rename_i v vs
  cases us with
  |nil=>exact hv.elim
  |cons u us=>
   split at h
   ·rename_i k a hi
    split at h
    ·rename_i n hn
     cases qb hi hv.1;exact⟨_,_,st,G,w,by simp only[builtin,Builtin.min_,aKa,Nq hn hv.2,aDa,a8a],hm,fun _ h=>h,kH _ _,h⟩
    ·cases h
   ·cases h
 ·rename_i v vs
  cases us with
  |nil=>exact hv.elim
  |cons u us=>
   split at h
   ·rename_i k a hi
    split at h
    ·rename_i n hn
     cases qb hi hv.1;exact⟨_,_,st,G,w,by simp only[builtin,Builtin.max_,aKa,Np hn hv.2,aDa,a8a],hm,fun _ h=>h,kH _ _,h⟩
    ·cases h
   ·cases h
 ·cases h
end ops
end Go.Fx
namespace Go.Fx
theorem Vr{G:Gh}(v:Value):aP G (Mo v) v:=by
 unfold Mo;split
 ·exact kH _ _
 ·exact ot _
 ·rename_i s
  have:kl s.data.toList=.string s:=by simp[kl]
  rw[←this];exact KH _
 ·rfl
 ·rfl
 ·trivial
def nv(gt:Nat→Option GA)(S:DB):Prop:=∀ g D,gt g=some D→∃ arr elem fz,S g=some (.cells arr elem fz)∧RepL (fW S false D.t) arr.toList D.l []
theorem nv.mono{gt:Nat→Option GA}{S S':DB}(h:nv gt S)(hS:∀ b o,S b=some o→S' b=some o):nv gt S':=fun g D hg=>by obtain⟨arr,elem,fz,h1,h3⟩:=h g D hg;exact⟨arr,elem,fz,hS _ _ h1,h3.El hS⟩
theorem fw{E:sb}{G:Gh}{st:St}{act:Act}(hg:nv E.gt G.S)(hr:bM G st act)(o:Operand):aP G (ev E st o) (act.eval o):=by
 cases o with
 |tmp t=>
  simp only[ev,Act.eval];cases h:st.ib t with
  |none=>trivial
  |some v=>exact hr.2.2 t v h
 |const v=>exact Vr v
 |global g=>
  simp only[ev,Act.eval];cases h:E.gt g with
  |none=>trivial
  |some D=>obtain⟨arr,elem,fz,h1,h3⟩:=hg g D h;exact⟨g,arr,elem,fz,arr.toList,[],h1,by simp,h3,rfl⟩
 |func f=>rfl
theorem P7{E:sb}{st:St}(o:Operand):GS st (ev E st o):=fun k y h=>by
 cases o with
 |tmp t=>
  simp only[ev];cases hr:st.ib t with
  |none=>rfl
  |some v=>exact Bu h hr
 |const v=>simp only[ev,Mo];split<;>rfl
 |global g=>simp only[ev];cases E.gt g<;>rfl
 |func f=>rfl
def AR(P:Program)(gt:Nat→Option GA)(f:FuncId)(s:iX):Prop:=
 ∀{R:Type} {r:R} {X:mz} {st:St} {G:Gh} {w:World} {dst:Nat} {args:List ab} {vs:List Value} {K KP:ab→St→Option R},
  s.run dst args st K KP=some r→nv gt X.S0→ay X st G w→(∃ act,bM G st act)→All2 (aP G) args vs→
  (callFunc f vs.toArray).run P w=.ok (.enter f vs.toArray) w∧Calls P f vs.toArray w fun e w'=>match e with
   |.returned v=>∃ av st' G',ay X st' G' w'∧(∀ act,bM G st act→bM G' st' act)∧aP G' av v∧K av st' = some r
   |.panicked IC=>∃ v,IC=[{v,recovered:=false}]∧∃ av st' G',ay X st' G' w'∧aP G' av v∧KP av st' = some r
   |.outgrown=>False
theorem RW{E:sb}{G:Gh}{st:St}{act:Act}(hg:nv E.gt G.S)(hr:bM G st act):∀ l:List Operand,All2 (aP G) (l.map (ev E st)) (l.map act.eval)
 |[]=>trivial
 |x::l=>⟨fw hg hr x,RW hg hr l⟩
theorem Ja{E:sb}{G:Gh}{st:St}{act:Act}(hg:nv E.gt G.S)(hr:bM G st act):∀ l:List (Nat×Operand),All2 (fun(p:Nat×ab) (q:Nat×Value)=>p.1=q.1∧aP G p.2 q.2) (l.map fun p=>(p.1,ev E st p.2)) (l.map fun p=>(p.1,act.eval p.2))
 |[]=>trivial
 |x::l=>⟨⟨rfl,fw hg hr x.2⟩,Ja hg hr l⟩
section ops
variable {P:Program} {E:sb} (hE:iq P E.ia) (hS:∀ f s,E.BA f=some s→AR P E.gt f s) {X:mz} {st:St} {G:Gh} {w:World} {R:Type} {r:R}
include hE hS
set_option maxHeartbeats 2000000 in
theorem II{o:Oper}{act:Act}{K KP:ab→St→Option R}(h:lY E o st K KP=some r)(zd:nv E.gt X.S0)(hm:ay X st G w)(hr:bM G st act){next:Act→World→Prop}{Q:Exit→Act→World→Prop}
  (hK:∀ av v st' G' w',ay X st' G' w'→bM G' st' act→aP G' av v→K av st' = some r→next (act.put o.dst v) w')
  (hP:∀ av v st' G' w',ay X st' G' w'→aP G' av v→KP av st' = some r→Q (.panic [{v,recovered:=false}]) act w'):o.wp P act w next Q:=by
 have hg:nv E.gt G.S:=zd.mono hm.s0;have ld:∀{s:Sem Value},(∃ av v,s.run P w=.ok v w∧aP G av v∧K av st=some r)→(execOp act.eval o=do pure (.value (←s)))→o.wp P act w next Q:=fun {s} ⟨av,v,h1,h2,h3⟩ he=>by unfold Oper.wp;rw[he,aKa,h1];exact hK av v st G w hm hr h2 h3
 have full:∀{s:Sem Value},(∃ av v st' G' w',s.run P w=.ok v w'∧ay X st' G' w'∧(∀ act,bM G st act→bM G' st' act)∧aP G' av v∧K av st' = some r)→(execOp act.eval o=do pure (.value (←s)))→o.wp P act w next Q:=
  fun {s} ⟨av,v,st',G',w',h1,h2,h3,h4,h5⟩ he=>by
  unfold Oper.wp;rw[he,aKa,h1];exact hK av v st' G' w' h2 (h3 _ hr) h4 h5
 unfold lY at h;split at h
 ·rename_i x ho
  exact ld (s:=pure (act.eval x)) ⟨_,_,rfl,fw hg hr x,h⟩ (by simp[execOp,ho])
 ·rename_i x ho
  exact ld (s:=pure (act.eval x)) ⟨_,_,rfl,fw hg hr x,h⟩ (by simp[execOp,ho])
 ·rename_i c a b ho
  cases hc:(ev E st c).F4 with
  |none=>simp[hc] at h
  |some b'=>
   simp only[hc] at h;have hb:=vM hc (fw hg hr c);unfold Oper.wp;simp only[execOp,ho,hb];cases b' with
   |true=>simp only[Q9] at h;exact hK _ _ st G w hm hr (fw hg hr a) h
   |false=>simp only[ana] at h;exact hK _ _ st G w hm hr (fw hg hr b) h
 ·rename_i x ho
  have hx:=fw hg hr x;have key:(∃ a,act.eval x=.pointer (some a))→K (ev E st x) st=some r→o.wp P act w next Q:=fun⟨a,ha⟩ hk=>by unfold Oper.wp;simp only[execOp,ho,ha];exact hK _ _ st G w hm hr (by rw[←ha];exact hx) hk
  cases hv:ev E st x with
  |one l=>
   rw[hv] at h hx key;cases l with
   |np ob off=>exact key ⟨_,hx⟩ (by simpa[ab.bN] using h)
   |DT a sz i off=>obtain⟨b,len,cap,h1,h2,h3⟩:=hx;exact key ⟨_,h3⟩ (by simpa[ab.bN] using h)
   |PK t d off=>obtain⟨b,arr,elem,fz,pre,cs,post,h1,h2,h3,h4⟩:=hx;exact key ⟨_,h4⟩ (by simpa[ab.bN] using h)
   |_=>simp[ab.bN] at h
  |_=>rw[hv] at h;simp[ab.bN] at h
 ·rename_i T ho
  cases hdp:E.KT (IF o.dst) with
  |true=>
   rw[hdp,Q9] at h;have hT:∃ ti,E.ia T=some ti:=by
    cases hT:E.ia T with
    |none=>simp[rF,hT] at h
    |some ti=>exact⟨ti,rfl⟩
   obtain⟨ti,hT⟩:=hT;obtain⟨i,d,z,h1,h2,h3,h4,h5,h6,h7,h8,h9⟩:=hE T ti hT;obtain⟨av,st',G',m,rr,rv,hk⟩:=TV hE (w:=w) (cs:=z.cells) h hm (fun ti' hT'=>by rw[hT] at hT';cases hT';exact h6)
   refine full (s:=Instr.alloc T true (.tuple #[])) ⟨av,_,st',G',_,?_,m,rr,rv,hk⟩ (by simp only[execOp,ho])
   simp[Instr.alloc,zeroValue,typeInfo,h1,h5,newVar,newRow]
  |false=>
  rw[hdp,ana] at h;cases hT:E.ia T with
  |none=>simp[hT] at h
  |some ti=>
   simp only[hT] at h;obtain⟨i,d,z,h1,h2,h3,h4,h5,h6,h7,h8,h9⟩:=hE T ti hT;obtain⟨av,st',G',m,rr,rv,hk⟩:=T2 (w:=w) (cs:=z.cells) h hm (by rw[h6];exact Sz ti.zero)
   refine full (s:=Instr.alloc T true (.tuple #[])) ⟨av,_,st',G',_,?_,m,rr,rv,hk⟩ (by simp only[execOp,ho])
   simp[Instr.alloc,zeroValue,typeInfo,h1,h5,newVar,newRow]
 ·rename_i T x ho
  cases hl:(ev E st x).pH with
  |none=>simp[hl] at h
  |some ls=>
   simp only[hl] at h;obtain⟨av,st',G',m,rr,rv,hk⟩:=T2 (w:=w) (cs:=(act.eval x).cells) h hm (mv hm hl (fw hg hr x));refine full (s:=Instr.box T (act.eval x)) ⟨av,_,st',G',_,?_,m,rr,rv,hk⟩ (by simp only[execOp,ho])
   simp[Instr.box,newVar,newRow]
 ·rename_i T hZ ho
  refine ld (N9 hE h hm (Ja hg hr _)) ?_;have:(List.map (fun p=>(p.1,act.eval p.2)) hZ.toList).toArray=hZ.map fun(i,x)=>(i,act.eval x):=by rw[←bMa]
  rw[this];simp only[execOp,ho]
 ·rename_i T len hZ ho
  have h':∃ av v st' G' w',(Instr.buildSlice T len ((hZ.toList.map fun p=>(p.1,act.eval p.2)).toArray)).run P w=.ok v w'∧ay X st' G' w'∧(∀ act,bM G st act→bM G' st' act)∧aP G' av v∧K av st' = some r:=by
   cases hd:E.KT (IF o.dst) with
   |true=>rw[hd,Q9] at h;exact KA hE h hm (Ja hg hr _)
   |false=>rw[hd,ana] at h;exact LZ hE h hm (Ja hg hr _)
  refine full h' ?_;have:(List.map (fun p=>(p.1,act.eval p.2)) hZ.toList).toArray=hZ.map fun(i,x)=>(i,act.eval x):=by rw[←bMa]
  rw[this];simp only[execOp,ho]
 ·rename_i T x ho
  exact ld (KC hE h hm (fw hg hr x)) (by simp only[execOp,ho])
 ·rename_i T x v ho
  obtain⟨st',G',w',h1,h2,h3,h4⟩:=T6 hE h hm (fw hg hr x) (fw hg hr v) (P7 v);unfold Oper.wp;simp only[execOp,ho,aKa,h1,aDa];exact hK _ _ st' G' w' h2 (h3 _ hr) (show aP G' (.one .uZ) undef from rfl) h4
 ·rename_i op T x y u ho
  exact ld (TW hE h hm (fw hg hr x) (fw hg hr y)) (by simp only[execOp,ho];rfl)
 ·rename_i op T x ho
  exact ld (WN h (fw hg hr x)) (by simp only[execOp,ho])
 ·rename_i S D x ho
  exact ld (Jg hE h hm (fw hg hr x)) (by simp only[execOp,ho])
 ·rename_i T l c ho
  exact full (Of hE h hm (fw hg hr l) (fw hg hr c)) (by simp only[execOp,ho])
 ·rename_i T x lo hi mx ho
  have opt:∀(q:Option Operand),(∀ a,q.map (ev E st)=some a→∃ v,q.map act.eval=some v∧aP G a v)∧(q.map (ev E st)=none→q.map act.eval=none):=fun q=>by
   cases q with
   |none=>simp
   |some x=>simp;exact fw hg hr x
  obtain⟨av,v,st',G',h1,h2,h3,h4,h5⟩:=Oi hE h hm (fw hg hr x) (opt lo).1 (opt lo).2 (opt hi).1 (opt hi).2 (opt mx).2;exact full ⟨av,v,st',G',w,h1,h2,h3,h4,h5⟩ (by simp only[execOp,ho])
 ·rename_i T x f ho
  exact ld (Eu hE h (fw hg hr x)) (by simp only[execOp,ho])
 ·rename_i T x f ho
  cases ha:(ev E st x).isAgg with
  |false=>simp[ha] at h
  |true=>simp only[ha,Q9] at h;exact ld (Oc hE h hm (fw hg hr x) (Eb ha (fw hg hr x))) (by simp only[execOp,ho])
 ·rename_i T x i ho
  exact ld (Ew hE h hm (fw hg hr x) (fw hg hr i)) (by simp only[execOp,ho])
 ·rename_i T x i ho
  exact ld (Od hE h (fw hg hr x) (fw hg hr i)) (by simp only[execOp,ho])
 ·rename_i x n ho
  have hx:=fw hg hr x;split at h
  ·rename_i vs hv
   rw[hv] at hx;obtain⟨us,hu,ha⟩:=hx;cases hn:vs[n]? with
   |none=>simp[hn] at h
   |some p=>
    simp only[hn] at h;obtain⟨u,hu2,hp⟩:=ha.wh hn;refine ld (s:=Instr.extract (act.eval x) n) ⟨_,u,by simp[Instr.extract,hu,hu2],?_,h⟩ (by simp only[execOp,ho])
    unfold Ex;split at hp
    ·rename_i hc;simp only[hc,Q9];exact hp
    ·rename_i hc
     obtain⟨l,e,hl⟩:=hp;simp only[bva] at hc;simp only[hc,ana,e];exact hl
  ·cases h
 ·rename_i c ho
  split at h
  ·rename_i b hb
   have xX:=RW hg hr c.args.toList;obtain⟨cs0,Hn⟩:∃ cs0,(execOp act.eval o).run P w=(builtin b c.argTypes o.type cs0 (c.args.map act.eval)).run P w:=
    ⟨_,by simp only[execOp,ho,resolve,hb,aKa,a8a,aDa,invoke];rfl⟩
   obtain⟨av,v,st',G',w',h1,h2,h3,h4,h5⟩:=R3 hE (ty:=o.type) (cs:=cs0) h hm xX (fun x hx=>by obtain⟨y,_,rfl⟩:=aXa.1 hx;exact P7 y)
   have e1:(List.map act.eval c.args.toList).toArray=c.args.map act.eval:=by rw[←bMa]
   rw[e1] at h1;have e2:c.argTypes.toList.toArray=c.argTypes:=by simp
   rw[e2] at h1;unfold Oper.wp;rw[Hn,h1];exact hK _ _ st' G' w' h2 (h3 _ hr) h4 h5
  ·rename_i f hb
   cases hs:E.BA f with
   |none=>simp[hs] at h
   |some s=>
    simp only[hs] at h;obtain⟨h1,h2⟩:=hS f s hs h zd hm ⟨act,hr⟩ (RW hg hr c.args.toList);have e1:(List.map act.eval c.args.toList).toArray=c.args.map act.eval:=by rw[←bMa]
    rw[e1] at h1 h2;unfold Oper.wp;simp only[execOp,ho,resolve,hb,aKa,a8a,aDa,invoke,Act.eval,Deferred.ofValue,Array.append_empty,Array.empty_append,h1,Oper.upon];refine Calls.mono h2 fun e w'' he=>?_;cases e with
    |returned v=>obtain⟨av,st',G',g1,g2,g3,g4⟩:=he;exact hK _ _ st' G' _ g1 (g2 _ hr) g3 g4
    |panicked IC=>obtain⟨v,rfl,av,st',G',g1,g3,g4⟩:=he;exact hP _ _ st' G' _ g1 g3 g4
    |outgrown=>exact he.elim
  ·cases h
 ·rename_i T x ho
  cases hT:E.ia T with
  |none=>simp[hT] at h
  |some ti=>
   simp only[hT] at h;obtain⟨d,u1,u2⟩:=(hE T ti hT).uZ;split at h
   ·cases h
   ·rename_i ls hl hd
    refine ld (s:=Instr.makeInterface T (act.eval x)) ⟨.Ak T ls,.iface T (act.eval x),?_,⟨_,_,rfl,rfl,mv hm hl (fw hg hr x)⟩,h⟩ (by simp only[execOp,ho])
    simp only[Instr.makeInterface,aKa,aCa u1,aDa];generalize ti.iz=q at u2 hd;cases d with
    |interface _=>cases q<;>first|exact u2.elim|exact(hd rfl).elim
    |_=>rfl
   ·cases h
 ·rename_i x ho
  have hx:=fw hg hr x;split at h
  ·rename_i t ls hv
   rw[hv] at hx;obtain⟨u,cs,h1,h2,h3⟩:=hx;unfold Oper.wp;simp only[execOp,ho,h1,Instr.panic,goPanic,aKa];exact hP (.Ak t ls) (.iface t u) st G w hm ⟨u,cs,rfl,h2,h3⟩ h
  ·cases h
 ·rename_i T ho
  exact full (R6 hE h hm) (by simp only[execOp,ho,Option.map_none])
 ·rename_i T x k ho
  exact ld (T1 hE h hm (fw hg hr x) (fw hg hr k)) (by simp only[execOp,ho])
 ·rename_i T x k v ho
  obtain⟨st',G',w',h1,h2,h3,h4⟩:=Og hE h hm (fw hg hr x) (fw hg hr k) (fw hg hr v);unfold Oper.wp;simp only[execOp,ho,aKa,h1,aDa];exact hK _ _ st' G' w' h2 (h3 _ hr) (show aP G' (.one .uZ) undef from rfl) h4
 ·cases h
end ops
end Go.Fx
namespace Go.Fx
structure Out where
 v:ab
 s:St
 ok:Bool
def oc(v:ab)(s:St):Option Out:=some ⟨v,s,true⟩
def PE(v:ab)(s:St):Option Out:=some ⟨v,s,false⟩
def sw{R:Type}(K KP:ab→St→Option R)(o:Out):Option R:=bif o.ok then K o.v o.s else KP o.v o.s
theorem db{α β:Type}{c:Bool}{a b:Option β}{a' b':Option α}{f:α→Option β}(h:a=a'.bind f)(k:b=b'.bind f):cond c a b=(cond c a' b').bind f:=by cases c<;>simpa
theorem fF{α β γ:Type}{x:Option γ}{g:γ→Option β}{g':γ→Option α}{f:α→Option β}(h:∀ y,g y=(g' y).bind f):x.bind g=(x.bind g').bind f:=by
 cases x with
 |none=>rfl
 |some y=>exact h y
def oS(s:iX):Prop:=∀{R:Type} (dst:Nat) (args:List ab) (st:St) (K KP:ab→St→Option R),
 s.run dst args st K KP=(s.run dst args st oc PE).bind (sw K KP)
def agb(L:lm):Prop:=True
section
variable {E:sb} {R:Type} {st:St} {T:TypeId} {x y v:ab} {dst:Nat} {K KP:ab→St→Option R}
theorem Vu:yM E T x st K=(yM E T x st oc).bind (sw K KP):=by
 unfold yM
 repeat' (first|rfl|apply db|apply fF|intro _|split)
theorem L0{f:Nat}:nL E T x f st K=(nL E T x f st oc).bind (sw K KP):=by
 unfold nL
 repeat' (first|rfl|apply db|apply fF|intro _|split)
theorem TY{f:Nat}:wZ E T x f st K=(wZ E T x f st oc).bind (sw K KP):=by
 unfold wZ
 repeat' (first|rfl|apply db|apply fF|intro _|split)
theorem L1:mn E T x y st K=(mn E T x y st oc).bind (sw K KP):=by
 unfold mn
 repeat' (first|rfl|apply db|apply fF|intro _|split)
theorem TZ:xa E T x y st K=(xa E T x y st oc).bind (sw K KP):=by
 unfold xa
 repeat' (first|rfl|apply db|apply fF|intro _|split)
theorem T7:xd E T x v st (fun st'=>K (.one .uZ) st')=(xd E T x v st (fun st'=>oc (.one .uZ) st')).bind (sw K KP):=by
 unfold xd
 repeat' (first|rfl|apply db|apply fF|intro _|split)
theorem T3{lo hi mx:Option ab}:tI E T dst x lo hi mx st K=(tI E T dst x lo hi mx st oc).bind (sw K KP):=by
 unfold tI
 repeat' (first|rfl|apply db|apply fF|intro _|split)
theorem X8{op:BinOp}:K5 E op T x y (fun v=>K v st)=(K5 E op T x y (fun v=>oc v st)).bind (sw K KP):=by
 unfold K5
 repeat' (first|rfl|apply db|apply fF|intro _|split)
theorem aab{op:UnOp}:T8 op x (fun v=>K v st)=(T8 op x (fun v=>oc v st)).bind (sw K KP):=by
 unfold T8
 repeat' (first|rfl|apply db|apply fF|intro _|split)
theorem Pw{S D:TypeId}:pE E S D x st K=(pE E S D x st oc).bind (sw K KP):=by
 unfold pE
 repeat' (first|rfl|apply db|apply fF|intro _|split)
theorem TX{ps:List (Nat×ab)}:wY E T ps st K=(wY E T ps st oc).bind (sw K KP):=by
 unfold wY
 repeat' (first|rfl|apply db|apply fF|intro _|split)
theorem KB{len:Nat}{ps:List (Nat×ab)}:mi E T dst len ps st K=(mi E T dst len ps st oc).bind (sw K KP):=by
 unfold mi
 repeat' (first|rfl|apply db|apply fF|intro _|split)
theorem L2:nM E T dst x y st K=(nM E T dst x y st oc).bind (sw K KP):=by
 unfold nM
 repeat' (first|rfl|apply db|apply fF|intro _|split)
theorem Qy{o:Nat}{ls:List ag}:Gi E T o ls st K=(Gi E T o ls st oc).bind (sw K KP):=by
 unfold Gi
 repeat' (first|rfl|apply db|apply fF|intro _|split)
theorem Jc:rG E T dst x y st K=(rG E T dst x y st oc).bind (sw K KP):=by
 unfold rG
 repeat' (first|rfl|apply db|apply fF|intro _|split)
theorem Jd{len:Nat}{ps:List (Nat×ab)}:kN E T dst len ps st K=(kN E T dst len ps st oc).bind (sw K KP):=by
 unfold kN
 repeat' (first|rfl|apply db|apply fF|intro _|split)
theorem Pt{b:Nat}:qG E T dst x b st K=(qG E T dst x b st oc).bind (sw K KP):=by
 unfold qG
 repeat' (first|rfl|apply db|apply fF|intro _|split)
theorem Jj{α β:Type}{a i o:Nat}{K:St→Option β}{K':St→Option α}{f:α→Option β}(h:∀ s,K s=(K' s).bind f):FU st a i o K=(FU st a i o K').bind f:=by
 unfold FU
 repeat' (first|rfl|exact h _|apply db|apply fF|intro _|split)
theorem QV{α β:Type}{a sz i:Nat}{K:St→Option β}{K':St→Option α}{f:α→Option β}(h:∀ s,K s=(K' s).bind f):BF st a sz i K=(BF st a sz i K').bind f:=by unfold BF;exact db (h _) rfl
theorem S7{α β:Type}{a o:Nat}{K:St→Option β}{K':St→Option α}{f:α→Option β}(h:∀ s,K s=(K' s).bind f):A0 st a o K=(A0 st a o K').bind f:=by
 unfold A0
 repeat' (first|rfl|exact h _|apply db|apply fF|intro _|split)
theorem Pu:qH E T dst x y st K=(qH E T dst x y st oc).bind (sw K KP):=by
 unfold qH;split
 ·exact Pt
 ·split
  ·exact db (Jj fun s=>QV fun s=>Jc) rfl
  ·exact Jc
theorem R8{a sz i off:Nat}{K:St→Option R}{K':St→Option Out}{f:Out→Option R}(h:∀ s,K s=(K' s).bind f):tJ E T a sz i off v st K=(tJ E T a sz i off v st K').bind f:=by
 unfold tJ
 repeat' (first|rfl|exact S7 h|(apply Jj)|(apply QV)|apply db|apply fF|intro _|split)
theorem R9{a k:Nat}{K:St→Option R}{K':St→Option Out}{f:Out→Option R}(h:∀ s,K s=(K' s).bind f):tK E T a k v st K=(tK E T a k v st K').bind f:=by
 unfold tK
 repeat' (first|rfl|exact h _|apply db|apply fF|intro _|split)
theorem Sa:tL E T x v st (fun st'=>K (.one .uZ) st')=(tL E T x v st (fun st'=>oc (.one .uZ) st')).bind (sw K KP):=by
 unfold tL;split
 ·exact R8 fun s=>rfl
 ·split
  ·exact R9 fun s=>rfl
  ·exact T7
theorem Pv{b:Builtin}{ts:List TypeId}{vs:List ab}:nB E b dst ts vs st K=(nB E b dst ts vs st oc).bind (sw K KP):=by
 unfold nB
 repeat' (first|rfl|exact Pu|apply db|apply fF|intro _|split)
theorem R0:rF E T dst st K=(rF E T dst st oc).bind (sw K KP):=by
 unfold rF
 repeat' (first|rfl|apply db|apply fF|intro _|split)
theorem Py:qI E T dst st K=(qI E T dst st oc).bind (sw K KP):=by
 unfold qI
 repeat' (first|rfl|apply db|apply fF|intro _|split)
theorem R4:tH E T x y st K=(tH E T x y st oc).bind (sw K KP):=by
 unfold tH
 repeat' (first|rfl|apply db|apply fF|intro _|split)
theorem L3:nN E T x y v st K=(nN E T x y v st oc).bind (sw K KP):=by
 unfold nN
 repeat' (first|rfl|apply db|apply fF|intro _|split)
theorem P8(hS:∀ f s,E.BA f=some s→oS s){o:Oper}:lY E o st K KP=(lY E o st oc PE).bind (sw K KP):=by
 unfold lY;split
 ·rfl
 ·rfl
 ·split
  ·exact db rfl rfl
  ·rfl
 ·split<;>rfl
 ·refine db R0 ?_
  split
  ·exact Qy
  ·rfl
 ·split
  ·exact Qy
  ·rfl
 ·exact TX
 ·exact db Jd KB
 ·exact Vu
 ·exact Sa
 ·exact X8
 ·exact aab
 ·exact Pw
 ·exact L2
 ·exact T3
 ·exact L0
 ·exact db TY rfl
 ·exact L1
 ·exact TZ
 ·split
  ·split
   ·rfl
   ·rfl
  ·rfl
 ·split
  ·exact Pv
  ·split
   ·rename_i s hs;exact hS _ s hs _ _ _ _ _
   ·rfl
  ·rfl
 ·split
  ·split<;>rfl
  ·rfl
 ·split<;>rfl
 ·exact Py
 ·exact R4
 ·exact L3
 ·rfl
end
def HD(E:sb)(o:Oper)(st:St):Option Out:=lY E o st oc PE
theorem A3{E:sb}(hS:∀ f s,E.BA f=some s→oS s){o:Oper}{st:St}{R:Type}{K KP:ab→St→Option R}{r:R}(h:lY E o st K KP=some r):
  ∃ u,HD E o st=some u∧sw K KP u=some r:=by
 rw[P8 hS] at h;exact awa.1 h
theorem BZ{E:sb}(hS:∀ f s,E.BA f=some s→oS s){o:Oper}{st:St}{R:Type}{K KP:ab→St→Option R}{u:Out}(h:HD E o st=some u):lY E o st K KP=sw K KP u:=by rw[P8 hS];unfold HD at h;rw[h];rfl
end Go.Fx
namespace Go.Fx
def ke(st s:St):Prop:=s.n=st.n∧s.jh=st.jh∧s.cD=st.cD∧(s.fK,s.pin)=(st.fK,st.pin)
theorem ke.refl(st:St):ke st st:=⟨rfl,rfl,rfl,rfl⟩
theorem ke.trans{a b c:St}(h:ke a b)(k:ke b c):ke a c:=⟨k.1.trans h.1,k.2.1.trans h.2.1,k.2.2.1.trans h.2.2.1,k.2.2.2.trans h.2.2.2⟩
def pO.agD(p:pO)(o j:Nat):Prop:=match p with | .o ob off n=>ob=o∧off≤j∧j<off+n|_=>False
structure qA(W:List pO)(st s:St):Prop where
 iL:ke st s
 et:s.et=st.et
 dL:∀ o ls,st.dL o=some ls→pO.k o∉W→pO.all∉W→∃ wX,s.dL o=some wX∧wX.length=ls.length∧∀ j,(∀ q∈W,¬ q.agD o j)→wX[j]? = ls[j]?
 arr:∀ a A,st.arr a=some A→pO.a a∉W→pO.all∉W→s.arr a=some A
 ER:∀ a,pO.a a∉W→pO.all∉W→s.dA a=st.dA a
theorem qA.refl(W:List pO)(st:St):qA W st st:=⟨.refl _,rfl,fun o ls h _ _=>⟨ls,h,rfl,fun _ _=>rfl⟩,fun _ _ h _ _=>h,fun _ _ _=>rfl⟩
theorem qA.any{st s:St}(h:ke st s)(hr:s.et=st.et):qA [.all] st s:=
 ⟨h,hr,fun _ _ _ _ h=>absurd (Q7.2 rfl) h,fun _ _ _ _ h=>absurd (Q7.2 rfl) h,fun _ _ h=>absurd (Q7.2 rfl) h⟩
theorem qA.trans{W:List pO}{a b c:St}(h:qA W a b)(k:qA W b c):qA W a c:=
 ⟨h.iL.trans k.iL,k.et.trans h.et,fun o ls hl hk ha=>by
  obtain⟨l1,h1,h2,h3⟩:=h.dL o ls hl hk ha;obtain⟨l2,k1,k2,k3⟩:=k.dL o l1 h1 hk ha;exact⟨l2,k1,k2.trans h2,fun j hj=>(k3 j hj).trans (h3 j hj)⟩,fun x A hA hn ha=>k.arr x A (h.arr x A hA hn ha) hn ha,fun x hn ha=>(k.ER x hn ha).trans (h.ER x hn ha)⟩
theorem qA.mono{W W':List pO}{a b:St}(h:qA W a b)(hs:∀ q∈W,q∈W'):qA W' a b:=
 ⟨h.iL,h.et,fun o ls hl hk ha=>by
  obtain⟨l1,h1,h2,h3⟩:=h.dL o ls hl (fun hq=>hk (hs _ hq)) (fun hq=>ha (hs _ hq));exact⟨l1,h1,h2,fun j hj=>h3 j fun q hq=>hj q (hs q hq)⟩,fun x A hA hn ha=>h.arr x A hA (fun hq=>hn (hs _ hq)) (fun hq=>ha (hs _ hq)),fun x hn ha=>h.ER x (fun hq=>hn (hs _ hq)) (fun hq=>ha (hs _ hq))⟩
theorem qA.Vp{W:List pO}{st s:St}{o:Nat}{ls:List ag}(h:qA W st s)(ho:s.dL o=none):qA W st (s.qk o ls):=
 h.trans ⟨⟨rfl,rfl,rfl,rfl⟩,rfl,fun q l hl _ _=>⟨l,by rw[kG,aza (fun e=>by subst e;rw[ho] at hl;cases hl)];exact hl,rfl,fun _ _=>rfl⟩,fun a A hA _ _=>hA,fun _ _ _=>rfl⟩
theorem qA.Ar{W:List pO}{st s:St}{a:Nat}{A:jG}(h:qA W st s)(ha:s.arr a=none):qA W st (s.gE a A):=
 h.trans ⟨⟨rfl,rfl,rfl,rfl⟩,rfl,fun q l hl _ _=>⟨l,hl,rfl,fun _ _=>rfl⟩,fun x B hB _ _=>by rw[dG,aza (fun e=>by subst e;rw[ha] at hB;cases hB)];exact hB,fun _ _ _=>rfl⟩
theorem qA.gE{W:List pO}{st s:St}{a:Nat}{A:jG}(h:qA W st s)(ha:pO.a a∈W):qA W st (s.gE a A):=
 h.trans ⟨⟨rfl,rfl,rfl,rfl⟩,rfl,fun q l hl _ _=>⟨l,hl,rfl,fun _ _=>rfl⟩,fun x B hB hn _=>by rw[dG,aza (fun e=>by subst e;exact hn ha)];exact hB,fun _ _ _=>rfl⟩
theorem qA.Oq{W:List pO}{st s:St}{a dst:Nat}{A:jG}(h:qA W st s)(ha:pO.a a∈W)(hd:s.arr dst=none):qA W st {s with cM:=(dst,A)::F7 s.cM a}:=
 h.trans ⟨⟨rfl,rfl,rfl,rfl⟩,rfl,fun q l hl _ _=>⟨l,hl,rfl,fun _ _=>rfl⟩,fun x B hB hn _=>by
  have e1:x≠a:=fun e=>by subst e;exact hn ha
  have e2:x≠dst:=fun e=>by subst e;rw[hd] at hB;cases hB
  simp only[St.arr,au,qe,aza (bxa e1),aza (bxa e2)];exact hB,fun _ _ _=>rfl⟩
theorem aS{α:Type}{c:Bool}{a a' b b':α}(h:a=a')(k:b=b'):cond c a b=cond c a' b':=by rw[h,k]
theorem uu{α:Type}{c:Bool}{a a' b b':α}(h:c=true→a=a')(k:c=false→b=b'):cond c a b=cond c a' b':=by
 cases c
 ·exact k rfl
 ·exact h rfl
theorem dR{α β:Type}{x:Option α}{f g:α→Option β}(h:∀ y,f y=g y):x.bind f=x.bind g:=by rw[funext h]
section
variable {E:sb} {R:Type} {st:St} {T:TypeId} {x y v:ab} {dst:Nat}
theorem K6{K K':ab→St→Option R}(h:∀ v,K v st=K' v st):yM E T x st K=yM E T x st K':=by
 unfold yM
 repeat' (first|rfl|exact h _|apply aS|apply dR|intro _|split)
theorem Bw{f:Nat}{K K':ab→St→Option R}(h:∀ v,K v st=K' v st):nL E T x f st K=nL E T x f st K':=by
 unfold nL
 repeat' (first|rfl|exact h _|apply aS|apply dR|intro _|split)
theorem Jh{f:Nat}{K K':ab→St→Option R}(h:∀ v,K v st=K' v st):wZ E T x f st K=wZ E T x f st K':=by
 unfold wZ
 repeat' (first|rfl|exact h _|apply aS|apply dR|intro _|split)
theorem Bx{K K':ab→St→Option R}(h:∀ v,K v st=K' v st):mn E T x y st K=mn E T x y st K':=by
 unfold mn
 repeat' (first|rfl|exact h _|apply aS|apply dR|intro _|split)
theorem Ji{K K':ab→St→Option R}(h:∀ v,K v st=K' v st):xa E T x y st K=xa E T x y st K':=by
 unfold xa
 repeat' (first|rfl|exact h _|apply aS|apply dR|intro _|split)
theorem Qi{a:Nat}:∀{ls:List ag},ag.mA a∈ls→pO.a a∈fH ls
 |l::r,h=>by
  rcases aka.1 h with rfl|h
  ·exact aqa ..
  ·have:=Qi h
   cases l<;>first|exact this|exact Q8 _ this
theorem HL{l:ag}{s:St}(h:st.yT l=some s):qA (fH [l]) st s:=by
 unfold St.yT at h;split at h
 ·split at h
  ·rename_i A _
   cases hs:A.sh with
   |true=>simp only[hs,Q9,OF] at h;subst h;exact .refl _ _
   |false=>
    cases hw:A.pd with
    |false=>simp[hs,hw] at h
    |true=>simp only[hs,hw,ana,Q9,OF] at h;subst h;exact(qA.refl _ _).gE (by simp[fH])
  ·split at h
   ·rename_i A _
    cases hs:A.sh<;>simp[hs] at h;subst h;exact .refl _ _
   ·cases h
 ·cases h;exact .refl _ _
theorem U9{l:ag}{ls:List ag}:fH (l::ls)=fH [l]++fH ls:=by cases l<;>rfl
theorem yU:∀{ls:List ag} {st s:St},st.uK ls=some s→qA (fH ls) st s
 |[],st,s,h=>by cases h;exact .refl _ _
 |l::r,st,s,h=>by
  simp only[St.uK] at h;split at h
  ·rename_i q hq
   rw[U9];exact((HL hq).mono fun q hq=>axa _ hq).trans ((yU h).mono fun q hq=>aoa _ hq)
  ·cases h
theorem uL{s:St}(h:v.qn st=some s):qA v.te st s:=by
 unfold ab.qn at h;split at h
 ·exact HL h
 ·exact yU h
 ·cases h
 ·exact yU h
theorem acY{l:ag}{s:St}(h:st.yT l=some s):ke st s:=(HL h).iL
theorem acZ{ls:List ag}{st s:St}(h:st.uK ls=some s):ke st s:=(yU h).iL
theorem Ld{s:St}(h:v.qn st=some s):ke st s:=(uL h).iL
theorem EJ{t:Ty}:∀{ps:List (Nat×ab)} {i:Nat} {st s:St} {l:List t.nw},mQ t i ps st=some (l,s)→qA (nr (ps.map (·.2))) st s
 |[],i,st,s,l,h=>by simp only[mQ,OF,aia] at h;obtain⟨_,rfl⟩:=h;exact .refl _ _
 |(j,v)::r,i,st,s,l,h=>by
  simp only[mQ] at h;cases hb:Nat.beq i j with
  |false=>simp[hb] at h
  |true=>
   simp only[hb,Q9] at h;split at h
   ·rename_i q hq
    split at h
    ·split at h
     ·rename_i l' s' hp
      simp only[OF,aia] at h;obtain⟨_,rfl⟩:=h;exact((uL hq).mono fun q hq=>axa _ hq).trans ((EJ hp).mono fun q hq=>aoa _ hq)
     ·cases h
    ·cases h
   ·cases h
theorem D4{v:ab}{ls:List ag}(h:v.pH=some ls):∀ q∈fH ls,q∈v.te:=by
 have ex:∀(t:Ty) (d:t.nw),fH (jO t d)=[]:=by
  have lA:∀ l m:List ag,fH (l++m)=fH l++fH m:=by
   intro l m;induction l with
   |nil=>rfl
   |cons x l ih=>cases x<;>simp[fH,ih]
  intro t;induction t with
  |aO a b NM ihb=>intro d;simp only[jO,lA,NM,ihb];rfl
  |one a ih=>intro d;exact ih d
  |arr n t ih=>
   intro d;simp only[jO];induction (show List t.nw from d) with
   |nil=>rfl
   |cons x l ihl=>rw[bJa,lA,ih,ihl];rfl
  |_=>intro d;rfl
 unfold ab.pH at h;split at h
 ·simp only[OF] at h;subst h;simp[ex]
 ·simp only[OF] at h;subst h;simp[ex]
 ·simp only[OF] at h;subst h;simp[ex]
 ·rename_i l _ _ _
  cases hc:l.cell<;>simp[hc] at h;subst h;exact fun q hq=>hq
 ·simp only[OF] at h;subst h;exact fun q hq=>hq
 ·cases h
theorem Yd{α:Type}{l v:List α}{off:Nat}(h:off+v.length≤l.length){j:Nat}(hj:¬ (off≤j∧j<off+v.length)):(mo l off v)[j]? = l[j]?:=by
 unfold mo;by_cases h1:j<off
 ·rw[aRa (by simp;omega),bza h1]
 ·rw[aPa (by simp;omega),aPa (by simp;omega),bRa]
  congr 1
  simp only[List.length_take];omega
theorem Sg{α:Type}{l v:List α}{off:Nat}(h:off+v.length≤l.length):(mo l off v).length=l.length:=by unfold mo;simp;omega
theorem Sb{K K':St→Option R}(h:∀ s,qA (match x.bN with | .np ob off=>[.o ob off (xh E T)] | .DT a _ _ _=>.a a::v.te|_=>[]) st s→K s=K' s):xd E T x v st K=xd E T x v st K':=by
 unfold xd;split
 ·rename_i ti vs hT hv
  cases hc:(Nat.beq vs.length ti.size&&vs.all ag.cell) with
  |false=>rfl
  |true=>
   simp only[Q9];simp only[Q4] at hc;have jI:=Q5 hc.1;split
   ·rename_i ob off hx
    rw[hx] at h;split
    ·rename_i ls ho
     split
     ·rename_i c hs
      refine aS rfl (h _ ⟨⟨rfl,rfl,rfl,rfl⟩,rfl,fun o l hl _ _=>?_,fun a A hA _ _=>hA,fun _ _ _=>rfl⟩);have wL:off+vs.length≤ls.length:=by
       unfold qo at hs;cases hb:Nat.ble (off+ti.size) ls.length with
       |false=>simp[hb] at hs
       |true=>rw[jI];exact aUa hb
      by_cases e:ob=o
      ·subst e
       rw[ho] at hl;cases hl;refine⟨mo ls off vs,by rw[kG,a4a rfl],Sg wL,fun j hj=>Yd wL fun hh=>hj _ (Q7.2 rfl) ⟨rfl,hh.1,?_⟩⟩
       rw[show xh E T=vs.length by simp only[xh,hT];exact jI.symm];exact hh.2
      ·exact⟨l,by rw[kG,aza e];exact hl,rfl,fun _ _=>rfl⟩
     ·rfl
    ·rfl
   ·rename_i a sz i off hx
    rw[hx] at h;split
    ·rfl
    ·rename_i st' hs
     split
     ·refine aS rfl (dR fun d=>aS ?_ rfl)
      split
      ·exact h _ (((yU hs).mono fun q hq=>Q8 _ (D4 hv q hq)).gE (aqa ..))
      ·rfl
     ·rfl
   ·rfl
 ·rfl
theorem R7{lo hi mx:Option ab}{K K':ab→St→Option R}(h:∀ v s,qA (fH [x.bN]) st s→K v s=K' v s):tI E T dst x lo hi mx st K=tI E T dst x lo hi mx st K':=by
 unfold tI
 repeat' (first|rfl|exact h _ _ (.refl _ _)|apply uu|apply dR|intro _|split)
 all_goals
  rename_i hc _;refine h _ _ ((qA.refl _ _).Oq (by rw[‹x.bN=ag.mA _›];simp[fH]) ?_)
  simp only[aEa] at hc;simpa using hc.1.1.2
theorem N8{op:BinOp}{K K':ab→Option R}(h:∀ v,K v=K' v):K5 E op T x y K=K5 E op T x y K':=by rw[funext h]
theorem QA{op:UnOp}{K K':ab→Option R}(h:∀ v,K v=K' v):T8 op x K=T8 op x K':=by rw[funext h]
theorem Et{S D:TypeId}{K K':ab→St→Option R}(h:∀ v,K v st=K' v st):pE E S D x st K=pE E S D x st K':=by
 unfold pE
 repeat' (first|rfl|exact h _|apply aS|apply dR|intro _|split)
theorem Jf{ps:List (Nat×ab)}{K K':ab→St→Option R}(h:∀ v,K v st=K' v st):wY E T ps st K=wY E T ps st K':=by
 unfold wY
 repeat' (first|rfl|exact h _|apply aS|apply dR|intro _|split)
theorem Je{len:Nat}{ps:List (Nat×ab)}{K K':ab→St→Option R}(h:∀ v s,qA (nr (ps.map (·.2))) st s→K v s=K' v s):mi E T dst len ps st K=mi E T dst len ps st K':=by
 unfold mi
 repeat' (first|rfl|exact h _ _ ((EJ ‹mQ _ _ _ _=some _›).Ar ‹St.arr _ _=none›)|apply aS|apply dR|intro _|split)
theorem KD{K K':ab→St→Option R}(h:∀ v s,qA [] st s→K v s=K' v s):nM E T dst x y st K=nM E T dst x y st K':=by
 unfold nM
 repeat' (first|rfl|exact h _ _ ((qA.refl _ _).Ar ‹St.arr _ _=none›)|apply aS|apply dR|intro _|split)
theorem Oh{o:Nat}{ls:List ag}{K K':ab→St→Option R}(h:∀ v s,qA [] st s→K v s=K' v s):Gi E T o ls st K=Gi E T o ls st K':=by
 unfold Gi
 repeat' (first|rfl|exact h _ _ ((qA.refl _ _).Vp ‹St.dL _ _=none›)|apply aS|apply dR|intro _|split)
theorem Gg{K K':ab→St→Option R}(h:∀ v s,qA (nr [x,y]) st s→K v s=K' v s):rG E T dst x y st K=rG E T dst x y st K':=by
 unfold rG
 repeat' (first|rfl|(have hb:=uL ‹ab.qn _ _=some _›;exact h _ _ ((hb.mono fun q hq=>by simp[nr,hq]).Ar ‹St.arr _ _=none›))|apply aS|apply dR|intro _|split)
 all_goals
  have hb:=uL ‹ab.qn _ _=some _›;refine h _ _ ((hb.mono fun q hq=>by simp[nr,hq]).Oq ?_ ‹St.arr _ _=none›)
  have hx:=‹x.bN=ag.mA _›;cases x<;>simp[ab.bN] at hx;subst hx;simp[nr,ab.te,fH]
theorem Yb{u:Ty}{l:ag}{d:List u.nw}{c:List Nat}(h:Ub st u l=some (d,c)):∀ q∈c,l=.mA q:=by
 unfold Ub at h;split at h
 ·simp only[OF,aia] at h;obtain⟨_,rfl⟩:=h;intro q hq;cases hq
 ·split at h
  ·rename_i A _
   cases hc:(A.sh||!A.md.lj (RX u)||eU _ st.pin ||(look st.fK _).isSome) with
   |true=>rw[hc] at h;cases h
   |false=>
    rw[hc,ana] at h;split at h
    ·simp only[OF,aia] at h;obtain⟨_,rfl⟩:=h;intro q hq;rw[Q7.1 hq]
    ·cases h
  ·cases h
 ·cases h
theorem aag:∀{t:Ty} {ls r:List ag} {d:t.nw} {c:List Nat},HE st t ls=some (d,r,c)→(∀ q∈c,ag.mA q∈ls)∧∀ l∈r,l∈ls:=by
 have bN:∀{t:Ty} {ls r:List ag} {d:t.nw} {c:List Nat},(match ls with|[]=>none|l::r=>(l.wh st t).map fun d=>(d,r,([]:List Nat)))=some (d,r,c)→(∀ q∈c,ag.mA q∈ls)∧∀ l∈r,l∈ls:=by
  intro t ls r d c h
  match ls,h with
  |l::ls,h=>simp only[aIa,aia] at h;obtain⟨_,_,_,rfl,rfl⟩:=h;exact⟨fun q hq=>(by cases hq),fun l hl=>Q8 _ hl⟩
 intro t;induction t with
 |int k=>exact fun h=>bN h
 |bool=>exact fun h=>bN h
 |str=>exact fun h=>bN h
 |slice u _=>
  intro ls r d c h
  match ls,h with
  |[],h=>simp[HE] at h
  |l::ls,h=>simp only[HE,aIa,aia] at h;obtain⟨⟨d',c'⟩,hd,_,rfl,rfl⟩:=h;exact⟨fun q hq=>(by rw[←Yb hd q hq];exact aqa ..),fun l hl=>Q8 _ hl⟩
 |aO a b NM ihb=>
  intro ls r d c h;simp only[HE] at h;split at h
  ·rename_i x r1 cc h1
   split at h
   ·rename_i y r2 cc2 h2
    simp only[OF,aia] at h;obtain⟨_,rfl,rfl⟩:=h;obtain⟨p1,p2⟩:=NM h1;obtain⟨p3,p4⟩:=ihb h2;refine⟨fun q hq=>?_,fun l hl=>p2 l (p4 l hl)⟩;rcases ala.1 hq with hq|hq
    ·exact p1 q hq
    ·exact p2 _ (p3 q hq)
   ·cases h
  ·cases h
 |one a ih=>exact fun h=>ih h
 |arr n t _=>intro ls r d c h;cases h
theorem Jk{t:Ty}:∀{ps:List (Nat×ab)} {i:Nat} {l:List t.nw} {c:List Nat},tO t i ps st=some (l,c)→∀ q∈c,pO.a q∈nr (ps.map (·.2))
 |[],i,l,c,h=>by simp only[tO,OF,aia] at h;obtain⟨_,rfl⟩:=h;intro q hq;cases hq
 |(j,v)::ps,i,l,c,h=>by
  simp only[tO] at h;cases hb:Nat.beq i j with
  |false=>rw[hb] at h;cases h
  |true=>
   rw[hb,Q9] at h;split at h
   ·rename_i ls hl
    split at h
    ·rename_i d c0 hT
     split at h
     ·rename_i l' c' hr
      simp only[OF,aia] at h;obtain⟨_,rfl⟩:=h;intro q hq;simp only[aFa,nr];rcases ala.1 hq with hq|hq
      ·exact axa _ (D4 hl _ (Qi ((aag hT).1 q hq)))
      ·exact aoa _ (Jk hr q hq)
     ·cases h
    ·cases h
   ·cases h
theorem qA.tq{W:List pO}{C:List Nat}{A:jG}(hC:∀ c∈C,pO.a c∈W)(hd:st.arr dst=none):qA W st {st with cM:=(dst,A)::kW C st.cM}:=
 ⟨⟨rfl,rfl,rfl,rfl⟩,rfl,fun q l hl _ _=>⟨l,hl,rfl,fun _ _=>rfl⟩,fun x B hB hn _=>by
  have e1:x∉C:=fun e=>hn (hC x e);have e2:x≠dst:=fun e=>by subst e;rw[hd] at hB;cases hB
  simp only[St.arr,au,zr,aza (bxa e2),aza e1];exact hB,fun _ _ _=>rfl⟩
theorem HB{len:Nat}{ps:List (Nat×ab)}{K K':ab→St→Option R}(h:∀ v s,qA (nr (ps.map (·.2))) st s→K v s=K' v s):kN E T dst len ps st K=kN E T dst len ps st K':=by
 unfold kN
 repeat' (first|rfl|exact h _ _ (qA.tq (Jk ‹tO _ _ _ _=some _›) ‹St.arr _ _=none›)|apply aS|apply dR|intro _|split)
theorem N6{b:Nat}{K K':ab→St→Option R}(hy:y.bN=.mA b)(h:∀ v s,qA (nr [x,y]) st s→K v s=K' v s):qG E T dst x b st K=qG E T dst x b st K':=by
 have hb:pO.a b∈nr [x,y]:=by cases y<;>simp[ab.bN] at hy;subst hy;simp[nr,ab.te,fH]
 unfold qG
 repeat' (first|rfl|exact h _ _ (qA.tq (fun c hc=>by rw[Q7.1 hc];exact hb) ‹St.arr _ _=none›)|apply aS|apply dR|intro _|split)
 all_goals
  refine h _ _ (qA.tq (fun c hc=>?_) ‹St.arr _ _=none›);simp only[aka,bNa,bya] at hc;rcases hc with rfl|rfl
  ·have hx:=‹x.bN=ag.mA _›
   cases x<;>simp[ab.bN] at hx;subst hx;simp[nr,ab.te,fH]
  ·exact hb
theorem KF{a i o:Nat}{K K':St→Option R}(h:∀ s,ke st s→s.et=st.et→K s=K' s):FU st a i o K=FU st a i o K':=by
 unfold FU
 repeat' (first|rfl|exact h _ ⟨rfl,rfl,rfl,rfl⟩ rfl|apply aS|apply dR|intro _|split)
theorem VS{a sz i:Nat}{K K':St→Option R}(h:∀ s,ke st s→s.et=st.et→K s=K' s):BF st a sz i K=BF st a sz i K':=by unfold BF;exact aS (h _ ⟨rfl,rfl,rfl,rfl⟩ rfl) rfl
theorem J5{a o:Nat}{K K':St→Option R}(h:∀ s,ke st s→s.et=st.et→K s=K' s):A0 st a o K=A0 st a o K':=by
 unfold A0
 repeat' (first|rfl|exact h _ ⟨rfl,rfl,rfl,rfl⟩ rfl|apply aS|apply dR|intro _|split)
theorem Pz{a sz i off:Nat}{K K':St→Option R}(h:∀ s,ke st s→s.et=st.et→K s=K' s):tJ E T a sz i off v st K=tJ E T a sz i off v st K':=by
 unfold tJ;split
 ·refine aS ?_ rfl
  split
  ·refine KF fun s1 b1 r1=>VS fun s2 b2 r2=>aS ?_ rfl
   split
   ·split
    ·refine aS rfl (J5 fun s b r=>h s (b1.trans (b2.trans (ke.trans ⟨rfl,rfl,rfl,rfl⟩ b))) (r.trans (r2.trans r1)))
    ·rfl
   ·rfl
  ·refine aS ?_ rfl
   split
   ·split
    ·refine aS rfl (J5 fun s b r=>h s (ke.trans ⟨rfl,rfl,rfl,rfl⟩ b) r)
    ·rfl
   ·rfl
  ·rfl
 ·rfl
theorem Ps{K K':ab→St→Option R}(h:∀ v s,qA [] st s→K v s=K' v s):rF E T dst st K=rF E T dst st K':=by
 unfold rF
 repeat' (first|rfl|exact h _ _ ((qA.refl _ _).Ar ‹St.arr _ _=none›)|apply aS|apply dR|intro _|split)
theorem PA{a k:Nat}{K K':St→Option R}(h:∀ s,qA [.a a] st s→K s=K' s):tK E T a k v st K=tK E T a k v st K':=by
 unfold tK
 repeat' (first|rfl|exact h _ ((qA.refl _ _).gE (Q7.2 rfl))|apply aS|apply dR|intro _|split)
theorem PB{K K':St→Option R}(h:∀ s,qA (match WJ st x with|some _=>[.all]|none=>match x.bN with | .np ob off=>[.o ob off (xh E T)] | .DT a _ _ _=>.a a::v.te | .L9 a _ _=>[.a a]|_=>[]) st s→K s=K' s):tL E T x v st K=tL E T x v st K':=by
 unfold tL;split
 ·rename_i hn;rw[hn] at h;exact Pz fun s b r=>h s (qA.any b r)
 ·rename_i hn
  rw[hn] at h;split
  ·rename_i a k ha
   unfold ada at ha;split at ha
   ·rename_i a' k' n' hl
    cases ha;rw[hl] at h;exact PA h
   ·cases ha
  ·refine Sb fun s hs=>h s (hs.mono fun q hq=>?_)
   split at hq
   ·rename_i hx;simpa only[hx] using hq
   ·rename_i hx;simpa only[hx] using hq
   ·cases hq
theorem PC{a sz i o:Nat}{W:List pO}{K K':St→Option R}(ha:pO.a a∈W)(hk:∀ p∈st.cg,p.2.any (ag.N3 a)=true→pO.k p.1∈W)(h:∀ s,qA W st s→K s=K' s):
  FU st a i o (fun s1=>BF s1 a sz i K)=FU st a i o (fun s1=>BF s1 a sz i K'):=by
 unfold FU;cases hA:look st.cM a with
 |none=>rfl
 |some A=>
  simp only;split
  ·rename_i ux
   refine uu (fun _=>rfl) (fun hc=>dR fun x=>uu (fun xp=>?_) (fun _=>rfl));unfold BF;refine aS (h _ ?_) rfl;simp only[aEa] at hc;have Pk:st.dL o=none:=by simpa using hc.1.1.2
   simp only[Q4,apa] at xp;refine⟨⟨rfl,rfl,rfl,rfl⟩,rfl,fun q ls hq hkq _=>⟨ls,?_,rfl,fun _ _=>rfl⟩,fun q B hB hn _=>?_,fun _ _ _=>rfl⟩
   ·have hoq:o≠q:=fun e=>by rw[e,hq] at Pk;cases Pk
    have vP:ls.any (ag.N3 a)=false:=by
     cases hm:ls.any (ag.N3 a) with
     |false=>rfl
     |true=>exact absurd (hk (q,ls) (dY hq) hm) hkq
    have key:∀{v:Nat} {ls:List ag},ls.any (ag.N3 a)=false→ls.map (qs a v sz)=ls:=by
     intro v ls;induction ls with
     |nil=>intro _;rfl
     |cons l r ih=>
      intro hm;simp only[cGa,aEa] at hm;rw[aFa,ih hm.2]
      congr 1
      cases l with
      |Fb a' v' sz' i' off=>
       have:Nat.beq a' a=false:=by simpa[ag.N3] using hm.1
       simp[qs,this]
      |_=>rfl
    have afD:∀(v:Nat) (l:List (Nat×List ag)),look (l.map fun p=>(p.1,p.2.map (qs a v sz))) q=(look l q).map (·.map (qs a v sz)):=by
     intro v l;induction l with
     |nil=>rfl
     |cons p r ih=>
      obtain⟨k,m⟩:=p;rw[aFa,au,au];by_cases e:k=q
      ·simp[e]
      ·simp only[e,aca];exact ih
    simp only[St.dL,afD,zt (show q∉([]:List Nat) by simp),au,aza hoq]
    have IW:look st.cg q=some ls:=hq;rw[IW,bBa,key vP]
   ·have gT:a≠q:=fun e=>hn (by rw[←e];exact ha)
    have adG:look (zf (LY a (st.dA a)) A.t x 0) q=none:=by
     cases hl:look (zf (LY a (st.dA a)) A.t x 0) q with
     |none=>rfl
     |some C=>have:=(xp.2 _ (dY hl));simp only[Q4] at this;rw[hB] at this;simp at this
    simp only[St.arr,au,aza gT,NV,adG];exact hB
  ·rfl
theorem N7{K K':ab→St→Option R}(h:∀ v s,qA (nr [x,y]++X6 st [x,y]) st s→K v s=K' v s):qH E T dst x y st K=qH E T dst x y st K':=by
 unfold qH;split
 ·rename_i b hb
  have hy:y.bN=.mA b:=by
   unfold YW at hb;split at hb
   ·rename_i b' hl
    split at hb
    ·rename_i B _
     cases hc:(!B.sh&&Md.lj B.md .bK) with
     |false=>rw[hc] at hb;cases hb
     |true=>rw[hc,Q9,OF] at hb;rw[hl,hb]
    ·cases hb
   ·cases hb
  exact N6 hy fun v s hs=>h v s (hs.mono fun q hq=>axa _ hq)
 ·split
  ·rename_i a v sz i off hl
   refine aS ?_ rfl;have hW:X6 st [x,y]=.a (LY a v off)::(st.cg.filter fun p=>p.2.any (ag.N3 a)).map fun p=>.k p.1:=by simp only[X6,hl]
   have hx:x=.one (.Fb a v sz i off):=by cases x<;>simp[ab.bN] at hl;rw[hl]
   refine PC (W:=nr [x,y]++X6 st [x,y]) ?_ ?_ fun s hs=>?_
   ·rw[hx];simp[nr,ab.te,fH]
   ·intro p hp hm
    rw[hW];exact aoa _ (Q8 _ (aXa.2 ⟨p,bSa.2 ⟨hp,hm⟩,rfl⟩))
   ·refine Gg fun v' s' B6=>h v' s' (hs.trans (B6.mono fun q hq=>?_))
    simp only[nr,ab.te,fH,a9a,ala,Q7] at hq;rcases hq with rfl|hq
    ·rw[hW];exact aoa _ (aqa ..)
    ·refine axa _ ?_
     simp only[nr,a9a,ala];exact .inr hq
  ·exact Gg fun v s hs=>h v s (hs.mono fun q hq=>axa _ hq)
theorem Oa{b:Builtin}{ts:List TypeId}{vs:List ab}{K K':ab→St→Option R}(h:∀ v s,qA (nr vs++X6 st vs) st s→K v s=K' v s):nB E b dst ts vs st K=nB E b dst ts vs st K':=by
 unfold nB
 repeat' (first|rfl|exact h _ _ (.refl _ _)|exact N7 h|apply aS|apply dR|intro _|split)
theorem Oe{K K':ab→St→Option R}(h:∀ v s,qA [] st s→K v s=K' v s):qI E T dst st K=qI E T dst st K':=by
 unfold qI
 repeat' (first|rfl|exact h _ _ ((qA.refl _ _).Ar ‹St.arr _ _=none›)|apply aS|apply dR|intro _|split)
theorem Px{K K':ab→St→Option R}(h:∀ v,K v st=K' v st):tH E T x y st K=tH E T x y st K':=by
 unfold tH
 repeat' (first|rfl|exact h _|apply aS|apply dR|intro _|split)
theorem KE{K K':ab→St→Option R}(h:∀ v s,qA (fH [x.bN]) st s→K v s=K' v s):nN E T x y v st K=nN E T x y v st K':=by
 unfold nN
 repeat' (first|rfl|exact h _ _ ((qA.refl _ _).gE (by rw[‹x.bN=ag.mA _›];simp[fH]))|apply aS|apply dR|intro _|split)
def m6(s:iX):Prop:=∀{R:Type} {dst:Nat} {args:List ab} {st:St} {K K' KP KP':ab→St→Option R},
 (∀ v q,qA (s.LH args st) st q→K v q=K' v q)→(∀ v q,ke st q→KP v q=KP' v q)→s.run dst args st K KP=s.run dst args st K' KP'
def AM(L:lm):Prop:=∀{R:Type} {st:St} {K K':Exit→St→Option R} {KP KP':ab→St→Option R},
 (∀ e q,ke st q→K e q=K' e q)→(∀ v q,ke st q→KP v q=KP' v q)→L.run st K KP=L.run st K' KP'
theorem KW(hS:∀ f s,E.BA f=some s→m6 s){o:Oper}{K K' KP KP':ab→St→Option R}(h:∀ v s,qA (tY E o st) st s→K v s=K' v s)(hp:∀ v s,ke st s→KP v s=KP' v s):
  lY E o st K KP=lY E o st K' KP':=by
 have h0:∀ v,K v st=K' v st:=fun v=>h v st (.refl _ _);have p0:∀ v,KP v st=KP' v st:=fun v=>hp v st (.refl _);unfold lY;split
 ·exact h0 _
 ·exact h0 _
 ·split
  ·exact aS (h0 _) (h0 _)
  ·rfl
 ·split<;>first|exact h0 _|rfl
 ·refine aS (Ps fun v s hs=>h v s (hs.mono fun q hq=>by cases hq)) ?_
  split
  ·exact Oh fun v s hs=>h v s (hs.mono fun q hq=>by cases hq)
  ·rfl
 ·split
  ·exact Oh fun v s hs=>h v s (hs.mono fun q hq=>by cases hq)
  ·rfl
 ·exact Jf h0
 ·rename_i T len hZ ho
  exact aS (HB fun v s hs=>h v s (hs.mono fun q hq=>by rw[csa] at hq;simp only[tY,ho];exact hq)) (Je fun v s hs=>h v s (hs.mono fun q hq=>by rw[csa] at hq;simp only[tY,ho];exact hq))
 ·exact K6 h0
 ·rename_i T x v ho
  exact PB (fun s hs=>h _ s (hs.mono fun q hq=>by simp only[tY,ho];exact hq))
 ·exact N8 h0
 ·exact QA h0
 ·exact Et h0
 ·exact KD fun v s hs=>h v s (hs.mono fun q hq=>by cases hq)
 ·rename_i T x lo hi mx ho
  exact R7 fun v s hs=>h v s (hs.mono fun q hq=>by simpa only[tY,ho] using hq)
 ·exact Bw h0
 ·exact aS (Jh h0) rfl
 ·exact Bx h0
 ·exact Ji h0
 ·split
  ·split
   ·exact h0 _
   ·rfl
  ·rfl
 ·rename_i c ho
  split
  ·rename_i b hb
   exact Oa fun v s hs=>h v s (hs.mono fun q hq=>by simpa only[tY,ho,hb] using hq)
  ·rename_i f hf
   split
   ·rename_i s hs;exact hS _ s hs (fun v q hq=>h v q (hq.mono fun p hp=>by simpa only[tY,ho,hf,hs] using hp)) hp
   ·rfl
  ·rfl
 ·split
  ·split
   ·rfl
   ·exact h0 _
   ·rfl
  ·rfl
 ·split
  ·exact p0 _
  ·rfl
 ·exact Oe fun v s hs=>h v s (hs.mono fun q hq=>by cases hq)
 ·exact Px h0
 ·rename_i T x k v ho
  exact KE fun v s hs=>h v s (hs.mono fun q hq=>by simpa only[tY,ho] using hq)
 ·rfl
theorem G6(hS:∀ f s,E.BA f=some s→m6 s){o:Oper}{K K' KP KP':ab→St→Option R}(h:∀ v s,ke st s→K v s=K' v s)(hp:∀ v s,ke st s→KP v s=KP' v s):
 lY E o st K KP=lY E o st K' KP':=KW hS (fun v s hs=>h v s hs.iL) hp
theorem Tk{o:Oper}(ho:uS o.op=true)(hd:xV E o st=true){K K' KP KP':ab→St→Option R}(h0:∀ v,K v st=K' v st):
  lY E o st K KP=lY E o st K' KP':=by
 unfold lY;split<;>rename_i mm<;>simp only[mm,uS,asa] at ho
 ·exact h0 _
 ·exact h0 _
 ·split
  ·exact aS (h0 _) (h0 _)
  ·rfl
 ·split<;>first|exact h0 _|rfl
 ·exact Jf h0
 ·exact K6 h0
 ·exact N8 h0
 ·exact QA h0
 ·exact Et h0
 ·simp only[xV,mm] at hd
  unfold tI
  repeat' (first|rfl|exact h0 _|apply uu|apply dR|intro _|split)
  all_goals simp_all
 ·exact Bw h0
 ·exact aS (Jh h0) rfl
 ·exact Bx h0
 ·exact Ji h0
 ·split
  ·split
   ·exact h0 _
   ·rfl
  ·rfl
 ·split
  ·rename_i b hb
   simp only[hb] at ho;unfold nB;split
   ·repeat' (first|rfl|exact h0 _|apply aS|apply dR|intro _|split)
   ·simp at ho
   ·repeat' (first|rfl|exact h0 _|apply aS|apply dR|intro _|split)
   ·repeat' (first|rfl|exact h0 _|apply aS|apply dR|intro _|split)
   ·rfl
  ·rename_i f hf;simp only[hf,asa] at ho
  ·rfl
 ·split
  ·split
   ·rfl
   ·exact h0 _
   ·rfl
  ·rfl
theorem By{d:Option Tmp}{v:ab}{K K':St→Option R}(h:∀ s,ke st s→K s=K' s):oH d v st K=oH d v st K':=by
 cases d with
 |none=>exact h _ (.refl _)
 |some d=>exact aS rfl (h _ ⟨rfl,rfl,rfl,rfl⟩)
theorem ED(hS:∀ f s,E.BA f=some s→m6 s){all:List Oper}:∀{l:List Oper} {st:St} {K K':St→Option R} {KP KP':ab→St→Option R},(∀ s,ke st s→K s=K' s)→(∀ v s,ke st s→KP v s=KP' v s)→
  pI E all l st K KP=pI E all l st K' KP'
 |[],st,K,K',KP,KP',h,hp=>h _ (.refl _)
 |o::rest,st,K,K',KP,KP',h,hp=>by
  have Av:∀ q,ke st q→lY E o q (fun v st'=>oH o.dst v st' fun s=>pI E all rest s K KP) KP=lY E o q (fun v st'=>oH o.dst v st' fun s=>pI E all rest s K' KP') KP':=fun q hq=>
   G6 hS (fun v s hs=>By fun s' B6=>ED hS (fun s'' NJ=>h _ (hq.trans (hs.trans (B6.trans NJ)))) (fun v s'' NJ=>hp _ _ (hq.trans (hs.trans (B6.trans NJ))))) (fun v s hs=>hp _ _ (hq.trans hs))
  have skip:∀ q,ke st q→oH o.dst (.one .uZ) q (fun s=>pI E all rest s K KP)=oH o.dst (.one .uZ) q (fun s=>pI E all rest s K' KP'):=fun q hq=>
   By fun s hs=>ED hS (fun s'' NJ=>h _ (hq.trans (hs.trans NJ))) (fun v s'' NJ=>hp _ _ (hq.trans (hs.trans NJ)))
  simp only[pI];split
  ·exact Av _ (.refl _)
  ·split
   ·rfl
   ·split
    ·exact aS (aS (Av _ ⟨rfl,rfl,rfl,rfl⟩) (skip _ ⟨rfl,rfl,rfl,rfl⟩)) (aS (skip _ ⟨rfl,rfl,rfl,rfl⟩) (Av _ ⟨rfl,rfl,rfl,rfl⟩))
    ·exact skip _ (.refl _)
    ·rfl
theorem VM(hS:∀ f s,E.BA f=some s→m6 s){all:List Oper}{A:List (List Nat)}{i:Nat}{o:Oper}{log:List (Nat×List pO)}{K K':List (Nat×List pO)→St→Option R}{KP KP':ab→St→Option R}
  (h:∀ lg s,ke st s→K lg s=K' lg s) (hp:∀ v s,ke st s→KP v s=KP' v s):Gq E all A i o log st K KP=Gq E all A i o log st K' KP':=by
 unfold Gq;refine aS (aS (G6 hS (fun v s hs=>By fun s' B6=>h _ _ (hs.trans B6)) fun v s hs=>hp _ _ hs) rfl) (aS (G6 hS (fun v s hs=>By fun s' B6=>h _ _ (hs.trans B6)) fun v s hs=>rfl) rfl)
theorem Fe(hS:∀ f s,E.BA f=some s→m6 s){all:List Oper}{A:List (List Nat)}:∀{l:List Nat} {log:List (Nat×List pO)} {st:St} {K K':St→Option R} {KP KP':ab→St→Option R},(∀ s,ke st s→K s=K' s)→(∀ v s,ke st s→KP v s=KP' v s)→
  HJ E all A l log st K KP=HJ E all A l log st K' KP'
 |[],log,st,K,K',KP,KP',h,hp=>h _ (.refl _)
 |i::rest,log,st,K,K',KP,KP',h,hp=>by
  have Av:∀ o q,ke st q→Gq E all A i o log q (fun lg s=>HJ E all A rest lg s K KP) KP=Gq E all A i o log q (fun lg s=>HJ E all A rest lg s K' KP') KP':=fun o q hq=>
   VM hS (fun lg s hs=>Fe hS (fun s' B6=>h _ (hq.trans (hs.trans B6))) (fun v s' B6=>hp _ _ (hq.trans (hs.trans B6)))) (fun v s hs=>hp _ _ (hq.trans hs))
  have skip:∀(o:Oper) q,ke st q→oH o.dst (.one .uZ) q (fun s=>HJ E all A rest log s K KP)=oH o.dst (.one .uZ) q (fun s=>HJ E all A rest log s K' KP'):=fun o q hq=>
   By fun s hs=>Fe hS (fun s'' NJ=>h _ (hq.trans (hs.trans NJ))) (fun v s'' NJ=>hp _ _ (hq.trans (hs.trans NJ)))
  simp only[HJ,W4];split
  ·rfl
  ·split
   ·exact Av _ _ (.refl _)
   ·split
    ·rfl
    ·split
     ·exact aS (aS (Av _ _ ⟨rfl,rfl,rfl,rfl⟩) (skip _ _ ⟨rfl,rfl,rfl,rfl⟩)) (aS (skip _ _ ⟨rfl,rfl,rfl,rfl⟩) (Av _ _ ⟨rfl,rfl,rfl,rfl⟩))
     ·exact skip _ _ (.refl _)
     ·rfl
theorem Yj(hS:∀ f s,E.BA f=some s→m6 s){ops:List Oper}{K K':St→Option R}{KP KP':ab→St→Option R}(h:∀ s,ke st s→K s=K' s)(hp:∀ v s,ke st s→KP v s=KP' v s):
  VG E ops st K KP=VG E ops st K' KP':=by
 unfold VG;refine aS ?_ rfl;split
 ·exact aS (Fe hS h hp) rfl
 ·rfl
theorem QI(hS:∀ f s,E.BA f=some s→m6 s)(hL:∀ i L,E.od i=some L→AM L)(c:Code):∀{st:St} {K K':Exit→St→Option R} {KP KP':ab→St→Option R},
  (∀ e s,ke st s→K e s=K' e s)→(∀ v s,ke st s→KP v s=KP' v s)→sm E c st K KP=sm E c st K' KP':=by
 induction c with
 |skip=>intro st K K' KP KP' h hp;exact h _ _ (.refl _)
 |region id ops draw=>
  intro st K K' KP KP' h hp;refine aS ?_ (ED hS (fun s hs=>h _ s hs) hp);cases hl:E.od (id+1000000) with
  |some L=>exact hL _ _ hl h hp
  |none=>exact Yj hS (fun s hs=>h _ s hs) hp
 |seq a b NM ihb=>
  intro st K K' KP KP' h hp;refine NM (fun e s hs=>?_) hp;cases e with
  |normal=>exact ihb (fun e s' B6=>h e s' (hs.trans B6)) (fun v s' B6=>hp v s' (hs.trans B6))
  |_=>exact h _ s hs
 |cond c t e iht ihe=>
  intro st K K' KP KP' h hp;show(match (ev E st c).F4 with|some b=>bif b then sm E t st K KP else sm E e st K KP|none=>none)=(match (ev E st c).F4 with|some b=>bif b then sm E t st K' KP' else sm E e st K' KP' | none=>none)
  split
  ·exact aS (iht h hp) (ihe h hp)
  ·rfl
 |block id b ih=>
  intro st K K' KP KP' h hp;show(match E.od id with
   |some L=>L.run st K KP
   |none=>sm E b st (fun e s=>match e with | .exit i=>(bif Nat.beq i id then K .normal s else K (.exit i) s)|e=>K e s) KP)=(match E.od id with
   |some L=>L.run st K' KP'
   |none=>sm E b st (fun e s=>match e with | .exit i=>(bif Nat.beq i id then K' .normal s else K' (.exit i) s)|e=>K' e s) KP')
  split
  ·rename_i L hl;exact hL _ _ hl h hp
  ·refine ih (fun e s hs=>?_) hp
   cases e with
   |exit i=>exact aS (h _ s hs) (h _ s hs)
   |_=>exact h _ s hs
 |exit id=>intro st K K' KP KP' h hp;exact h _ _ (.refl _)
 |ret=>intro st K K' KP KP' h hp;exact h _ _ (.refl _)
 |_=>intros;rfl
end
end Go.Fx
namespace Go.Fx
section
variable {E:sb} {st s:St} {o:Oper}
theorem Oj(hD:∀ f s,E.BA f=some s→oS s)(ho:uS o.op=true)(hd:xV E o st=true){u:Out}(h:HD E o st=some u):u=⟨u.v,st,true⟩:=by
 have h1:lY E o st (fun v _=>oc v st) (fun _ _=>none)=some u:=by exact(Tk (E:=E) (st:=st) ho hd (K:=oc) (K':=fun v _=>oc v st) (KP:=PE) (KP':=fun _ _=>none) (fun v=>rfl)).symm.trans h
 rw[BZ hD h] at h1;obtain⟨v,q,b⟩:=u;cases b with
 |false=>cases h1
 |true=>simp only[sw,Q9,oc,OF,Out.mk.injEq] at h1;rw[←h1.2.1]
theorem aad(hD:∀ f s,E.BA f=some s→oS s)(hS:∀ f s,E.BA f=some s→m6 s){u:Out}(h:HD E o st=some u):ke st u.s∧(u.ok=true→qA (tY E o st) st u.s):=by
 classical
 have h1:lY E o st (fun v q=>if qA (tY E o st) st q then oc v q else none) (fun v q=>if ke st q then PE v q else none)=some u:=by rw[←h];exact(KW hS (fun v q hq=>(a4a hq).symm) (fun v q hq=>(a4a hq).symm)).symm
 rw[BZ hD h] at h1;obtain⟨v,q,b⟩:=u;cases b with
 |false=>
  simp only[sw,ana] at h1;split at h1
  ·rename_i hb;exact⟨hb,fun e=>by cases e⟩
  ·cases h1
 |true=>
  simp only[sw,Q9] at h1;split at h1
  ·rename_i hb;exact⟨hb.iL,fun _=>hb⟩
  ·cases h1
def sr(st s:St):pO→Prop
 |.o ob off n=>∀ ls,st.dL ob=some ls→∃ wX,s.dL ob=some wX∧wX.length=ls.length∧∀ j,off≤j→j<off+n→wX[j]? = ls[j]?
 |.a a=>(∀ A,st.arr a=some A→s.arr a=some A)∧s.dA a=st.dA a
 |.k _=>True
 |.all=>True
theorem sr.refl(st:St):∀ p,sr st st p
 |.o _ _ _=>fun ls h=>⟨ls,h,rfl,fun _ _ _=>rfl⟩
 |.a _=>⟨fun _ h=>h,rfl⟩
 |.k _=>trivial
 |.all=>trivial
theorem sr.trans{a b c:St}:∀{p:pO},sr a b p→sr b c p→sr a c p
 |.o _ _ _,h,k=>fun ls hl=>by obtain⟨l1,h1,h2,h3⟩:=h ls hl;obtain⟨l2,k1,k2,k3⟩:=k l1 h1;exact⟨l2,k1,k2.trans h2,fun j a b=>(k3 j a b).trans (h3 j a b)⟩
 |.a _,h,k=>⟨fun A hA=>k.1 A (h.1 A hA),k.2.trans h.2⟩
 |.k _,_,_=>trivial
 |.all,_,_=>trivial
theorem qA.li{W:List pO}(h:qA W st s){p:pO}(hp:∀ q∈W,U4 p q=true):sr st s p:=by
 cases p with
 |o ob off n=>
  intro ls hl;obtain⟨l1,h1,h2,h3⟩:=h.dL ob ls hl (fun hk=>by have:=hp _ hk;simp[U4] at this) (fun hk=>by have:=hp _ hk;simp[U4] at this)
  refine⟨l1,h1,h2,fun j a b=>h3 j fun q hq hh=>?_⟩;have:=hp q hq;cases q with
  |a x=>exact hh
  |k x=>exact hh
  |all=>exact hh
  |o ob' ad8 n'=>obtain⟨rfl,h4,h5⟩:=hh;simp only[U4,b7a,cHa,Bool.false_or,a3a] at this;rcases this with e|e<;>have:=aUa e<;>omega
 |a x=>
  have hn:pO.a x∉W:=fun hx=>by have:=hp _ hx;simp[U4] at this
  have ha:pO.all∉W:=fun hk=>by have:=hp _ hk;simp[U4] at this
  exact⟨fun A hA=>h.arr x A hA hn ha,h.ER x hn ha⟩
 |k x=>trivial
 |all=>trivial
theorem Bf{st s:St}(h1:s.cg=st.cg)(h2:s.cM=st.cM)(h3:s.fK=st.fK)(h4:s.ER=st.ER)(p:pO):sr st s p:=by
 cases p with
 |o ob off n=>exact fun ls hl=>⟨ls,by simpa only[St.dL,h1] using hl,rfl,fun _ _ _=>rfl⟩
 |a x=>exact⟨fun A hA=>(by simpa only[St.arr,h2,h3] using hA),by simp only[St.dA,h4]⟩
 |k x=>trivial
 |all=>trivial
theorem VE{st s:St}{o off n:Nat}{ls wX:List ag}{c:List ag}(hb:s.cD=st.cD)(hl:wX.length=ls.length)(hj:∀ j,off≤j→j<off+n→wX[j]? = ls[j]?)(h:qo (st.jV o 0 ls) off n=some c):qo (s.jV o 0 wX) off n=some c:=by
 have wh:∀(q:St) (l:List ag) (i j:Nat),(q.jV o i l)[j]? = (l[j]?).map (q.res o (i+j)):=by
  intro q l;induction l with
  |nil=>intro i j;simp[St.jV]
  |cons x l ih=>
   intro i j;cases j with
   |zero=>simp[St.jV]
   |succ j=>simp only[St.jV,bpa];rw[ih,show i+1+j=i+(j+1) by omega]
 have Bb:∀ j l,s.res o j l=st.res o j l:=fun j l=>by cases l<;>simp[St.res,hb]
 unfold qo at h ⊢;rw[iJ] at h ⊢;rw[hl];cases hc:Nat.ble (off+n) ls.length with
 |false=>simp[hc] at h
 |true=>
  simp only[hc,Q9,OF] at h ⊢;rw[←h];apply bHa;intro k;by_cases hk:k<n
  ·rw[bza hk,bza hk,bRa,bRa,wh,wh,hj _ (by omega) (by omega)]
   congr 1
   funext l;exact Bb _ l
  ·rw[bTa (by simp;omega),bTa (by simp;omega)]
theorem VN(ho:uS o.op=true)(hd:xV E o st=true)(hb:ke st s)(he:∀ x∈o.op.operands,ev E s x=ev E st x)(hk:∀ p∈vE E o st,sr st s p):
  xV E o s=true∧∀{R:Type} {r:R} {K:ab→Option R},lY E o st (fun v _=>K v) (fun _ _=>none)=some r→lY E o s (fun v _=>K v) (fun _ _=>none)=some r:=by
 have hbl:s.cD=st.cD:=hb.2.2.1;have mA:∀{x:Operand} {a:Nat},(ev E st x).bN=.mA a→(∀ p∈fH [(ev E st x).bN],sr st s p)→∀ A,st.arr a=some A→s.arr a=some A:=fun {x a} hx hh A hA=>(hh (.a a) (by rw[hx];simp[fH])).1 A hA
 constructor
 ·unfold xV at hd ⊢
  split
  ·rename_i T x lo hi mx mm
   simp only[mm] at hd;rw[he x (by simp[mm,Op.operands])]
   split
   ·rename_i a ha
    rw[ha] at hd;simp only at hd;cases hA:st.arr a with
    |none=>simp[hA] at hd
    |some A=>rw[mA ha (fun p hp=>hk p (by simp only[vE,mm];exact hp)) A hA];simpa[hA] using hd
   ·rfl
  ·rfl
 ·intro R r K h
  unfold lY at h ⊢;split at h<;>rename_i mm<;>simp only[mm,uS,asa] at ho
  ·rw[he _ (by simp[mm,Op.operands])];exact h
  ·rw[he _ (by simp[mm,Op.operands])];exact h
  ·rename_i c a b
   rw[he c (by simp[mm,Op.operands]),he a (by simp[mm,Op.operands]),he b (by simp[mm,Op.operands])];exact h
  ·rw[he _ (by simp[mm,Op.operands])];exact h
  ·rename_i T hZ
   have:(hZ.toList.map fun p=>(p.1,ev E s p.2))=hZ.toList.map fun p=>(p.1,ev E st p.2):=bYa fun p hp=>by rw[he p.2 (by simp[mm,Op.operands];exact⟨p.1,by simpa using hp⟩)]
   rw[this];exact h
  ·rename_i T x
   rw[he x (by simp[mm,Op.operands])]
   have hk:∀ p∈(match (ev E st x).bN with | .np ob off=>[pO.o ob off (xh E T)] | .DT a _ _ _=>[.a a] | .L9 a _ _=>[.a a]|_=>[]),sr st s p:=fun p hp=>hk p (by simp only[vE,mm];exact hp)
   unfold yM at h ⊢;split at h
   ·cases h
   ·rename_i ti hT
    simp only[hT];split at h
    ·rename_i ob off hx
     rw[hx] at hk;split at h
     ·rename_i ls hl
      obtain⟨wX,h1,h2,h3⟩:=hk _ (Q7.2 rfl) ls hl;split at h
      ·rename_i c hc
       have mF:xh E T=ti.size:=by simp[xh,hT]
       rw[mF] at h3;simp only[h1,VE hbl h2 h3 hc];exact h
      ·cases h
     ·cases h
    ·exact h
    ·exact h
    ·rename_i a sz i off hx
     rw[hx] at hk;split at h
     ·rename_i A hA
      have hv:=(hk _ (Q7.2 rfl)).2;simp only[(hk _ (Q7.2 rfl)).1 A hA,hv];exact h
     ·cases h
    ·rename_i a k n hx
     rw[hx] at hk;split at h
     ·rename_i A hA
      simp only[(hk _ (Q7.2 rfl)).1 A hA];exact h
     ·cases h
    ·cases h
  ·rename_i op T x y ty
   rw[he x (by simp[mm,Op.operands]),he y (by simp[mm,Op.operands])];exact h
  ·rename_i op T x
   rw[he x (by simp[mm,Op.operands])];exact h
  ·rename_i S D x
   rw[he x (by simp[mm,Op.operands])]
   have hk:∀ p∈fH [(ev E st x).bN],sr st s p:=fun p hp=>hk p (by simp only[vE,mm];exact hp)
   have hA:∀ a,(ev E st x).bN=.mA a→∀ A,st.arr a=some A→s.arr a=some A:=fun a hx=>mA hx hk;revert h hA;generalize ev E st x=X;intro h hA;unfold pE at h ⊢;split at h
   ·rename_i si di hS hD
    split at h
    ·exact h
    ·exact h
    ·rename_i l
     split at h
     ·exact h
     ·rename_i a _
      split at h
      ·rename_i A hA'
       have:=hA a rfl A hA';simp only[this];exact h
      ·cases h
     ·cases h
    ·cases h
   ·cases h
  ·rename_i T x lo hi mx
   have hk:∀ p∈fH [(ev E st x).bN],sr st s p:=fun p hp=>hk p (by simp only[vE,mm];exact hp)
   rw[he x (by simp[mm,Op.operands])]
   have e1:lo.map (ev E s)=lo.map (ev E st):=by cases lo<;>simp;exact he _ (by simp[mm,Op.operands])
   have e2:hi.map (ev E s)=hi.map (ev E st):=by cases hi<;>simp;exact he _ (by simp[mm,Op.operands])
   have e3:mx.map (ev E s)=mx.map (ev E st):=by cases mx<;>simp;exact he _ (by simp[mm,Op.operands])
   rw[e1,e2,e3];simp only[xV,mm] at hd;have hA:∀ a,(ev E st x).bN=.mA a→∀ A,st.arr a=some A→s.arr a=some A:=fun a hx=>mA hx hk;revert hd h hA;generalize (ev E st x)=X;generalize lo.map (ev E st)=LO;generalize hi.map (ev E st)=HI;generalize mx.map (ev E st)=MX;intro h hd hA;unfold tI at h ⊢;split at h
   ·exact h
   ·split at h
    ·split at h
     ·rename_i hX;simp only[hX];exact h
     ·rename_i a hX
      rw[hX] at hd;split at h
      ·rename_i A hA'
       have:=hA a hX A hA';simp only[hA'] at hd;simp only[hX,this];simp only[hd,Q9] at h ⊢;exact h
      ·cases h
     ·cases h
    ·cases h
   ·cases h
  ·rename_i T x f
   rw[he x (by simp[mm,Op.operands])];exact h
  ·rename_i T x f
   rw[he x (by simp[mm,Op.operands])];exact h
  ·rename_i T x i
   have hk:∀ p∈fH [(ev E st x).bN],sr st s p:=fun p hp=>hk p (by simp only[vE,mm];exact hp)
   rw[he x (by simp[mm,Op.operands]),he i (by simp[mm,Op.operands])]
   have hA:∀ a,(ev E st x).bN=.mA a→∀ A,st.arr a=some A→s.arr a=some A:=fun a hx=>mA hx hk;revert h hA;generalize ev E st x=X;generalize ev E st i=Y;intro h hA;unfold mn at h ⊢;split at h
   ·split at h
    ·split at h
     ·rename_i hX;simp only[hX];exact h
     ·rename_i a hX
      split at h
      ·rename_i A hA'
       simp only[hX,hA a hX A hA'];exact h
      ·cases h
     ·cases h
    ·cases h
   ·split at h
    ·split at h
     ·rename_i a hX
      split at h
      ·rename_i A hA'
       simp only[hX,hA a hX A hA'];exact h
      ·cases h
     ·rename_i hX;simp only[hX];exact h
     ·cases h
    ·cases h
   ·cases h
  ·rename_i T x i
   rw[he x (by simp[mm,Op.operands]),he i (by simp[mm,Op.operands])];exact h
  ·rename_i x n
   rw[he x (by simp[mm,Op.operands])];exact h
  ·rename_i c
   have hk:∀ p∈nr (c.args.toList.map (ev E st)),sr st s p:=fun p hp=>hk p (by simp only[vE,mm];exact hp)
   have ea:c.args.toList.map (ev E s)=c.args.toList.map (ev E st):=bYa fun x hx=>he x (by simp[mm,Op.operands,Call.operands];exact .inr (by simpa using hx))
   rw[ea];split at h
   ·rename_i b hb
    simp only[hb] at ho ⊢;have agU:∀{v:ab} {n:Int},(∀ p∈v.te,sr st s p)→lenOf st v.bN=some n→lenOf s v.bN=some n:=fun {v n} hv hn=>by
     cases v with
     |one l=>
      cases l with
      |mA a=>
       simp only[ab.bN,lenOf] at hn ⊢;cases hA:st.arr a with
       |none=>simp[hA] at hn
       |some A=>rw[(hv (.a a) (by simp[ab.te,fH])).1 A hA];simpa[hA] using hn
      |eV t d=>cases t<;>exact hn
      |_=>exact hn
     |_=>exact hn
    revert hk h;generalize c.args.toList.map (ev E st)=vs;intro hk h;unfold nB at h ⊢;split at h
    ·rename_i v
     split at h
     ·exact h
     ·split at h
      ·rename_i a vr sz i off hl
       have hve:v=.one (.Fb a vr sz i off):=by cases v<;>simp[ab.bN] at hl;rw[hl]
       have hka:=hk (.a a) (by rw[hve];simp[nr,ab.te,fH])
       split at h
       ·rename_i A hA
        simp only[hka.1 A hA,hka.2];exact h
       ·cases h
      ·split at h
       ·rename_i n h2 h3
        simp only[agU (fun p hp=>hk p (by simp[nr,hp])) h2,h3];exact h
       ·cases h
     ·cases h
    ·simp at ho
    ·exact h
    ·exact h
    ·cases h
   ·rename_i f hf;simp only[hf,asa] at ho
   ·cases h
  ·rename_i T x
   rw[he x (by simp[mm,Op.operands])];exact h
end
end Go.Fx
namespace Go.Fx
section
variable {P:Program} {E:sb} (hE:iq P E.ia) {X:mz} {st:St} {G:Gh} {w:World}
include hE
theorem Uw{o:Oper}{act:Act}{v:ab}(hs:uS o.op=true)(hd:xV E o st=true)(h:HD E o st=some ⟨v,st,true⟩)(zd:nv E.gt X.S0)(hm:ay X st G w)(hr:bM G st act):
  ∃ u G',(execOp act.eval o).run P w=.ok (.value u) w∧ay X st G' w∧(∀ a,bM G st a→bM G' st a)∧aP G' v u:=by
 have hg:nv E.gt G.S:=zd.mono hm.s0;have ld:∀{s:Sem Value},(∃ av u,s.run P w=.ok u w∧aP G av u∧oc av st=some ⟨v,st,true⟩)→(execOp act.eval o=do pure (.value (←s)))→
   ∃ u G',(execOp act.eval o).run P w=.ok (.value u) w∧ay X st G' w∧(∀ a,bM G st a→bM G' st a)∧aP G' v u:=fun {s} ⟨av,u,h1,h2,h3⟩ he=>by
  simp only[oc,OF,Out.mk.injEq] at h3;exact⟨u,G,by rw[he,aKa,h1];rfl,hm,fun _ h=>h,by rw[←h3.1];exact h2⟩
 have Ph:∀{av:ab} {u:Value},oc av st=some ⟨v,st,true⟩→aP G av u→(execOp act.eval o).run P w=.ok (.value u) w→
   ∃ u G',(execOp act.eval o).run P w=.ok (.value u) w∧ay X st G' w∧(∀ a,bM G st a→bM G' st a)∧aP G' v u:=fun {av u} h3 h2 he=>by
  simp only[oc,OF,Out.mk.injEq] at h3;exact⟨u,G,he,hm,fun _ h=>h,by rw[←h3.1];exact h2⟩
 unfold HD lY at h;split at h<;>rename_i ho<;>simp only[ho,uS,asa] at hs
 ·rename_i x
  exact Ph h (fw hg hr x) (by simp[execOp,ho])
 ·rename_i x
  exact Ph h (fw hg hr x) (by simp[execOp,ho])
 ·rename_i c a b
  cases hc:(ev E st c).F4 with
  |none=>simp[hc] at h
  |some b'=>
   simp only[hc] at h;have hb:=vM hc (fw hg hr c);cases b' with
   |true=>simp only[Q9] at h;exact Ph h (fw hg hr a) (by simp only[execOp,ho,hb];rfl)
   |false=>simp only[ana] at h;exact Ph h (fw hg hr b) (by simp only[execOp,ho,hb];rfl)
 ·rename_i x
  have hx:=fw hg hr x;have key:(∃ a,act.eval x=.pointer (some a))→oc (ev E st x) st=some ⟨v,st,true⟩→∃ u G',(execOp act.eval o).run P w=.ok (.value u) w∧ay X st G' w∧(∀ a,bM G st a→bM G' st a)∧aP G' v u:=fun⟨a,ha⟩ hk=>
   Ph hk hx (by simp only[execOp,ho,ha];rfl)
  cases hv:ev E st x with
  |one l=>
   rw[hv] at h hx key;cases l with
   |np ob off=>exact key ⟨_,hx⟩ (by simpa[ab.bN] using h)
   |DT a sz i off=>obtain⟨b,len,cap,h1,h2,h3⟩:=hx;exact key ⟨_,h3⟩ (by simpa[ab.bN] using h)
   |PK t d off=>obtain⟨b,arr,elem,fz,pre,cs,post,h1,h2,h3,h4⟩:=hx;exact key ⟨_,h4⟩ (by simpa[ab.bN] using h)
   |_=>simp[ab.bN] at h
  |_=>rw[hv] at h;simp[ab.bN] at h
 ·rename_i T hZ
  refine ld (N9 hE h hm (Ja hg hr _)) ?_;have:(List.map (fun p=>(p.1,act.eval p.2)) hZ.toList).toArray=hZ.map fun(i,x)=>(i,act.eval x):=by rw[←bMa]
  rw[this];simp only[execOp,ho]
 ·rename_i T x
  exact ld (KC hE h hm (fw hg hr x)) (by simp only[execOp,ho])
 ·rename_i op T x y u
  exact ld (TW hE h hm (fw hg hr x) (fw hg hr y)) (by simp only[execOp,ho];rfl)
 ·rename_i op T x
  exact ld (WN h (fw hg hr x)) (by simp only[execOp,ho])
 ·rename_i S D x
  exact ld (Jg hE h hm (fw hg hr x)) (by simp only[execOp,ho])
 ·rename_i T x lo hi mx
  have opt:∀(q:Option Operand),(∀ a,q.map (ev E st)=some a→∃ v,q.map act.eval=some v∧aP G a v)∧(q.map (ev E st)=none→q.map act.eval=none):=fun q=>by
   cases q with
   |none=>simp
   |some x=>simp;exact fw hg hr x
  obtain⟨av,u,st',G',h1,h2,h3,h4,h5⟩:=Oi hE h hm (fw hg hr x) (opt lo).1 (opt lo).2 (opt hi).1 (opt hi).2 (opt mx).2;simp only[oc,OF,Out.mk.injEq,a7a] at h5;obtain⟨rfl,rfl⟩:=h5;exact⟨u,G',by simp only[execOp,ho,aKa,h1];rfl,h2,h3,h4⟩
 ·rename_i T x f
  exact ld (Eu hE h (fw hg hr x)) (by simp only[execOp,ho])
 ·rename_i T x f
  cases ha:(ev E st x).isAgg with
  |false=>simp[ha] at h
  |true=>simp only[ha,Q9] at h;exact ld (Oc hE h hm (fw hg hr x) (Eb ha (fw hg hr x))) (by simp only[execOp,ho])
 ·rename_i T x i
  exact ld (Ew hE h hm (fw hg hr x) (fw hg hr i)) (by simp only[execOp,ho])
 ·rename_i T x i
  exact ld (Od hE h (fw hg hr x) (fw hg hr i)) (by simp only[execOp,ho])
 ·rename_i x n
  have hx:=fw hg hr x;split at h
  ·rename_i vs hv
   rw[hv] at hx;obtain⟨us,hu,ha⟩:=hx;cases hn:vs[n]? with
   |none=>simp[hn] at h
   |some p=>
    simp only[hn] at h;obtain⟨u,hu2,hp⟩:=ha.wh hn;refine ld (s:=Instr.extract (act.eval x) n) ⟨_,u,by simp[Instr.extract,hu,hu2],?_,h⟩ (by simp only[execOp,ho])
    unfold Ex;split at hp
    ·rename_i hc;simp only[hc,Q9];exact hp
    ·rename_i hc
     obtain⟨l,e,hl⟩:=hp;simp only[bva] at hc;simp only[hc,ana,e];exact hl
  ·cases h
 ·rename_i c
  split at h
  ·rename_i b hb
   simp only[hb] at hs;have xX:=RW hg hr c.args.toList;obtain⟨cs0,Hn⟩:∃ cs0,(execOp act.eval o).run P w=(builtin b c.argTypes o.type cs0 (c.args.map act.eval)).run P w:=
    ⟨_,by simp only[execOp,ho,resolve,hb,aKa,a8a,aDa,invoke];rfl⟩
   have e1:(List.map act.eval c.args.toList).toArray=c.args.map act.eval:=by rw[←bMa]
   have e2:c.argTypes.toList.toArray=c.argTypes:=by simp
   rw[←e1,←e2] at Hn;revert h Hn xX;generalize c.args.toList.map (ev E st)=vs;generalize c.args.toList.map act.eval=us;generalize c.argTypes.toList=ts;intro h xX Hn;unfold nB at h;split at h
   ·rename_i v'
    obtain⟨u,rfl⟩:∃ u,us=[u]:=by
     cases us with
     |nil=>exact xX.elim
     |cons u us=>cases us with
      |nil=>exact⟨u,rfl⟩
      |cons _ _=>exact xX.2.elim
    cases ts with
    |nil=>simp at h
    |cons t ts=>
     simp only[bba,bOa] at h;split at h
     ·rename_i hT
      split at h
      ·rename_i s hs
       cases C8 hs xX.1;have hu:=(hE _ _ hT).str;exact Ph h (kH .i64 _) (by rw[Hn];simp[builtin,Builtin.len_,aCa hu,kl,goInt];rfl)
      ·cases h
     ·rename_i hT
      split at h
      ·rename_i a vr sz i off hl
       have hr:=xX.1;rw[show v' = .one (.Fb a vr sz i off) by cases v'<;>simp[ab.bN] at hl;rw[hl]] at hr
       split at h
       ·rename_i A hA
        cases hc:(A.sh||!Md.lj A.md .bK||!Nat.beq vr (st.dA a)||!Nat.beq sz A.t.size||!A.t.rE) with
        |true=>rw[hc] at h;cases h
        |false=>
         rw[hc,ana] at h;obtain⟨x,hx,h⟩:=awa.1 h;split at h
         ·rename_i n hn
          obtain⟨b,m,c,hv',rfl⟩:=Qw hE hm hr hA hc hx hn;exact Ph h (kH .i64 _) (by rw[Hn];simp only[builtin,aKa,Mu hE hT hv',aDa,a8a])
         ·cases h
       ·cases h
      ·split at h
       ·rename_i n hn hs
        obtain⟨a,m,c,hv',rfl⟩:=T0 hE hn hs hm xX.1;exact Ph h (kH .i64 _) (by rw[Hn];simp only[builtin,aKa,Mu hE hT hv',aDa,a8a])
       ·cases h
     ·cases h
   ·simp at hs
   ·rename_i v' vs
    cases us with
    |nil=>exact xX.elim
    |cons u us=>
     split at h
     ·rename_i k a hi
      split at h
      ·rename_i n hn
       cases qb hi xX.1;exact Ph h (kH _ _) (by rw[Hn];simp only[builtin,Builtin.min_,aKa,Nq hn xX.2,aDa,a8a])
      ·cases h
     ·cases h
   ·rename_i v' vs
    cases us with
    |nil=>exact xX.elim
    |cons u us=>
     split at h
     ·rename_i k a hi
      split at h
      ·rename_i n hn
       cases qb hi xX.1;exact Ph h (kH _ _) (by rw[Hn];simp only[builtin,Builtin.max_,aKa,Np hn xX.2,aDa,a8a])
      ·cases h
     ·cases h
   ·cases h
  ·rename_i f hf;simp only[hf,asa] at hs
  ·cases h
 ·rename_i T x
  cases hT:E.ia T with
  |none=>simp[hT] at h
  |some ti=>
   simp only[hT] at h;obtain⟨d,u1,u2⟩:=(hE T ti hT).uZ;split at h
   ·cases h
   ·rename_i ls hl hd
    refine ld (s:=Instr.makeInterface T (act.eval x)) ⟨.Ak T ls,.iface T (act.eval x),?_,⟨_,_,rfl,rfl,mv hm hl (fw hg hr x)⟩,h⟩ (by simp only[execOp,ho])
    simp only[Instr.makeInterface,aKa,aCa u1,aDa];generalize ti.iz=q at u2 hd;cases d with
    |interface _=>cases q<;>first|exact u2.elim|exact(hd rfl).elim
    |_=>rfl
   ·cases h
end
end Go.Fx
namespace Go.Fx
theorem gD:∀{x:Nat} {l:List Nat},eU x l=true↔x∈l
 |x,[]=>by simp[eU]
 |x,y::r=>by
  simp only[eU,a3a,aka,gD (l:=r)];constructor
  ·rintro(h|h)
   ·exact .inl (Q5 h)
   ·exact .inr h
  ·rintro(h|h)
   ·left;subst h;simp
   ·exact .inr h
theorem Ng(e:Edge):eb e=Region.binds .any e:=by unfold eb Region.binds;cases e.ground<;>rfl
def PM(all:List Oper)(i k:Nat):Prop:=∃ o,all[i]? = some o∧∃ e∈o.after,eb e=true∧e.on=k
def Clo(all:List Oper)(L:Nat→Prop):Prop:=∀ i k,L i→PM all i k→L k
inductive Reach(all:List Oper):Nat→Nat→Prop where
 |one {i k:Nat}:PM all i k→Reach all i k
 |adY {i j k:Nat}:PM all i j→Reach all j k→Reach all i k
theorem Clo.Uj{all:List Oper}{L:Nat→Prop}(h:Clo all L){i k:Nat}(r:Reach all i k):L i→L k:=by
 induction r with
 |one a=>exact fun hi=>h _ _ hi a
 |adY a _ ih=>exact fun hi=>ih (h _ _ hi a)
theorem Clo.ready{all:List Oper}{L:Nat→Prop}(h:Clo all L){i k:Nat}(hi:∀ k,PM all i k→L k)(r:Reach all i k):L k:=by
 cases r with
 |one a=>exact hi _ a
 |adY a r=>exact h.Uj r (hi _ a)
theorem OH{k:Nat}:∀{l m:List Nat},k∈Yn l m→k∈l∨k∈m
 |[],m,h=>.inr h
 |x::r,m,h=>by
  simp only[Yn] at h;cases hb:eU x m with
  |true=>
   simp only[hb,Q9] at h;rcases OH h with h|h
   ·exact .inl (Q8 _ h)
   ·exact .inr h
  |false=>
   simp only[hb,ana] at h;rcases OH h with h|h
   ·exact .inl (Q8 _ h)
   ·rcases aka.1 h with rfl|h
    ·exact .inl (aqa ..)
    ·exact .inr h
theorem Qc{acc:List (List Nat)}{k:Nat}:∀{l:List Edge} {m:List Nat},k∈l.foldl (fun m e=>bif eb e then Yn (e.on::acc.getD e.on []) m else m) m→
  k∈m∨∃ e∈l,eb e=true∧(k=e.on∨k∈acc.getD e.on [])
 |[],m,h=>.inl h
 |e::l,m,h=>by
  rw[b0a] at h;rcases Qc h with h|⟨e',h1,h2,h3⟩
  ·cases hb:eb e with
   |false=>simp only[hb,ana] at h;exact .inl h
   |true=>
    simp only[hb,Q9] at h;rcases OH h with h|h
    ·refine .inr ⟨e,aqa ..,hb,?_⟩
     rcases aka.1 h with h|h
     ·exact .inl h
     ·exact .inr h
    ·exact .inl h
  ·exact .inr ⟨e',Q8 _ h1,h2,h3⟩
theorem V4{all:List Oper}:∀(rest pre:List Oper) (acc:List (List Nat)),all=pre++rest→acc.length=pre.length→(∀ i k,k∈acc.getD i []→Reach all i k)→
  ∀ i k,k∈(iK rest acc).getD i []→Reach all i k
 |[],pre,acc,_,_,h,i,k,hk=>h i k hk
 |o::r,pre,acc,fd,jI,h,i,k,hk=>by
  simp only[iK] at hk;refine V4 r (pre++[o]) _ (by rw[fd];simp) (by simp[jI]) (fun i k hk=>?_) i k hk
  rcases Nat.lt_trichotomy i acc.length with hi|hi|hi
  ·rw[a6a,aRa hi,←a6a] at hk
   exact h i k hk
  ·subst hi
   simp only[a6a,List.getElem?_concat_length,b8a] at hk;rcases Qc hk with hk|⟨e,h1,h2,h3⟩
   ·cases hk
   ·have ha:PM all acc.length e.on:=⟨o,by rw[fd,jI];simp,e,by simpa using h1,h2,rfl⟩
    rcases h3 with rfl|h3
    ·exact .one ha
    ·exact .adY ha (h _ _ (by rw[a6a];simpa[a6a] using h3))
  ·rw[a6a,bTa (by simp;omega)] at hk
   cases hk
theorem EV{all:List Oper}{i k:Nat}(h:k∈(iK all []).getD i []):Reach all i k:=
 V4 all [] [] rfl rfl (fun i k h=>by simp at h) i k h
theorem Mt{all:List Oper}{done:List Nat}{i:Nat}:rdy all done i=true↔i∉done∧∃ o,all[i]? = some o∧∀ e∈o.after,eb e=true→e.on∈done:=by
 unfold rdy;cases ho:all[i]? with
 |none=>simp
 |some o=>
  simp only[Q4,aLa,apa,a3a,OF,exists_eq_left'];constructor
  ·rintro⟨h1,h2⟩
   refine⟨(fun h=>(by rw[gD.2 h] at h1;cases h1)),fun e he hb=>?_⟩
   rcases h2 e (by simpa using he) with h|h
   ·rw[hb] at h;cases h
   ·exact gD.1 h
  ·rintro⟨h1,h2⟩
   refine⟨(by
    cases hm:eU i done with
    |false=>rfl
    |true=>exact absurd (gD.1 hm) h1),fun e he=>?_⟩
   cases hb:eb e with
   |false=>exact .inl rfl
   |true=>exact .inr (gD.2 (h2 e (by simpa using he) hb))
theorem Mm{all:List Oper}{done:List Nat}{k:Nat}:k∈(List.range all.length).filter (rdy all done)↔rdy all done k=true:=by rw[bSa,b3a];refine⟨fun h=>h.2,fun h=>⟨?_,h⟩⟩;obtain⟨_,o,ho,_⟩:=Mt.1 h;exact(aja.1 ho).1
theorem J3{all:List Oper}{A:List (List Nat)}:∀{n:Nat} {done:List Nat},∃ l,l∈iP all A n done
 |0,_=>⟨[],Q7.2 rfl⟩
 |n+1,done=>by
  simp only[iP];split
  ·exact⟨[],Q7.2 rfl⟩
  ·rename_i i r _
   split
   ·rename_i k _
    obtain⟨l,hl⟩:=J3 (all:=all) (A:=A) (n:=n) (done:=k::done);exact⟨k::l,aGa hl⟩
   ·obtain⟨l,hl⟩:=J3 (all:=all) (A:=A) (n:=n) (done:=i::done)
    exact⟨i::l,bka.2 ⟨i,aqa ..,aGa hl⟩⟩
theorem Oz{all:List Oper}{A:List (List Nat)}{k:Nat}:Lf all A k=true↔∃ o,all[k]? = some o∧pG all A k o=false:=by
 unfold Lf;cases h:all[k]? with
 |none=>simp
 |some o=>simp
end Go.Fx
namespace Go.Fx
theorem bM.put{G:Gh}{st:St}{act:Act}{d:Tmp}{av:ab}{v:Value}(hr:bM G st act)(hd:d<st.n)(hv:aP G av v):bM G (st.jX d av) (act.put (some d) v):=by
 obtain⟨h1,h2,h3⟩:=hr;refine⟨h1,by simp[Act.put,h2,St.jX],fun i x hx=>?_⟩
 rw[qj] at hx;simp only[Act.put];by_cases e:d=i
 ·subst e
  simp only[aua,OF] at hx;subst hx;have:d<act.tmps.size:=by rw[h2];exact hd
  simpa[Array.getD,this] using hv
 ·simp only[e,aca] at hx
  have:=h3 i x hx;simpa[aAa,Array.getElem?_setIfInBounds,e] using this
theorem bM.refine{G:Gh}{st:St}{act:Act}{d:Nat}{av:ab}(hr:bM G st act)(hv:aP G av (act.tmps.getD d undef)):bM G (st.jX d av) act:=by
 obtain⟨h1,h2,h3⟩:=hr;refine⟨h1,h2,fun i x hx=>?_⟩;rw[qj] at hx;by_cases e:d=i
 ·subst e;simp only[aua,OF] at hx;subst hx;exact hv
 ·simp only[e,aca] at hx;exact h3 i x hx
theorem ay.jX{X:mz}{st:St}{G:Gh}{w:World}(hm:ay X st G w)(d:Nat)(av:ab):ay X (st.jX d av) G w:=
 {
  sl:=hm.sl,sh:=hm.sh,ob:=fun o ls h=>by obtain⟨arr,elem,mid,g1,g2,g3⟩:=hm.ob o ls h;refine⟨arr,elem,mid,g1,g2,?_⟩;unfold hY at g3 ⊢;rw[jW (st:=st) (fun j l=>by simp)];exact g3
  ar:=hm.ar,ah:=hm.ah,nd:=hm.nd,pX:=hm.pX,dS:=hm.dS,sZ:=hm.sZ,s0:=hm.s0,sn:=hm.sn,fr:=hm.fr,sz:=hm.sz,os:=hm.os,tp:=hm.tp,out:=hm.out,pin:=hm.pin,bv:=hm.bv,ap:=hm.ap,hv:=hm.hv,ds:=hm.ds,hh:=hm.hh}
def yO(d:Option Tmp)(v:ab)(st:St):Option St:=oH d v st some
theorem QE{d:Option Tmp}{v:ab}{st:St}{R:Type}{r:R}{K:St→Option R}(h:oH d v st K=some r):∃ s,yO d v st=some s∧K s=some r:=by
 cases d with
 |none=>exact⟨st,rfl,h⟩
 |some d=>
  simp only[yO,oH] at h ⊢;cases hc:((look st.jh d).isSome||Nat.ble st.n d) with
  |true=>simp[hc] at h
  |false=>simp only[hc,ana] at h ⊢;exact⟨_,rfl,h⟩
theorem Bz{d:Option Tmp}{v:ab}{st s:St}(h:yO d v st=some s):
  ke st s∧s.cg=st.cg∧s.cM=st.cM∧(∀ t,(∀ e,d=some e→e≠t)→s.ib t=st.ib t)∧(∀ e,d=some e→s.ib e=some v∧e<st.n):=by
 cases d with
 |none=>simp only[yO,oH,OF] at h;subst h;exact⟨.refl _,rfl,rfl,fun _ _=>rfl,fun _ h=>by cases h⟩
 |some d=>
  simp only[yO,oH] at h;cases hc:((look st.jh d).isSome||Nat.ble st.n d) with
  |true=>simp[hc] at h
  |false=>
   simp only[hc,ana,OF] at h;subst h;simp only[aEa] at hc;refine⟨⟨rfl,rfl,rfl,rfl⟩,rfl,rfl,fun t ht=>by rw[qj,aza (ht d rfl)],fun e he=>?_⟩
   cases he;refine⟨by rw[qj,a4a rfl],?_⟩
   rcases cLa d st.n with h|h
   ·exact h
   ·have:=Nat.ble_eq_true_of_le h;rw[this] at hc;cases hc.2
theorem On{d:Option Tmp}{v:ab}{st s:St}(h:yO d v st=some s):s.ER=st.ER:=by
 cases d with
 |none=>simp only[yO,oH,OF] at h;subst h;rfl
 |some d=>
  simp only[yO,oH] at h;cases hc:((look st.jh d).isSome||Nat.ble st.n d) with
  |true=>simp[hc] at h
  |false=>simp only[hc,ana,OF] at h;subst h;rfl
theorem Ug{d:Option Tmp}{v:ab}{st s:St}(h:yO d v st=some s){X:mz}{G:Gh}{w:World}(hm:ay X st G w):ay X s G w:=by
 cases d with
 |none=>simp only[yO,oH,OF] at h;subst h;exact hm
 |some d=>
  simp only[yO,oH] at h;cases hc:((look st.jh d).isSome||Nat.ble st.n d) with
  |true=>simp[hc] at h
  |false=>simp only[hc,ana,OF] at h;subst h;exact hm.jX d v
theorem Uf{d:Option Tmp}{v:ab}{u:Value}{st s:St}(h:yO d v st=some s){G:Gh}{act:Act}(hr:bM G st act)(hv:aP G v u):bM G s (act.put d u):=by
 cases d with
 |none=>simp only[yO,oH,OF] at h;subst h;exact hr
 |some d=>
  obtain⟨_,_,_,_,h5⟩:=Bz h;have hd:=(h5 d rfl).2;simp only[yO,oH] at h;cases hc:((look st.jh d).isSome||Nat.ble st.n d) with
  |true=>simp[hc] at h
  |false=>simp only[hc,ana,OF] at h;subst h;exact hr.put hd hv
end Go.Fx
namespace Go.Fx
def vb(st s:St):Prop:=ke st s∧s.cg=st.cg∧(s.cM=st.cM∧s.ER=st.ER)∧∀ t,s.ib t=st.ib t
theorem vb.refl(st:St):vb st st:=⟨.refl _,rfl,⟨rfl,rfl⟩,fun _=>rfl⟩
theorem Jr{st:St}{g:Nat}{v:ab}(h:st.ib g=some v):vb st (st.jX g v):=
 ⟨⟨rfl,rfl,rfl,rfl⟩,rfl,⟨rfl,rfl⟩,fun t=>by
  rw[qj];by_cases e:g=t
  ·subst e;rw[a4a rfl,h]
  ·rw[aza e]⟩
theorem vb.Gl{st s:St}(h:vb st s){X:mz}{G:Gh}{w:World}(hm:ay X st G w):ay X s G w:=by
 obtain⟨⟨h1,h2,h3,h4⟩,h5,⟨h6,h8⟩,h7⟩:=h;have ho:∀ o,s.dL o=st.dL o:=fun o=>by simp only[St.dL,h5]
 have ha:∀ a,s.arr a=st.arr a:=fun a=>by simp only[St.arr,h6,(bja h4).1]
 have Bb:∀ o j l,s.res o j l=st.res o j l:=fun o j l=>by cases l<;>simp[St.res,h3]
 have jr:∀ x b,eR G s x b→eR G st x b:=fun x b hx=>by
  obtain⟨k,n⟩:=x;cases k with
  |false=>obtain⟨⟨ls,e⟩,e2⟩:=hx;exact⟨⟨ls,by rw[←ho];exact e⟩,e2⟩
  |true=>obtain⟨⟨A,e,e2⟩,e3⟩:=hx;exact⟨⟨A,by rw[←ha];exact e,e2⟩,e3⟩
 exact {
   sl:=hm.sl,sh:=hm.sh,ob:=fun o ls h=>(by
    obtain⟨arr,elem,mid,g1,g2,g3⟩:=hm.ob o ls (by rw[←ho];exact h)
    refine⟨arr,elem,mid,g1,g2,?_⟩;unfold hY at g3 ⊢;rw[jW (st:=st) (fun j l=>Bb o j l)];exact g3)
   ar:=fun a A h=>hm.ar a A (by rw[←ha];exact h),ah:=fun a A h=>hm.ah a A (by rw[←ha];exact h),nd:=fun a A h=>hm.nd a A (by rw[←ha];exact h)
   pX:=fun x y b hx hy=>hm.pX x y b (jr x b hx) (jr y b hy),dS:=fun x b hx=>hm.dS x b (jr x b hx),sZ:=fun x b hx=>hm.sZ x b (jr x b hx)
   s0:=hm.s0,sn:=hm.sn,fr:=hm.fr,sz:=hm.sz,os:=hm.os,tp:=hm.tp,out:=hm.out
   pin:=fun o p h=>(by obtain⟨⟨ls,e⟩,e2⟩:=hm.pin o p h;exact⟨⟨ls,by rw[ho];exact e⟩,e2⟩)
   bv:=fun o j u h=>(by obtain⟨e1,⟨ls,e2,e3⟩,e4⟩:=hm.bv o j u h;exact⟨by rw[h3];exact e1,⟨ls,by rw[ho];exact e2,e3⟩,e4⟩),ap:=fun a u h=>(by obtain⟨e1,⟨A,e2⟩,e3⟩:=hm.ap a u h;exact⟨by rw[(bja h4).2];exact e1,⟨A,by rw[ha];exact e2⟩,e3⟩),hv:=fun a=>(by rw[hm.hv a];simp only[St.dA,h8]),ds:=hm.ds,hh:=fun a A h=>hm.hh a A (by rw[←ha];exact h)}
theorem vb.et{st s:St}(h:vb st s){G:Gh}{act:Act}(hr:bM G st act):bM G s act:=
 ⟨hr.1,hr.2.1.trans h.1.1.symm,fun i v hv=>hr.2.2 i v (by rw[←h.2.2.2];exact hv)⟩
section
variable (E:sb) (all:List Oper)
def Wnt(o:Oper)(s:St):Prop:=o.guard=none∨∃ j so g,o.guard=some (j,so)∧p7 all j=some g∧s.ib g=some (.one (.eV .bool so))
def Unw(o:Oper)(s:St):Prop:=∃ j so g,o.guard=some (j,so)∧p7 all j=some g∧(s.ib g=some (.one .uZ)∨s.ib g=some (.one (.eV .bool (!so))))
def DC(i:Nat)(log:List (Nat×List pO))(st:St)(next:List (Nat×List pO)→St→Prop)(KPok:ab→St→Prop):Prop:=
 ∃ o,all[i]? = some o∧∃ BK,vb st BK∧
  ((Unw all o BK∧∃ s,yO o.dst (.one .uZ) BK=some s∧next log s)∨
   (Wnt all o BK∧
    (pG all (iK all []) i o=true→log.all (fun p=>eU p.1 ((iK all []).getD i [])||Iq p.2 (tY E o BK))=true∧
     ∃ u,HD E o BK=some u∧(u.ok=true→∃ s,yO o.dst u.v u.s=some s∧next log s)∧(u.ok=false→KPok u.v u.s))∧
    (pG all (iK all []) i o=false→xV E o BK=true∧∃ v,HD E o BK=some ⟨v,BK,true⟩∧∃ s,yO o.dst v BK=some s∧next ((i,vE E o BK)::log) s)))
def u6(Kok:St→Prop)(KPok:ab→St→Prop):Nat→List Nat→List (Nat×List pO)→St→Prop
 |0,_,_,st=>Kok st
 |n+1,done,log,st=>(match (List.range all.length).filter (rdy all done) with
  |[]=>Kok st
  |i::r=>(match (i::r).find? (Lf all (iK all [])) with
   |some k=>DC E all k log st (u6 Kok KPok n (k::done)) KPok
   |none=>∀ k∈i::r,DC E all k log st (u6 Kok KPok n (k::done)) KPok))
theorem DC.mono{i:Nat}{log:List (Nat×List pO)}{st:St}{next acU:List (Nat×List pO)→St→Prop}{KPok SI:ab→St→Prop}(h:DC E all i log st next KPok)(hn:∀ lg s,next lg s→acU lg s)(hp:∀ v s,KPok v s→SI v s):DC E all i log st acU SI:=by
 obtain⟨o,h1,BK,h2,h3⟩:=h;refine⟨o,h1,BK,h2,?_⟩;rcases h3 with ⟨h3,s1,h4,h5⟩|⟨h3,h4,h5⟩
 ·exact .inl ⟨h3,s1,h4,hn _ _ h5⟩
 ·refine .inr ⟨h3,fun ht=>?_,fun ht=>?_⟩
  ·obtain⟨g1,u,g2,g3,g4⟩:=h4 ht
   exact⟨g1,u,g2,fun hu=>(by obtain⟨s1,g5,g6⟩:=g3 hu;exact⟨s1,g5,hn _ _ g6⟩),fun hu=>hp _ _ (g4 hu)⟩
  ·obtain⟨g1,v,g2,s1,g3,g4⟩:=h5 ht
   exact⟨g1,v,g2,s1,g3,hn _ _ g4⟩
theorem u6.mono{Kok aez:St→Prop}{KPok SI:ab→St→Prop}(hk:∀ s,Kok s→aez s)(hp:∀ v s,KPok v s→SI v s):∀{n:Nat} {done:List Nat} {log:List (Nat×List pO)} {st:St},u6 E all Kok KPok n done log st→u6 E all aez SI n done log st
 |0,_,_,_,h=>hk _ h
 |n+1,done,log,st,h=>by
  unfold u6 at h ⊢;split
  ·rename_i hf;rw[hf] at h;exact hk _ h
  ·rename_i i r hf
   rw[hf] at h;simp only at h;split
   ·rename_i k hk';rw[hk'] at h;exact h.mono E all (fun lg s=>u6.mono hk hp) hp
   ·rename_i hk';rw[hk'] at h;exact fun k hkm=>(h k hkm).mono E all (fun lg s=>u6.mono hk hp) hp
inductive aa4(n:Nat)(done:List Nat):Prop where
 |sw:iP all (iK all []) n done=[[]]→(∀ Kok KPok log st,u6 E all Kok KPok n done log st→Kok st)→((∀ i,rdy all done i=false)∨n=0)→aa4 n done
 |Lf (m k:Nat):n=m+1→rdy all done k=true→(∀ o,all[k]? = some o→pG all (iK all []) k o=false)→(∀ r∈iP all (iK all []) m (k::done),k::r∈iP all (iK all []) n done)→
  (∀ Kok KPok log st,u6 E all Kok KPok n done log st→DC E all k log st (u6 E all Kok KPok m (k::done)) KPok)→aa4 n done
 |af7 (m:Nat):n=m+1→(∃ k,rdy all done k=true)→(∀ k,rdy all done k=true→(∀ o,all[k]? = some o→pG all (iK all []) k o=true)∧(∀ r∈iP all (iK all []) m (k::done),k::r∈iP all (iK all []) n done)∧
  (∀ Kok KPok log st,u6 E all Kok KPok n done log st→DC E all k log st (u6 E all Kok KPok m (k::done)) KPok))→aa4 n done
def lh(n:Nat)(done:List Nat):Prop:=(iP all (iK all []) n done=[[]]∧∀ Kok KPok log st,u6 E all Kok KPok n done log st→Kok st)∨
 ∃ m,n=m+1∧(∃ k,rdy all done k=true)∧∀ k,rdy all done k=true→(∀ o,all[k]? = some o→pG all (iK all []) k o=true)∧(∀ r∈iP all (iK all []) m (k::done),k::r∈iP all (iK all []) n done)∧
  (∀ Kok KPok log st,u6 E all Kok KPok n done log st→DC E all k log st (u6 E all Kok KPok m (k::done)) KPok)
theorem ace(n:Nat)(done:List Nat):aa4 E all n done:=by
 cases n with
 |zero=>exact .sw rfl (fun _ _ _ _ h=>h) (.inr rfl)
 |succ n=>
  cases hf:(List.range all.length).filter (rdy all done) with
  |nil=>
   refine .sw (by simp only[iP,hf]) (fun _ _ _ _ h=>by unfold u6 at h;rw[hf] at h;exact h) (.inl fun i=>?_)
   cases hr:rdy all done i with
   |false=>rfl
   |true=>have:=Mm.2 hr;rw[hf] at this;cases this
  |cons i r=>
   cases hs:(i::r).find? (Go.Fx.Lf all (iK all [])) with
   |some k=>
    have hm:=bVa hs;rw[←hf] at hm;obtain⟨o,h1,h2⟩:=Oz.1 (cua hs);refine .Lf n k rfl (Mm.1 hm) (fun o' ho'=>by rw[h1] at ho';cases ho';exact h2) (fun r' hr'=>?_) (fun _ _ _ _ h=>?_)
    ·simp only[iP,hf,hs];exact aGa hr'
    ·unfold u6 at h;rw[hf] at h;simp only[hs] at h;exact h
   |none=>
    refine .af7 n rfl ⟨i,Mm.1 (by rw[hf];exact aqa ..)⟩ fun k hk=>?_
    have hm:=Mm.2 hk;rw[hf] at hm;refine⟨fun o ho=>?_,fun r' hr'=>?_,fun _ _ _ _ h=>?_⟩
    ·cases ht:pG all (iK all []) k o with
     |true=>rfl
     |false=>exact absurd (Oz.2 ⟨o,ho,ht⟩) (by have:=List.find?_eq_none.1 hs k hm;simpa using this)
    ·simp only[iP,hf,hs];exact bka.2 ⟨k,hm,aGa hr'⟩
    ·unfold u6 at h;rw[hf] at h;simp only[hs] at h;exact h k hm
end
section
variable {E:sb} {all:List Oper}
theorem tn{A:List (List Nat)}{i:Nat}{o:Oper}(h:pG all A i o=false):uS o.op=true:=by unfold pG at h;simp only[aEa,bla] at h;exact h.1
variable (hD:∀ f s,E.BA f=some s→oS s)
include hD
omit hD in
theorem Om{ι:Type}(x0:ι){R:Type}{r:R}{d:Option Tmp}{v:ab}{st:St}{K:ι→St→Option R}(h:∀ x,oH d v st (K x)=some r):∃ s,yO d v st=some s∧∀ x,K x s=some r:=by obtain⟨s,h1,_⟩:=QE (h x0);refine⟨s,h1,fun x=>?_⟩;obtain⟨s',h3,h4⟩:=QE (h x);rw[h1] at h3;cases h3;exact h4
theorem aaK{ι:Type}(x0:ι){R:Type}{r:R}{i:Nat}{log:List (Nat×List pO)}{st:St}{K:ι→List (Nat×List pO)→St→Option R}{KP:ab→St→Option R}(h:∀ x,W4 E all (iK all []) i log st (K x) KP=some r):
  DC E all i log st (fun lg s=>∀ x,K x lg s=some r) (fun v s=>KP v s=some r):=by
 simp only[W4] at h;split at h
 ·cases h x0
 ·rename_i o ho
  refine⟨o,ho,?_⟩;have Av:∀{BK:St},(∀ x,Gq E all (iK all []) i o log BK (K x) KP=some r)→
    (pG all (iK all []) i o=true→log.all (fun p=>eU p.1 ((iK all []).getD i [])||Iq p.2 (tY E o BK))=true∧
     ∃ u,HD E o BK=some u∧(u.ok=true→∃ s,yO o.dst u.v u.s=some s∧∀ x,K x log s=some r)∧(u.ok=false→KP u.v u.s=some r))∧
    (pG all (iK all []) i o=false→xV E o BK=true∧∃ v,HD E o BK=some ⟨v,BK,true⟩∧∃ s,yO o.dst v BK=some s∧∀ x,K x ((i,vE E o BK)::log) s=some r):=fun {BK} h=>by
   unfold Gq at h;constructor
   ·intro ht
    simp only[ht,Q9] at h;cases hl:(log.all fun p=>eU p.1 ((iK all []).getD i [])||Iq p.2 (tY E o BK)) with
    |false=>simp only[hl,ana] at h;cases h x0
    |true=>
     simp only[hl,Q9] at h;obtain⟨u,h1,_⟩:=A3 hD (h x0);have h2:∀ x,sw (fun v st'=>oH o.dst v st' (K x log)) KP u=some r:=fun x=>by obtain⟨u',h3,h4⟩:=A3 hD (h x);rw[h1] at h3;cases h3;exact h4
     refine⟨rfl,u,h1,fun hu=>?_,fun hu=>?_⟩
     ·exact Om x0 (K:=fun x=>K x log) fun x=>by simpa only[sw,hu,Q9] using h2 x
     ·simpa only[sw,hu,ana] using h2 x0
   ·intro ht
    simp only[ht,ana] at h;cases hd:xV E o BK with
    |false=>simp only[hd,ana] at h;cases h x0
    |true=>
     simp only[hd,Q9] at h;obtain⟨u,h1,_⟩:=A3 hD (h x0);have hu:=Oj hD (tn ht) hd h1;have h2:∀ x,oH o.dst u.v BK (K x ((i,vE E o BK)::log))=some r:=fun x=>by obtain⟨u',h3,h4⟩:=A3 hD (h x);rw[h1] at h3;cases h3;rw[hu] at h4;simpa only[sw,Q9] using h4
     rw[hu] at h1;exact⟨rfl,u.v,h1,Om x0 (K:=fun x=>K x ((i,vE E o BK)::log)) h2⟩
  have skip:∀{BK:St},(∀ x,oH o.dst (.one .uZ) BK (K x log)=some r)→∃ s,yO o.dst (.one .uZ) BK=some s∧∀ x,K x log s=some r:=fun {BK} h=>Om x0 (K:=fun x=>K x log) h;split at h
  ·rename_i hg
   exact⟨st,.refl _,.inr ⟨.inl hg,Av h⟩⟩
  ·rename_i j so hg
   split at h
   ·cases h x0
   ·rename_i g hgd
    split at h
    ·rename_i c wM
     cases c with
     |true=>
      simp only[Q9] at h;have hs:=Jr wM;have hre:(st.jX g (.one (.eV .bool true))).ib g=some (.one (.eV .bool true)):=by rw[qj,a4a rfl]
      cases so with
      |true=>simp only[Q9] at h;exact⟨_,hs,.inr ⟨.inr ⟨j,_,g,hg,hgd,hre⟩,Av h⟩⟩
      |false=>simp only[ana] at h;exact⟨_,hs,.inl ⟨⟨j,_,g,hg,hgd,.inr hre⟩,skip h⟩⟩
     |false=>
      simp only[ana] at h;have hs:=Jr wM;have hre:(st.jX g (.one (.eV .bool false))).ib g=some (.one (.eV .bool false)):=by rw[qj,a4a rfl]
      cases so with
      |true=>simp only[Q9] at h;exact⟨_,hs,.inl ⟨⟨j,_,g,hg,hgd,.inr hre⟩,skip h⟩⟩
      |false=>simp only[ana] at h;exact⟨_,hs,.inr ⟨.inr ⟨j,_,g,hg,hgd,hre⟩,Av h⟩⟩
    ·rename_i wM
     exact⟨st,.refl _,.inl ⟨⟨j,_,g,hg,hgd,.inl wM⟩,skip h⟩⟩
    ·cases h x0
theorem Un{R:Type}{r:R}{K:St→Option R}{KP:ab→St→Option R}:∀{n:Nat} {done:List Nat} {log:List (Nat×List pO)} {st:St},(∀ l∈iP all (iK all []) n done,HJ E all (iK all []) l log st K KP=some r)→
  u6 E all (fun s=>K s=some r) (fun v s=>KP v s=some r) n done log st
 |0,done,log,st,h=>h [] (Q7.2 rfl)
 |n+1,done,log,st,h=>by
  have one:∀ k,(∀ l∈iP all (iK all []) n (k::done),k::l∈iP all (iK all []) (n+1) done)→DC E all k log st (u6 E all (fun s=>K s=some r) (fun v s=>KP v s=some r) n (k::done)) (fun v s=>KP v s=some r):=fun k hk=>by obtain⟨l0,hl0⟩:=J3 (all:=all) (A:=iK all []) (n:=n) (done:=k::done);refine(aaK hD (ι:={l // l∈iP all (iK all []) n (k::done)}) ⟨l0,hl0⟩ (K:=fun x lg s=>HJ E all (iK all []) x.1 lg s K KP) (fun x=>h (k::x.1) (hk x.1 x.2))).mono E all (fun lg s hn=>Un fun l hl=>hn ⟨l,hl⟩) (fun _ _ h=>h)
  unfold u6;split
  ·rename_i hf
   exact h [] (by simp only[iP,hf];exact Q7.2 rfl)
  ·rename_i i r hf
   split
   ·rename_i k hs
    exact one k fun l hl=>by simp only[iP,hf,hs];exact aGa hl
   ·rename_i hs
    exact fun k hkm=>one k fun l hl=>by simp only[iP,hf,hs];exact bka.2 ⟨k,hkm,aGa hl⟩
end
end Go.Fx
namespace Go.Fx
theorem vV{all:List Oper}{o:Oper}{j g:Nat}{so:Bool}(h:o.guard=some (j,so))(hg:p7 all j=some g):g∈sJ all o:=by simp[sJ,h,hg]
theorem TP{t:Nat}:∀{l:List Operand},Operand.tmp t∈l→t∈Sv l
 |x::r,h=>by
  rcases aka.1 h with rfl|h
  ·exact aqa ..
  ·have:=TP h
   cases x<;>first|exact Q8 _ this|exact this
theorem Gf{all:List Oper}{o:Oper}{t:Nat}(h:Operand.tmp t∈o.op.operands):t∈sJ all o:=
 aoa _ (TP (by simpa using h))
theorem J7{o:Oper}{l:List Nat}:Te o l=true↔∃ d,o.dst=some d∧d∈l:=by
 unfold Te;cases o.dst with
 |none=>simp
 |some d=>simp[gD]
structure YF(all:List Oper):Prop where
 dst:∀(i j:Nat) (a b:Oper) (d:Nat),all[i]? = some a→all[j]? = some b→a.dst=some d→b.dst=some d→i=j
 af8:∀(i j:Nat) (a b:Oper) (d:Nat),all[i]? = some a→all[j]? = some b→b.dst=some d→d∈sJ all a→i≠j→j∈(iK all []).getD i []∨i∈(iK all []).getD j []
 self:∀(i:Nat) (a:Oper) (d:Nat),all[i]? = some a→a.dst=some d→d∉sJ all a
 sel:∀(i:Nat) (a:Oper) cs b,all[i]? = some a→a.op≠.select cs b
 low:∀(i:Nat) (a:Oper) (e:Edge),all[i]? = some a→e∈a.after→eb e=true→e.on<i
theorem P5{all:List Oper}:RC all=true→∀(i j:Nat) (a b:Oper) (d:Nat),i<j→all[i]? = some a→all[j]? = some b→a.dst=some d→b.dst≠some d:=by
 induction all with
 |nil=>intro _ i j a b d _ ha;simp at ha
 |cons o r ih=>
  intro h i j a b d hij ha hb hd hbd;simp only[RC,Q4,aLa] at h;obtain⟨j,rfl⟩:∃ m,j=m+1:=⟨j - 1,by omega⟩
  rw[bpa] at hb;cases i with
  |zero=>rw[bba,OF] at ha;subst ha;have h1:=h.1;rw[hd] at h1;have h2:=aOa.1 h1 b (aZa hb);simp[hbd] at h2
  |succ i=>rw[bpa] at ha;exact ih h.2 i j a b d (by omega) ha hb hd hbd
theorem rB{all:List Oper}{i:Nat}{a:Oper}(h:all[i]? = some a):(a,i)∈all.zipIdx:=by rw[List.mem_zipIdx_iff_getElem?];simpa using h
theorem ab3{all:List Oper}(h:DS all (iK all [])=true):YF all:=by
 simp only[DS,Q4] at h;obtain⟨⟨⟨h1,h2⟩,h3⟩,h4⟩:=h;refine⟨fun i j a b d ha hb hd hd'=>?_,fun i j a b d ha hb hd hl gT=>?_,fun i a d ha hd hl=>?_,fun i a cs b ha=>?_,fun i a e ha he hb=>?_⟩
 ·rcases Nat.lt_trichotomy i j with hij|hij|hij
  ·exact absurd hd' (P5 h1 i j a b d hij ha hb hd)
  ·exact hij
  ·exact absurd hd (P5 h1 j i b a d hij hb ha hd')
 ·have:=apa.1 (apa.1 h2 _ (rB ha)) _ (rB hb)
  simp only[a3a,aLa] at this;rcases this with ((e|e)|e)|e
  ·exact absurd (Q5 e) gT
  ·rw[J7.2 ⟨d,hd,hl⟩] at e;cases e
  ·exact .inl (gD.1 e)
  ·exact .inr (gD.1 e)
 ·have:=apa.1 h4 _ (rB ha)
  simp only[Q4,aLa] at this;rw[J7.2 ⟨d,hd,hl⟩] at this;cases this.1
 ·have:=apa.1 h3 a (aZa ha)
  intro e;simp[e] at this
 ·have:=apa.1 h4 _ (rB ha)
  simp only[Q4,apa,a3a,aLa] at this;rcases this.2 e (by simpa using he) with h|h
  ·rw[hb] at h;cases h
  ·simpa[b1a] using h
theorem K0{all:List Oper}{i j:Nat}{a b:Oper}{d:Nat}(ha:all[i]? = some a)(hb:all[j]? = some b)(hd:b.dst=some d)(hl:d∈sJ all a)(hn:j∉(iK all []).getD i []):pG all (iK all []) j b=true:=by
 unfold pG;simp only[a3a];refine .inr (List.any_eq_true.2 ⟨(a,i),rB ha,?_⟩);simp only[Q4,aLa];refine⟨J7.2 ⟨d,hd,hl⟩,?_⟩;cases hm:eU j ((iK all []).getD i []) with
 |false=>rfl
 |true=>exact absurd (gD.1 hm) hn
section act
variable {all:List Oper} {a b:Act}
def Rd(T:Nat→Prop)(a b:Act):Prop:=∀ t,T t→a.tmps[t]? = b.tmps[t]?
theorem XD{o:Oper}(h:Rd (fun t=>t∈sJ all o) a b):∀ x∈o.op.operands,a.eval x=b.eval x:=fun x hx=>by
 cases x with
 |tmp t=>have:=h t (Gf hx);simp only[Act.eval,aAa,this]
 |_=>rfl
theorem Tl{o:Oper}(hs:∀ cs b,o.op≠.select cs b)(h:Rd (fun t=>t∈sJ all o) a b):execOp a.eval o=execOp b.eval o:=execOp_congr o hs (XD h)
theorem UM{ops:Array Oper}{o:Oper}(h:Rd (fun t=>t∈sJ ops.toList o) a b):Region.wanted o (yielded ops a.tmps)=Region.wanted o (yielded ops b.tmps):=by
 unfold Region.wanted;cases hg:o.guard with
 |none=>rfl
 |some p=>
  obtain⟨j,so⟩:=p;have:yielded ops a.tmps j=yielded ops b.tmps j:=by
   show(match (((ops[j]?).bind (·.dst)).bind (a.tmps[·]?)) with|some (.bool b)=>some b|_=>none)=(match (((ops[j]?).bind (·.dst)).bind (b.tmps[·]?)) with|some (.bool b)=>some b|_=>none)
   cases hd:(ops[j]?).bind (·.dst) with
   |none=>rfl
   |some g=>
    have hg':p7 ops.toList j=some g:=by simpa[p7] using hd
    simp only[bOa,h g (vV hg hg')]
  simp only[this]
end act
theorem OL{ops:Array Oper}{o:Oper}{s:St}{G:Gh}{a:Act}(hr:bM G s a)(h:Wnt ops.toList o s):Region.wanted o (yielded ops a.tmps)=true:=by
 rcases h with h|⟨j,so,g,h1,h2,h3⟩
 ·simp[Region.wanted,h]
 ·have hv:=vM (v:=.one (.eV .bool so)) rfl (hr.2.2 g _ h3)
  have IR:(ops[j]?).bind (·.dst)=some g:=by simpa[p7] using h2
  have NE:a.tmps[g]? = some (.bool so):=by
   rw[aAa] at hv;cases hq:a.tmps[g]? with
   |none=>rw[hq] at hv;cases hv
   |some u=>rw[hq] at hv;simpa using hv
  simp[Region.wanted,h1,yielded,IR,NE]
theorem OK{ops:Array Oper}{o:Oper}{s:St}{G:Gh}{a:Act}(hr:bM G s a)(h:Unw ops.toList o s):Region.wanted o (yielded ops a.tmps)=false:=by
 obtain⟨j,so,g,h1,h2,h3⟩:=h;have IR:(ops[j]?).bind (·.dst)=some g:=by simpa[p7] using h2
 rcases h3 with h3|h3
 ·have hv:a.tmps.getD g undef=undef:=hr.2.2 g _ h3
  rw[aAa] at hv;cases hq:a.tmps[g]? with
  |none=>simp[Region.wanted,h1,yielded,IR,hq]
  |some u=>rw[hq] at hv;simp only[b8a] at hv;subst hv;simp[Region.wanted,h1,yielded,IR,hq,undef]
 ·have hv:=vM (v:=.one (.eV .bool (!so))) rfl (hr.2.2 g _ h3)
  have NE:a.tmps[g]? = some (.bool (!so)):=by
   rw[aAa] at hv;cases hq:a.tmps[g]? with
   |none=>rw[hq] at hv;cases hv
   |some u=>rw[hq] at hv;simpa using hv
  cases so<;>simp[Region.wanted,h1,yielded,IR,NE]
end Go.Fx
namespace Go.Fx
theorem PZ{α:Type}{p q:α→Bool}:∀{l:List α},(∀ x∈l,q x=true→p x=true)→(∃ x∈l,p x=true∧q x=false)→l.countP q<l.countP p
 |[],_,⟨x,hx,_⟩=>by cases hx
 |a::l,h,⟨x,hx,h1,h2⟩=>by
  have B4:l.countP q≤l.countP p:=List.countP_mono_left fun y hy hq=>h y (Q8 _ hy) hq;rw[List.countP_cons,List.countP_cons];rcases aka.1 hx with rfl|hx
  ·simp only[h1,h2,aua,asa,aca];omega
  ·have:=PZ (fun y hy=>h y (Q8 _ hy)) ⟨x,hx,h1,h2⟩
   have ha:=h a (aqa ..);by_cases hq:q a=true
   ·simp only[hq,ha hq,aua];omega
   ·rw[aza hq];split<;>omega
theorem Sj{a:Act}{d:Option Tmp}{v:Value}{t:Nat}(h:d≠some t):(a.put d v).tmps[t]? = a.tmps[t]?:=by
 cases d with
 |none=>rfl
 |some d=>
  have:d≠t:=fun e=>h (by rw[e])
  simp[Act.put,boa this]
theorem sk(a:Act)(d:Option Tmp)(v:Value):(a.put d v).defers=a.defers:=by cases d<;>rfl
theorem Ey(a:Act)(d:Option Tmp)(v:Value):(a.put d v).tmps.size=a.tmps.size:=by cases d<;>simp[Act.put]
theorem aao{a b:Act}{d:Option Tmp}{v:Value}{t:Nat}(hs:a.tmps.size=b.tmps.size)(h:d=some t):(a.put d v).tmps[t]? = (b.put d v).tmps[t]?:=by subst h;simp[Act.put,Array.getElem?_setIfInBounds,hs]
section
variable {E:sb} {all:List Oper}
theorem Ot{o:Oper}{s st:St}(he:∀ x∈o.op.operands,ev E s x=ev E st x):vE E o s=vE E o st:=by
 unfold vE;split<;>rename_i mm
 ·rw[he _ (by simp[mm,Op.operands])]
 ·rw[he _ (by simp[mm,Op.operands])]
 ·rw[he _ (by simp[mm,Op.operands])]
 ·rw[he _ (by simp[mm,Op.operands])]
 ·rename_i c
  have:c.args.toList.map (ev E s)=c.args.toList.map (ev E st):=bYa fun x hx=>he x (by simp[mm,Op.operands,Call.operands];exact .inr (by simpa using hx))
  rw[this]
 ·rfl
theorem Wi{o:Oper}{s st:St}(h:∀ t∈sJ all o,s.ib t=st.ib t):∀ x∈o.op.operands,ev E s x=ev E st x:=fun x hx=>by
 cases x with
 |tmp t=>simp only[ev,h t (Gf hx)]
 |_=>rfl
theorem UN{o:Oper}{s st:St}(h:∀ t∈sJ all o,s.ib t=st.ib t)(hw:Wnt all o st):Wnt all o s:=by
 rcases hw with hw|⟨j,so,g,h1,h2,h3⟩
 ·exact .inl hw
 ·exact .inr ⟨j,so,g,h1,h2,by rw[h g (vV h1 h2)];exact h3⟩
theorem UI{o:Oper}{s st:St}(h:∀ t∈sJ all o,s.ib t=st.ib t)(hw:Unw all o st):Unw all o s:=by obtain⟨j,so,g,h1,h2,h3⟩:=hw;exact⟨j,so,g,h1,h2,by rw[h g (vV h1 h2)];exact h3⟩
variable (hD:∀ f s,E.BA f=some s→oS s)
include hD
theorem afJ{o:Oper}{s st:St}{v:ab}(ho:uS o.op=true)(hd:xV E o st=true)(h:HD E o st=some ⟨v,st,true⟩)(hb:ke st s)(he:∀ x∈o.op.operands,ev E s x=ev E st x)(hk:∀ p∈vE E o st,sr st s p):
  xV E o s=true∧HD E o s=some ⟨v,s,true⟩:=by
 obtain⟨h1,h2⟩:=VN ho hd hb he hk;refine⟨h1,?_⟩;have h3:=h2 (K:=some) (r:=v) (by rw[Y4 hD h])
 obtain⟨u,h4,h5⟩:=A3 hD h3;have h6:=Oj hD ho h1 h4;rw[h6] at h5 h4;simp only[sw,Q9,OF] at h5;rw[h4,h5]
where
 Y4 {o:Oper} {st:St} {v:ab} (hD:∀ f s,E.BA f=some s→oS s) (h:HD E o st=some ⟨v,st,true⟩):lY E o st (fun v _=>some v) (fun _ _=>none)=some v:=by rw[BZ hD h];rfl
def UT(E:sb)(all:List Oper)(i:Nat)(log:List (Nat×List pO))(s:St):Prop:=∃ o,all[i]? = some o∧pG all (iK all []) i o=false∧
 ((Unw all o s∧∀ d,o.dst=some d→s.ib d=some (.one .uZ)∧d<s.n)∨
  (Wnt all o s∧xV E o s=true∧(i,vE E o s)∈log∧∃ v,HD E o s=some ⟨v,s,true⟩∧∀ d,o.dst=some d→s.ib d=some v∧d<s.n))
theorem UT.li{k:Nat}{log NU:List (Nat×List pO)}{s s1:St}(hp:UT E all k log s)(hb:ke s s1)(wM:∀ o,all[k]? = some o→∀ t,t∈sJ all o∨o.dst=some t→s1.ib t=s.ib t)
  (hk:∀ rd,(k,rd)∈log→∀ p∈rd,sr s s1 p) (hl:∀ x∈log,x∈NU):UT E all k NU s1:=by
 obtain⟨o,h1,h2,h3⟩:=hp;have hr:∀ t∈sJ all o,s1.ib t=s.ib t:=fun t ht=>wM o h1 t (.inl ht);refine⟨o,h1,h2,?_⟩;rcases h3 with ⟨h3,h4⟩|⟨h3,h4,h5,v,h6,h7⟩
 ·exact .inl ⟨UI hr h3,fun d hd=>by rw[wM o h1 d (.inr hd),hb.1];exact h4 d hd⟩
 ·have he:=Wi (E:=E) hr
  obtain⟨g1,g2⟩:=afJ hD (tn h2) h4 h6 hb he (hk _ h5);exact .inr ⟨UN hr h3,g1,by rw[Ot he];exact hl _ h5,v,g2,fun d hd=>by rw[wM o h1 d (.inr hd),hb.1];exact h7 d hd⟩
end
end Go.Fx
namespace Go.Fx
structure Inv(E:sb)(X:mz)(ops:Array Oper)(Kok:St→Prop)(KPok:ab→St→Prop)(n:Nat)(done:List Nat)(log:List (Nat×List pO))(s:St)(G:Gh)(as:Act)(eq:Array Bool)(act:Act)(w:World):Prop where
 can:u6 E ops.toList Kok KPok n done log s
 cov:∀ l∈iP ops.toList (iK ops.toList []) n done,∀ i,i<ops.size→i∈done∨i∈l
 clo:Clo ops.toList (·∈done)
 Vf:Clo ops.toList (fun i=>eq.getD i false=true)
 NX:∀ i,eq.getD i false=true→i∈done
 lsz:eq.size=ops.size
 Gl:ay X s G w
 ib:bM G s as
 Sf:∀ i,i∈done→eq.getD i false=false→UT E ops.toList i log s
 dfs:act.defers=as.defers
 sz:act.tmps.size=as.tmps.size
 lj:∀ t,(∀ i o,i∈done→eq.getD i false=false→ops.toList[i]? = some o→o.dst≠some t)→act.tmps[t]? = as.tmps[t]?
section
variable {P:Program} {E:sb} (hE:iq P E.ia) (hS:∀ f s,E.BA f=some s→AR P E.gt f s) (hC:∀ f s,E.BA f=some s→m6 s) (hD:∀ f s,E.BA f=some s→oS s)
 {X:mz} (zd:nv E.gt X.S0) {ops:Array Oper} (wN:YF ops.toList) {Q:Exit→Act→World→Prop} {Kok:St→Prop} {KPok:ab→St→Prop}
 (hK:∀ st G w act,ay X st G w→bM G st act→Kok st→Q .normal act w)
 (hP:∀ av v st G w act,ay X st G w→act.defers=G.ds→aP G av v→KPok av st→Q (.panic [{v,recovered:=false}]) act w)
theorem RH{eq:Array Bool}{i:Nat}(h:i<eq.size):eq.getD i true=eq.getD i false:=by simp[h]
theorem A6{eq:Array Bool}{i:Nat}(h:i<eq.size)(j:Nat):(eq.setIfInBounds i true).getD j false=if i=j then true else eq.getD j false:=by
 by_cases e:i=j
 ·subst e;simp[h]
 ·rw[getD_set_ne false e,aza e]
theorem QC{s s1:St}{log NU:List (Nat×List pO)}{done:List Nat}{eq:Array Bool}{i:Nat}{o:Oper}(hD:∀ f s,E.BA f=some s→oS s)(wN:YF ops.toList)(ae2:Clo ops.toList (·∈done))(hi:i∉done)(ho:ops.toList[i]? = some o)
  (afl:∀ k,k∈done→eq.getD k false=false→UT E ops.toList k log s)
  (hb:ke s s1) (wM:∀ t,o.dst≠some t→s1.ib t=s.ib t)
  (hk:∀ k rd,k∈done→eq.getD k false=false→(k,rd)∈log→∀ p∈rd,sr s s1 p) (hl:∀ x∈log,x∈NU)
  (ZA:pG ops.toList (iK ops.toList []) i o=false∨∀ k,Reach ops.toList i k→eq.getD k false=true):
  ∀ k,k∈done→eq.getD k false=false→UT E ops.toList k NU s1:=by
 intro k hkd Ah;refine(afl k hkd Ah).li hD hb (fun ok hok t ht=>wM t fun hd=>?_) (fun rd Ay=>hk k rd hkd Ah Ay) hl;have gT:k≠i:=fun e=>hi (e ▸ hkd);rcases ht with ht|ht
 ·rcases wN.af8 k i ok o t hok ho hd ht gT with h|h
  ·exact hi (ae2.Uj (EV h) hkd)
  ·rcases ZA with h' | h'
   ·by_cases hA:i∈(iK ops.toList []).getD k []
    ·exact hi (ae2.Uj (EV hA) hkd)
    ·rw[K0 hok ho hd ht hA] at h';cases h'
   ·rw[h' k (EV h)] at Ah;cases Ah
 ·exact gT (wN.dst k i ok o t hok ho ht hd)
include hE hD zd wN in
theorem VI{eq:Array Bool}{act:Act}{w:World}:∀{n:Nat} {done:List Nat} {log:List (Nat×List pO)} {s:St} {G:Gh} {as:Act},Inv E X ops Kok KPok n done log s G as eq act w→
  ∃ n' Nf ZS s' G' as',Inv E X ops Kok KPok n' Nf ZS s' G' as' eq act w∧lh E ops.toList n' Nf
 |n,done,log,s,G,as,h=>by
  cases ace E (all:=ops.toList) n done with
  |sw h1 h2 _=>exact⟨n,done,log,s,G,as,h,.inl ⟨h1,h2⟩⟩
  |af7 m h1 h2 h3=>exact⟨n,done,log,s,G,as,h,.inr ⟨m,h1,h2,h3⟩⟩
  |Lf m i hnm hr fd Hn NK=>
   subst hnm;obtain⟨hid,o',ho',RJ⟩:=Mt.1 hr;obtain⟨o,ho,BK,B7,hc⟩:=NK _ _ _ _ h.can;obtain rfl:o=o':=by rw[ho] at ho';exact bta ho'
   have ht:=fd o ho;have FN:eq.getD i false=false:=by
    cases hl:eq.getD i false with
    |false=>rfl
    |true=>exact absurd (h.NX i hl) hid
   have Zj:Clo ops.toList (·∈i::done):=fun a k ha hak=>by
    rcases aka.1 ha with rfl|ha
    ·obtain⟨o2,h1,e,h2,h3,rfl⟩:=hak
     rw[ho] at h1;cases h1;exact Q8 _ (RJ e h2 h3)
    ·exact Q8 _ (h.clo a k ha hak)
   have ady:∀ l∈iP ops.toList (iK ops.toList []) m (i::done),∀ k,k<ops.size→k∈i::done∨k∈l:=fun l hl k hk=>by
    rcases h.cov _ (Hn l hl) k hk with h1|h1
    ·exact .inl (Q8 _ h1)
    ·rcases aka.1 h1 with rfl|h1
     ·exact .inl (aqa ..)
     ·exact .inr h1
   have acJ:∀ t∈sJ ops.toList o,o.dst≠some t:=fun t ht hd=>wN.self i o t ho hd ht;have go:∀{v:ab} {u:Value} {s1:St} {NU:List (Nat×List pO)} {G1:Gh},yO o.dst v BK=some s1→ay X BK G1 w→bM G1 BK as→aP G1 v u→u6 E ops.toList Kok KPok m (i::done) NU s1→
     (∀ x∈log,x∈NU)→UT E ops.toList i NU s1→∃ n' Nf ZS s' G' as',Inv E X ops Kok KPok n' Nf ZS s' G' as' eq act w∧lh E ops.toList n' Nf:=
    fun {v u s1 NU G1} A9 hm hr hv Ki adE hpi=>by
     obtain⟨p1,p2,p3,p4,p5⟩:=Bz A9;have hb:ke s s1:=B7.1.trans p1;refine VI (n:=m) (done:=i::done) (log:=NU) (s:=s1) (G:=G1) (as:=as.put o.dst u)
      {
       can:=Ki,cov:=ady,clo:=Zj,Vf:=h.Vf,NX:=fun k hk=>Q8 _ (h.NX k hk),lsz:=h.lsz
       Gl:=Ug A9 hm,ib:=Uf A9 hr hv,Sf:=fun k hk Ah=>?_,dfs:=by rw[sk];exact h.dfs,sz:=by rw[Ey];exact h.sz,lj:=fun t ht=>?_}
     ·rcases aka.1 hk with rfl|hk
      ·exact hpi
      ·exact QC hD wN h.clo hid ho h.Sf hb (fun t ht=>by rw[p4 t (fun e he e2=>ht (by rw[he,e2])),B7.2.2.2]) (fun k rd _ _ _ p _=>Bf (by rw[p2,B7.2.1]) (by rw[p3,B7.2.2.1.1]) (by rw[(bja p1.2.2.2).1,(bja B7.1.2.2.2).1]) (by rw[On A9,B7.2.2.1.2]) p) adE (.inl ht) k hk Ah
     ·rw[Sj (ht i o (aqa ..) FN ho)]
      exact h.lj t fun k ok hk=>ht k ok (Q8 _ hk)
   rcases hc with ⟨hu,s1,A9,Ki⟩|⟨hw,_,adM⟩
   ·obtain⟨p1,p2,p3,p4,p5⟩:=Bz A9
    exact go A9 (B7.Gl h.Gl) (B7.et h.ib) (show aP G (.one .uZ) undef from rfl) Ki (fun _ h=>h)
     ⟨o,ho,ht,.inl ⟨UI (fun t ht'=>p4 t fun e he e2=>acJ t ht' (by rw[he,e2])) hu,fun d hd=>⟨(p5 d hd).1,by rw[p1.1];exact(p5 d hd).2⟩⟩⟩
   ·obtain⟨hd,v,xY,s1,A9,Ki⟩:=adM ht
    obtain⟨p1,p2,p3,p4,p5⟩:=Bz A9;obtain⟨u,G1,_,LT,hr1,hv1⟩:=Uw hE (tn ht) hd xY zd (B7.Gl h.Gl) (B7.et h.ib);have acH:∀ t∈sJ ops.toList o,s1.ib t=BK.ib t:=fun t ht'=>p4 t fun e he e2=>acJ t ht' (by rw[he,e2])
    have he:=Wi (E:=E) acH;obtain⟨g1,g2⟩:=afJ hD (tn ht) hd xY p1 he (fun p _=>Bf p2 p3 (bja p1.2.2.2).1 (On A9) p);exact go A9 LT (hr1 _ (B7.et h.ib)) hv1 Ki (fun _ h=>Q8 _ h)
     ⟨o,ho,ht,.inr ⟨UN acH hw,g1,by rw[Ot he];exact aqa ..,v,g2,fun d hd=>⟨(p5 d hd).1,by rw[p1.1];exact(p5 d hd).2⟩⟩⟩
end
end Go.Fx
namespace Go.Fx
theorem bM.Uh{G:Gh}{s:St}{a:Act}{d:Option Tmp}{v:ab}{u:Value}(hr:bM G s a)(hd:∀ e,d=some e→s.ib e=some v∧e<s.n)(hv:aP G v u):bM G s (a.put d u):=by
 cases d with
 |none=>exact hr
 |some d=>
  obtain⟨h1,h2⟩:=hd d rfl;have:=hr.put (av:=v) h2 hv;exact⟨this.1,this.2.1,fun i x hx=>this.2.2 i x (by
   rw[qj];by_cases e:d=i
   ·subst e;rw[a4a rfl,←h1,hx]
   ·rw[aza e];exact hx)⟩
theorem aaW{P:Program}{o:Oper}{a b:Act}{N1 N2:Act→World→Prop}{Q1 Q2:Exit→Act→World→Prop}{res:Result Next}(hb:∀ a' w,N1 a' w→∃ v,a' = b.put o.dst v∧N2 (a.put o.dst v) w)(hdd:a.defers=b.defers)
  (hp:∀ c w,Q1 (.panic c) b w→Q2 (.panic c) a w) (ho:LetsOut Q1→LetsOut Q2) (agC:∀ v v',b.put o.dst v=b.put o.dst v'→a.put o.dst v=a.put o.dst v') (h:o.upon P b N1 Q1 res):o.upon P a N2 Q2 res:=by
 have nx:∀ v w,N1 (b.put o.dst v) w→N2 (a.put o.dst v) w:=fun v w hn=>by obtain⟨v',h1,h2⟩:=hb _ _ hn;rw[agC v v' h1];exact h2
 cases res with
 |ok n w'=>
  cases n<;>simp only[Oper.upon] at h ⊢
  case value u=>exact nx _ _ h
  case skip=>exact nx _ _ h
  case defer d=>
   obtain⟨v',h1,h2⟩:=hb _ _ h;have:d::b.defers=b.defers:=by have:=bGa Act.defers h1;rw[sk,sk] at this;exact this
   exact absurd this (by simp)
  case enter f args=>
   refine Calls.mono h fun e w'' he=>?_;cases e with
   |returned u=>exact nx _ _ he
   |panicked c=>exact hp _ _ he
   |outgrown=>exact ho he
  case row row args=>exact Rows.mono h fun u w'' he=>nx _ _ he
 |halt x w'=>
  cases x<;>simp only[Oper.upon] at h ⊢
  case panic u=>exact hp _ _ h
section
variable {P:Program} {E:sb} (hE:iq P E.ia) (hS:∀ f s,E.BA f=some s→AR P E.gt f s) (hC:∀ f s,E.BA f=some s→m6 s) (hD:∀ f s,E.BA f=some s→oS s)
 {X:mz} (zd:nv E.gt X.S0) {ops:Array Oper} (wN:YF ops.toList) {Q:Exit→Act→World→Prop} {Kok:St→Prop} {KPok:ab→St→Prop}
 (hK:∀ st G w act,ay X st G w→bM G st act→Kok st→Q .normal act w)
 (hP:∀ av v st G w act,ay X st G w→act.defers=G.ds→aP G av v→KPok av st→Q (.panic [{v,recovered:=false}]) act w)
include hK in
theorem MH{n:Nat}{done:List Nat}{log:List (Nat×List pO)}{s:St}{G:Gh}{as act:Act}{eq:Array Bool}{w:World}(h:Inv E X ops Kok KPok n done log s G as eq act w)(hh:lh E ops.toList n done)(fd:∀ i,i<ops.size→eq.getD i false=true):Q .normal act w:=by
 have Ki:Kok s:=by
  rcases hh with ⟨_,h2⟩|⟨m,_,⟨i,hr⟩,_⟩
  ·exact h2 _ _ _ _ h.can
  ·obtain⟨h1,o,h2,_⟩:=Mt.1 hr
   exact absurd (h.NX i (fd i (by simpa using (aja.1 h2).1))) h1
 have RI:act=as:=by
  have htm:act.tmps=as.tmps:=by
   apply Array.ext h.sz;intro i h1 h2;have:=h.lj i (fun k o hk Ah hko=>by
    have bq:k<ops.size:=by simpa using (aja.1 hko).1
    rw[fd k bq] at Ah;cases Ah)
   simpa[h1,h2] using this
  cases act;cases as;simp only at htm;have:=h.dfs;simp only at this;rw[htm,this]
 rw[RI];exact hK _ _ _ _ h.Gl h.ib Ki
theorem Yi(wN:YF ops.toList){eq:Array Bool}(mF:eq.size=ops.size)(h:Region.ready .any ops eq=[]):∀ i,i<ops.size→eq.getD i false=true:=by
 intro i;induction i using Nat.strongRecOn with
 |ind i ih=>
  intro hi;cases hl:eq.getD i false with
  |true=>rfl
  |false=>
   have:i∈Region.ready .any ops eq:=mem_ready.2 ⟨by rw[RH (by omega)];exact hl,ops[i],by simp[hi],fun e he hb=>by
    have Pi:=wN.low i ops[i] e (by simp[hi]) he (by rw[Ng];exact hb)
    exact ih e.on Pi (by omega)⟩
   rw[h] at this;cases this
include hE hS hC hD zd wN hK hP in
theorem OJ:∀(He:Nat) {eq:Array Bool} {act:Act} {w:World} {n:Nat} {done:List Nat} {log:List (Nat×List pO)} {s:St} {G:Gh} {as:Act},Inv E X ops Kok KPok n done log s G as eq act w→
  lh E ops.toList n done→(List.range ops.size).countP (fun i=>!eq.getD i false)≤He→wpAny P .any ops Q He eq act w
 |0,eq,act,w,n,done,log,s,G,as,h,NF,hf=>by
  have fd:∀ i,i<ops.size→eq.getD i false=true:=fun i hi=>by
   have h0:(List.range ops.size).countP (fun i=>!eq.getD i false)=0:=by omega
   have:=List.countP_eq_zero.1 h0 i (b3a.2 hi);simpa using this
  refine⟨List.eq_nil_iff_forall_not_mem.2 fun i hi=>?_,MH hK h NF fd⟩;obtain⟨h1,o,h2,_⟩:=mem_ready.1 hi;have bq:i<ops.size:=(caa.1 h2).1;rw[RH (by rw[h.lsz];exact bq),fd i bq] at h1;cases h1
 |He+1,eq,act,w,n,done,log,s,G,as,h,NF,hf=>by
  refine⟨fun hr=>MH hK h NF (Yi wN h.lsz hr),fun i hi=>?_⟩;obtain⟨hl1,o,hoa,acx⟩:=mem_ready.1 hi;have bq:i<ops.size:=(caa.1 hoa).1;have Hr:i<eq.size:=by rw[h.lsz];exact bq
  have FN:eq.getD i false=false:=by rw[←RH Hr];exact hl1
  have ho:ops.toList[i]? = some o:=by simpa using hoa
  have RJ:∀ k,PM ops.toList i k→eq.getD k false=true:=fun k ⟨o2,h1,e,h2,h3,h4⟩=>by rw[ho] at h1;cases h1;rw[←h4];exact acx e h2 (by rw[←Ng];exact h3)
  have RO:∀ k,Reach ops.toList i k→eq.getD k false=true:=fun k hk=>h.Vf.ready RJ hk;let nj:=eq.setIfInBounds i true;have hlc:Clo ops.toList (fun k=>nj.getD k false=true):=fun a k ha hak=>by
   show(eq.setIfInBounds i true).getD k false=true;rw[A6 Hr];by_cases e:i=k
   ·simp[e]
   ·rw[aza e]
    by_cases e2:i=a
    ·subst e2;exact RJ k hak
    ·have ha':eq.getD a false=true:=by
      have:=ha;simp only[nj,A6 Hr,aza e2] at this;exact this
     exact h.Vf a k ha' hak
  have hlz:nj.size=ops.size:=by simp[nj,h.lsz]
  have hun:∀ k,nj.getD k false=false→k≠i∧eq.getD k false=false:=fun k hk=>by
   simp only[nj,A6 Hr] at hk;by_cases e:i=k
   ·simp[e] at hk
   ·rw[aza e] at hk;exact⟨fun h=>e h.symm,hk⟩
  have ae4:(List.range ops.size).countP (fun k=>!nj.getD k false)≤He:=by
   have:=PZ (p:=fun k=>!eq.getD k false) (q:=fun k=>!nj.getD k false) (l:=List.range ops.size) (fun k _ hk=>by
    have:=hun k (by simpa using hk)
    simpa using this.2) ⟨i,b3a.2 bq,by simpa using FN,by simp[nj,Hr]⟩
   omega
  have acD:Rd (fun t=>t∈sJ ops.toList o) act as:=fun t ht=>by
   refine h.lj t fun k ok hk Ah hko hd=>?_;by_cases e:k=i
   ·subst e
    rw[ho] at hko;cases hko;exact wN.self _ _ t ho hd ht
   ·rcases wN.af8 i k o ok t ho hko hd ht (bxa e) with h1|h1
    ·rw[RO k (EV h1)] at Ah;cases Ah
    ·obtain⟨o2,g1,g2,_⟩:=h.Sf k hk Ah
     rw[hko] at g1;cases g1;by_cases hA:k∈(iK ops.toList []).getD i []
     ·rw[RO k (EV hA)] at Ah;cases Ah
     ·rw[K0 ho hko hd ht hA] at g2;cases g2
  have ae7:execOp act.eval o=execOp as.eval o:=Tl (fun cs b=>wN.sel i o cs b ho) acD;have abu:Region.wanted o (yielded ops act.tmps)=Region.wanted o (yielded ops as.tmps):=UM acD;have Zx:∀(v:Value) t,(∀ k ok,k∈done→nj.getD k false=false→ops.toList[k]? = some ok→ok.dst≠some t)→(act.put o.dst v).tmps[t]? = (as.put o.dst v).tmps[t]?:=fun v t ht=>by
   by_cases e:o.dst=some t
   ·exact aao h.sz e
   ·rw[Sj e,Sj e]
    refine h.lj t fun k ok hk Ah hko hd=>?_;by_cases e2:k=i
    ·subst e2
     rw[ho] at hko;cases hko;exact e hd
    ·exact ht k ok hk (by simp only[nj,A6 Hr,aza (bxa e2)];exact Ah) hko hd
  unfold wpOp;simp only[hoa];by_cases hid:i∈done
  ·
   have go:∀{G1:Gh} {v:Value},ay X s G1 w→bM G1 s (as.put o.dst v)→wpAny P .any ops Q He nj (act.put o.dst v) w:=fun {G1 v} hm hr=>
    OJ He (n:=n) (done:=done) (log:=log) (s:=s) (G:=G1) (as:=as.put o.dst v)
     {
      can:=h.can,cov:=h.cov,clo:=h.clo,Vf:=hlc,lsz:=hlz,Gl:=hm,ib:=hr
      NX:=fun k hk=>(by
       by_cases e:i=k
       ·rw[←e];exact hid
       ·simp only[nj,A6 Hr,aza e] at hk;exact h.NX k hk)
      Sf:=fun k hk Ah=>h.Sf k hk (hun k Ah).2,dfs:=by rw[sk,sk];exact h.dfs,sz:=by rw[Ey,Ey];exact h.sz
      lj:=Zx v} NF ae4
   obtain⟨o2,g1,g2,g3⟩:=h.Sf i hid FN;rw[ho] at g1;cases g1;rcases g3 with ⟨hu,hd⟩|⟨hw,hdy,_,v,xY,hd⟩
   ·rw[abu,OK h.ib hu]
    simp only[asa,aca];exact go h.Gl (h.ib.Uh hd (show aP G (.one .uZ) undef from rfl))
   ·rw[abu,OL h.ib hw]
    simp only[aua];obtain⟨u,G1,it,LT,hr1,hv1⟩:=Uw hE (tn g2) hdy xY zd h.Gl h.ib;refine .inl ?_;unfold Oper.wp;rw[ae7,it];exact go LT ((hr1 _ h.ib).Uh hd hv1)
  ·
   have agP:rdy ops.toList done i=true:=Mt.2 ⟨hid,o,ho,fun e he hb=>h.NX _ (acx e he (by rw[←Ng];exact hb))⟩
   obtain⟨m,hnm,htn,Hn,NK⟩:∃ m,n=m+1∧pG ops.toList (iK ops.toList []) i o=true∧(∀ r∈iP ops.toList (iK ops.toList []) m (i::done),i::r∈iP ops.toList (iK ops.toList []) n done)∧
     DC E ops.toList i log s (u6 E ops.toList Kok KPok m (i::done)) KPok:=by
    rcases NF with ⟨h1,_⟩|⟨m,h1,_,h3⟩
    ·rcases h.cov [] (by rw[h1];exact Q7.2 rfl) i bq with h2|h2
     ·exact absurd h2 hid
     ·cases h2
    ·obtain⟨g1,g2,g3⟩:=h3 i agP
     exact⟨m,h1,g1 o ho,g2,g3 _ _ _ _ h.can⟩
   subst hnm;have Zj:Clo ops.toList (·∈i::done):=fun a k ha hak=>by
    rcases aka.1 ha with rfl|ha
    ·exact Q8 _ (h.NX k (RJ k hak))
    ·exact Q8 _ (h.clo a k ha hak)
   have ady:∀ l∈iP ops.toList (iK ops.toList []) m (i::done),∀ k,k<ops.size→k∈i::done∨k∈l:=fun l hl k hk=>by
    rcases h.cov _ (Hn l hl) k hk with h1|h1
    ·exact .inl (Q8 _ h1)
    ·rcases aka.1 h1 with rfl|h1
     ·exact .inl (aqa ..)
     ·exact .inr h1
   have go:∀{v:ab} {u:Value} {st' s1:St} {G1:Gh} {w1:World},yO o.dst v st' = some s1→ay X st' G1 w1→bM G1 st' as→aP G1 v u→u6 E ops.toList Kok KPok m (i::done) log s1→ke s st'→(∀ t,st'.ib t=s.ib t)→
     (∀ k rd,k∈done→eq.getD k false=false→(k,rd)∈log→∀ p∈rd,sr s st' p)→wpAny P .any ops Q He nj (act.put o.dst u) w1:=fun {v u st' s1 G1 w1} A9 hm hr hv Ki hbs hrg IS=>by
    obtain⟨p1,p2,p3,p4,p5⟩:=Bz A9;have adC:Inv E X ops Kok KPok m (i::done) log s1 G1 (as.put o.dst u) nj (act.put o.dst u) w1:=
     {
      can:=Ki,cov:=ady,clo:=Zj,Vf:=hlc,lsz:=hlz,Gl:=Ug A9 hm,ib:=Uf A9 hr hv
      NX:=fun k hk=>(by
       by_cases e:i=k
       ·rw[←e];exact aqa ..
       ·simp only[nj,A6 Hr,aza e] at hk;exact Q8 _ (h.NX k hk))
      Sf:=fun k hk Ah=>(by
       obtain⟨hki,Ah⟩:=hun k Ah;rcases aka.1 hk with e|hk
       ·exact absurd e hki
       ·exact QC hD wN h.clo hid ho h.Sf (hbs.trans p1) (fun t ht=>by rw[p4 t (fun e he e2=>ht (by rw[he,e2])),hrg]) (fun k rd a b c p hp=>(IS k rd a b c p hp).trans (Bf p2 p3 (bja p1.2.2.2).1 (On A9) p)) (fun _ h=>h) (.inr RO) k hk Ah)
      dfs:=by rw[sk,sk];exact h.dfs,sz:=by rw[Ey,Ey];exact h.sz
      lj:=fun t ht=>Zx u t fun k ok hk=>ht k ok (Q8 _ hk)}
    obtain⟨n',Nf,ZS,s',G',as',Zn,hh'⟩:=VI hE hD zd wN adC;exact OJ He Zn hh' ae4
   obtain⟨o2,g1,BK,B7,hc⟩:=NK;rw[ho] at g1;cases g1;have hr0:=B7.et h.ib;rcases hc with ⟨hu,s1,A9,Ki⟩|⟨hw,ZA,_⟩
   ·rw[abu,OK hr0 hu]
    simp only[asa,aca];exact go A9 (B7.Gl h.Gl) hr0 (show aP G (.one .uZ) undef from rfl) Ki B7.1 B7.2.2.2 (fun k rd _ _ _ p _=>Bf B7.2.1 B7.2.2.1.1 (bja B7.1.2.2.2).1 B7.2.2.1.2 p)
   ·rw[abu,OL hr0 hw]
    simp only[aua];obtain⟨adE,u,xY,hok,vP⟩:=ZA htn;refine .inl ?_;let Q1:Exit→Act→World→Prop:=fun e a w=>match e with
     |.panic c=>a=as→Q (.panic c) act w
     |e=>Q e a w
    have hwp:o.wp P as w (fun a' w'=>∃ v,a' = as.put o.dst v∧wpAny P .any ops Q He nj (act.put o.dst v) w') Q1:=
     II hE hS (K:=oc) (KP:=PE) (r:=u) xY zd (B7.Gl h.Gl) hr0
      (fun av v st' G' w' hm hr hv hu=>by
       simp only[oc,OF] at hu;subst hu;obtain⟨s1,A9,Ki⟩:=hok rfl;obtain⟨hb,abt⟩:=aad hD hC xY;have abt:=abt rfl;refine⟨v,rfl,go A9 hm hr hv Ki (B7.1.trans hb) (fun t=>?_) (fun k rd hk Ah hkr p hp=>?_)⟩
       ·show st'.ib t=s.ib t
        rw[←B7.2.2.2 t];have e1:st'.et=BK.et:=abt.et;have e2:st'.jh=BK.jh:=hb.2.1;simp only[St.ib,e1,e2]
       ·have h1:=apa.1 adE _ hkr
        simp only[a3a] at h1;rcases h1 with h1|h1
        ·rw[RO k (EV (gD.1 h1))] at Ah;cases Ah
        ·refine(Bf B7.2.1 B7.2.2.1.1 (bja B7.1.2.2.2).1 B7.2.2.1.2 p).trans (abt.li fun q hq=>?_)
         exact apa.1 (apa.1 h1 p hp) q hq)
      (fun av v st' G' w' hm hv hu=>by
       simp only[PE,OF] at hu;subst hu;intro _;exact hP av v st' G' w' act hm (by rw[h.dfs];exact hr0.1.trans (h.Gl.ds.trans hm.ds.symm)) hv (vP rfl))
    unfold Oper.wp at hwp ⊢;rw[ae7];refine aaW (Q1:=Q1) (Q2:=Q) (N2:=wpAny P .any ops Q He nj) (fun a' w' h=>h) h.dfs (fun c w' hq=>hq rfl) (fun⟨a,w',hq⟩=>⟨a,w',hq⟩) (fun v v' e=>?_) hwp;cases hd:o.dst with
    |none=>rfl
    |some d=>
     rw[hd] at e;have e1:=bGa Act.tmps e;simp only[Act.put] at e1 ⊢
     congr 1
     by_cases mA:d<act.tmps.size
     ·have:v=v':=by
       have h2:(as.tmps.setIfInBounds d v)[d]? = (as.tmps.setIfInBounds d v')[d]?:=by rw[e1]
       have agt:d<as.tmps.size:=by rw[←h.sz];exact mA
       simpa[agt] using h2
      rw[this]
     ·rw[cma (coa mA),cma (coa mA)]
include hE hS hC hD zd hK hP in
theorem W5(Zq:P.follows .mixedOrders=true){id:Nat}{R:Type}{r:R}{K:St→Option R}{KP:ab→St→Option R}{st:St}{G:Gh}{w:World}{act:Act}(hd:DS ops.toList (iK ops.toList [])=true)
  (h:∀ l∈iP ops.toList (iK ops.toList []) ops.toList.length [],J6 ops.toList l=true∧HJ E ops.toList (iK ops.toList []) l [] st K KP=some r)
  (adw:∀ s,K s=some r→Kok s) (Zf:∀ av s,KP av s=some r→KPok av s) (hm:ay X st G w) (hr:bM G st act):(Code.region id ops true).wp P Q act w:=by
 have wN:=ab3 hd;have aeZ:=Un hD fun l hl=>(h l hl).2;refine wp_region_any Zq ?_;have hz:∀ i d,(Array.replicate ops.size false).getD i d=true→d=true:=fun i d hi=>by
  rcases cLa i ops.size with h' | h'
  ·simp[h'] at hi
  ·simpa[Array.getElem?_eq_none,h'] using hi
 have hf:∀ i,(Array.replicate ops.size false).getD i false=false:=fun i=>by
  cases hq:(Array.replicate ops.size false).getD i false with
  |false=>rfl
  |true=>have:=hz i false hq;cases this
 have adC:Inv E X ops Kok KPok ops.toList.length [] [] st G act (Array.replicate ops.size false) act {w with drawn:=w.drawn+1}:=
  {
   can:=aeZ.mono E ops.toList adw Zf,cov:=fun l hl i hi=>.inr (gD.1 (apa.1 (h l hl).1 i (b3a.2 (by simpa using hi))))
   clo:=fun a k ha=>by cases ha
   Vf:=fun a k ha=>by have ha':(Array.replicate ops.size false).getD a false=true:=ha;rw[hf] at ha';cases ha'
   NX:=fun i hi=>by rw[hf] at hi;cases hi
   lsz:=by simp,Gl:=hm.drew,ib:=hr,Sf:=fun i hi=>by cases hi
   dfs:=rfl,sz:=rfl,lj:=fun t _=>rfl}
 obtain⟨n',Nf,ZS,s',G',as',Zn,hh'⟩:=VI hE hD zd wN adC;exact OJ hE hS hC hD zd wN hK hP ops.size Zn hh' (by
  refine bFa List.countP_le_length ?_;simp)
include hE hS hC hD zd hK hP in
theorem abX(Zq:P.follows .mixedOrders=true){id:Nat}{R:Type}{r:R}{K:St→Option R}{KP:ab→St→Option R}{st:St}{G:Gh}{w:World}{act:Act}(h:VG E ops.toList st K KP=some r)
  (adw:∀ s,K s=some r→Kok s) (Zf:∀ av s,KP av s=some r→KPok av s) (hm:ay X st G w) (hr:bM G st act):(Code.region id ops true).wp P Q act w:=by
 unfold VG at h;cases hd:DS ops.toList (iK ops.toList []) with
 |false=>simp[hd] at h
 |true=>
  simp only[hd,Q9] at h;split at h
  ·rename_i l hl
   cases hc:J6 ops.toList l with
   |false=>rw[hc] at h;cases h
   |true=>rw[hc,Q9] at h;exact W5 hE hS hC hD zd hK hP Zq hd (fun l' Mi=>by rw[hl] at Mi;obtain rfl:=Q7.1 Mi;exact⟨hc,h⟩) adw Zf hm hr
  ·cases h
end
end Go.Fx
namespace Go.Fx
structure F1(P:Program)(E:sb):Prop where
 ia:iq P E.ia
 mix:P.follows .mixedOrders=true
 BA:∀ f s,E.BA f=some s→AR P E.gt f s
 det:∀ f s,E.BA f=some s→oS s
 Rx:∀ f s,E.BA f=some s→m6 s
 acP:∀ i L,E.od i=some L→AM L
theorem Ms{X:mz}{st:St}{G:Gh}{w:World}{R:Type}{r:R}{act:Act}{d:Option Tmp}{av:ab}{v:Value}{K:St→Option R}(h:oH d av st K=some r)(hm:ay X st G w)(hr:bM G st act)(hv:aP G av v):
  ∃ st',ay X st' G w∧bM G st' (act.put d v)∧K st' = some r:=by
 cases d with
 |none=>exact⟨st,hm,hr,h⟩
 |some d=>
  simp only[oH] at h;cases hc:((look st.jh d).isSome||Nat.ble st.n d) with
  |true=>simp[hc] at h
  |false=>
   simp only[hc,ana] at h;simp only[aEa] at hc;have hd:d<st.n:=by
    rcases cLa d st.n with h' | h'
    ·exact h'
    ·have:=Nat.ble_eq_true_of_le h';rw[this] at hc;cases hc.2
   exact⟨_,hm.jX d av,hr.put hd hv,h⟩
section
variable {P:Program} {E:sb} (hE:F1 P E) {X:mz} {R:Type} {r:R} (zd:nv E.gt X.S0)
include hE zd
theorem KI{ops:Array Oper}{KP:ab→St→Option R}{K:St→Option R}{Q:Exit→Act→World→Prop}
  (hK:∀ st G w act,ay X st G w→bM G st act→K st=some r→Q .normal act w)
  (hP:∀ av v st G w act,ay X st G w→act.defers=G.ds→aP G av v→KP av st=some r→Q (.panic [{v,recovered:=false}]) act w):
  ∀{l:List Oper} {st:St} {G:Gh} {w:World} {act:Act},pI E ops.toList l st K KP=some r→ay X st G w→bM G st act→wpList P ops Q l act w
 |[],st,G,w,act,h,hm,hr=>hK _ _ _ _ hm hr h
 |o::rest,st,G,w,act,h,hm,hr=>by
  have Av:∀{q:St},ay X q G w→bM G q act→lY E o q (fun v st'=>oH o.dst v st' fun s=>pI E ops.toList rest s K KP) KP=some r→Region.wanted o (yielded ops act.tmps)=true→wpList P ops Q (o::rest) act w:=fun {q} hm hr hx hw=>by
   simp only[wpList,hw,aua];exact .inl (II hE.ia hE.BA hx zd hm hr (fun av v st' G' w' m' r' v' k'=>by
    obtain⟨s,m2,r2,k2⟩:=Ms k' m' r' v';exact KI hK hP k2 m2 r2) (fun av v st' G' w' m' v' k'=>hP av v st' G' w' act m' (hr.1.trans (hm.ds.trans m'.ds.symm)) v' k'))
  have skip:∀{q:St},ay X q G w→bM G q act→oH o.dst (.one .uZ) q (fun s=>pI E ops.toList rest s K KP)=some r→Region.wanted o (yielded ops act.tmps)=false→wpList P ops Q (o::rest) act w:=fun {q} hm hr hx hw=>by
   simp only[wpList,hw,asa,aca];obtain⟨s,m2,r2,k2⟩:=Ms hx hm hr (show aP G (.one .uZ) undef from rfl)
   exact KI hK hP k2 m2 r2
  simp only[pI] at h;split at h
  ·rename_i hg;exact Av hm hr h (by simp[Region.wanted,hg])
  ·rename_i j so hg
   split at h
   ·cases h
   ·rename_i g hgd
    have hy:∀ j',yielded ops act.tmps j' = (match (((ops[j']?).bind (·.dst)).bind (act.tmps[·]?)) with|some (.bool b)=>some b|_=>none):=fun j'=>rfl
    have IR:(ops[j]?).bind (·.dst)=some g:=by simpa[p7] using hgd
    split at h
    ·rename_i c wM
     have hv:=vM (v:=.one (.eV .bool c)) rfl (hr.2.2 g _ wM);have NE:act.tmps[g]? = some (.bool c):=by
      rw[aAa] at hv;cases hq:act.tmps[g]? with
      |none=>rw[hq] at hv;cases hv
      |some u=>rw[hq] at hv;simpa using hv
     have hyj:yielded ops act.tmps j=some c:=by rw[hy,IR];simp[NE]
     have Gl:∀ b,c=b→bM G (st.jX g (.one (.eV .bool b))) act:=fun b e=>hr.refine (by rw[hv,e];exact ot b)
     cases c with
     |true=>
      simp only[Q9] at h;cases so with
      |true=>simp only[Q9] at h;exact Av (hm.jX _ _) (Gl _ rfl) h (by simp[Region.wanted,hg,hyj])
      |false=>simp only[ana] at h;exact skip (hm.jX _ _) (Gl _ rfl) h (by simp[Region.wanted,hg,hyj])
     |false=>
      simp only[ana] at h;cases so with
      |true=>simp only[Q9] at h;exact skip (hm.jX _ _) (Gl _ rfl) h (by simp[Region.wanted,hg,hyj])
      |false=>simp only[ana] at h;exact Av (hm.jX _ _) (Gl _ rfl) h (by simp[Region.wanted,hg,hyj])
    ·rename_i wM
     have hv:act.tmps.getD g undef=undef:=hr.2.2 g _ wM;have hyj:yielded ops act.tmps j=none:=by
      rw[hy,IR];rw[aAa] at hv;cases hq:act.tmps[g]? with
      |none=>simp[hq]
      |some u=>rw[hq] at hv;simp only[b8a] at hv;subst hv;simp[hq,undef]
     exact skip hm hr h (by simp[Region.wanted,hg,hyj])
    ·cases h
omit hE zd in
def uo(P:Program)(gt:Nat→Option GA)(c:Code)(L:lm):Prop:=
 ∀{R:Type} {r:R} {X:mz} {st:St} {G:Gh} {w:World} {act:Act} {K:Exit→St→Option R} {KP:ab→St→Option R} {Q:Exit→Act→World→Prop},
  L.run st K KP=some r→nv gt X.S0→ay X st G w→bM G st act→
  (∀ e st G w act,ay X st G w→bM G st act→K e st=some r→Q e act w)→
  (∀ av v st G w act,ay X st G w→act.defers=G.ds→aP G av v→KP av st=some r→Q (.panic [{v,recovered:=false}]) act w)→c.wp P Q act w
abbrev Rb(P:Program)(gt:Nat→Option GA)(id:Nat)(body:Code)(L:lm):Prop:=uo P gt (.block id body) L
noncomputable def rV(P:Program)(E:sb)(c:Code):Prop:=
 Code.rec (motive:=fun _=>Prop) True (fun id ops draw=>match draw,E.od (id+1000000) with|true,some L=>uo P E.gt (.region id ops true) L|_,_=>True) (fun _ _ x y=>x∧y) (fun _ _ _ x y=>x∧y)
  (fun id b x=>match E.od id with|some L=>Rb P E.gt id b L|none=>x) (fun _ _=>True) (fun _ _ _ _ _ _=>True)
  (fun _=>True) (fun _ _=>True) (fun _=>True) (fun _=>True) True (fun _=>True) c
theorem zQ(c:Code):rV P E c→∀{st:St} {G:Gh} {w:World} {act:Act} {K:Exit→St→Option R} {KP:ab→St→Option R} {Q:Exit→Act→World→Prop},sm E c st K KP=some r→ay X st G w→bM G st act→
  (∀ e st G w act,ay X st G w→bM G st act→K e st=some r→Q e act w)→
  (∀ av v st G w act,ay X st G w→act.defers=G.ds→aP G av v→KP av st=some r→Q (.panic [{v,recovered:=false}]) act w)→c.wp P Q act w:=by
 induction c with
 |skip=>intro _ st G w act K KP Q h hm hr hK hP;exact wp_skip (hK _ _ _ _ _ hm hr h)
 |region id ops draw=>
  intro hL st G w act K KP Q h hm hr hK hP;cases draw with
  |true=>
   have h:(match E.od (id+1000000) with|some L=>L.run st K KP|none=>VG E ops.toList st (fun s=>K .normal s) KP)=some r:=h
   have hL:(match true,E.od (id+1000000) with|true,some L=>uo P E.gt (.region id ops true) L|_,_=>True):=hL
   cases hl:E.od (id+1000000) with
   |some L=>simp only[hl] at h hL;exact hL h zd hm hr hK hP
   |none=>simp only[hl] at h;exact abX hE.ia hE.BA hE.Rx hE.det zd (fun st G w act m' r' k'=>hK .normal st G w act m' r' k') (Kok:=fun s=>K .normal s=some r) (KPok:=fun av s=>KP av s=some r) hP hE.mix h (fun _ h=>h) (fun _ _ h=>h) hm hr
  |false=>exact wp_region_list (KI hE zd (fun st G w act=>hK .normal st G w act) hP h hm hr)
 |seq a b NM ihb=>
  intro hL st G w act K KP Q h hm hr hK hP;refine wp_seq (NM hL.1 h hm hr (fun e s G w act m r' k=>?_) (fun av v s G w act m r' v' k=>hP av v s G w act m r' v' k));cases e with
  |normal=>exact ihb hL.2 k m r' hK hP
  |_=>exact hK _ _ _ _ _ m r' k
 |cond c t e iht ihe=>
  intro hL st G w act K KP Q h hm hr hK hP;have h:(match (ev E st c).F4 with|some b=>bif b then sm E t st K KP else sm E e st K KP|none=>none)=some r:=h
  cases hb:(ev E st c).F4 with
  |none=>simp[hb] at h
  |some b=>
   simp only[hb] at h;have hv:=vM hb (fw (zd.mono hm.s0) hr c);cases b with
   |true=>exact wp_cond_true hv (iht hL.1 h hm hr hK hP)
   |false=>exact wp_cond_false hv (ihe hL.2 h hm hr hK hP)
 |block id b ih=>
  intro hL st G w act K KP Q h hm hr hK hP;have h:(match E.od id with
   |some L=>L.run st K KP
   |none=>sm E b st (fun e s=>match e with | .exit i=>(bif Nat.beq i id then K .normal s else K (.exit i) s)|e=>K e s) KP)=some r:=h
  have hL:(match E.od id with|some L=>Rb P E.gt id b L|none=>rV P E b):=hL
  cases hl:E.od id with
  |some L=>simp only[hl] at h hL;exact hL h zd hm hr hK hP
  |none=>
   simp only[hl] at h hL;refine wp_block (ih hL h hm hr (fun e s G w act m r' k=>?_) (fun av v s G w act m r' v' k=>hP av v s G w act m r' v' k));cases e with
   |exit i=>
    simp only[Exit.inBlock];by_cases e:i=id
    ·subst e
     simp only[b7a,Q9] at k;simp only[aua];exact hK _ _ _ _ _ m r' k
    ·simp only[uE e,ana] at k
     simp only[e,aca];exact hK _ _ _ _ _ m r' k
   |_=>exact hK _ _ _ _ _ m r' k
 |exit id=>intro _ st G w act K KP Q h hm hr hK hP;exact wp_exit (hK _ _ _ _ _ hm hr h)
 |ret=>intro _ st G w act K KP Q h hm hr hK hP;exact wp_ret (hK _ _ _ _ _ hm hr h)
 |_=>intro _ st G w act K KP Q h;cases h
end
end Go.Fx
namespace Go.Fx
abbrev AL:=List (Nat×Option Nat×jG)
def Gh.t8(G:Gh)(al:AL):Gh:={G with
 ψ:=fun nm=>match look al nm with|some (some a,_)=>G.ψ a|_=>.slice none 0 0
 HA:=fun nm=>match look al nm with|some (some a,_)=>G.HA a|_=>[]
 vn:=fun _=>0
 HV:=fun nm _=>match look al nm with|some (some a,_)=>kp (G.HA a)|_=>[]}
def St.uH(st:St)(i:Nat):ab:=(match st.ib i with|some v=>v|none=>.one .any)
structure KO(st t:St)(al:AL):Prop where
 n:t.n=st.n
 vr:t.ER=[]
 arr:∀ nm A,t.arr nm=some A→∃ jM,look al nm=some (jM,A)
 jM:∀ nm a A,look al nm=some (some a,A)→A.sh=false∧st.arr a=some A
 nil:∀ nm A,look al nm=some (none,A)→A.sh=false∧A.l=[]∧A.pd=true
 inj:∀ nm nm' a A A',look al nm=some (some a,A)→look al nm' = some (some a,A')→nm=nm'
 ib:∀ i tv,t.ib i=some tv→∀ X G w v,ay X st G w→aP G (st.uH i) v→aP (G.t8 al) tv v
 dL:∀ o tl,t.dL o=some tl→∃ sl,st.dL o=some sl∧All2 (fun a b=>∀ X G w v,ay X st G w→aT G a v→aT (G.t8 al) b v) (st.jV o 0 sl) (t.jV o 0 tl)
structure ac7(st t:St)(al:AL):Prop extends KO st t al where
 pn:t.pin=st.pin
 pa:∀ a,eU a st.pin=true→(∃ A,look al a=some (some a,A))∧∃ B,t.arr a=some B
 pin:∀ o sl,o<10000→st.dL o=some sl→∃ tl,t.dL o=some tl
 ur:∀ o j lf sl,o<10000→dV st.cD o j=some lf→st.dL o=some sl→sl[j]? = some .ur→(∃ lf',dV t.cD o j=some lf')∧∃ tl,t.dL o=some tl∧tl[j]? = some .ur
theorem All2.adl{α β γ:Type}{R:α→γ→Prop}{T:β→γ→Prop}:∀{xs:List α} {ys:List β} {vs:List γ},All2 (fun a b=>∀ v,R a v→T b v) xs ys→All2 R xs vs→All2 T ys vs
 |[],[],[],_,_=>trivial
 |_::_,_::_,_::_,h,k=>⟨h.1 _ k.1,All2.adl h.2 k.2⟩
 |[],[],_::_,_,k=>k.elim
 |[],_::_,_,h,_=>h.elim
 |_::_,[],_,h,_=>h.elim
 |_::_,_::_,[],_,k=>k.elim
theorem KO.pd{st t:St}{al:AL}(h:KO st t al){G:Gh}:∀ x b,eR (G.t8 al) t x b→∃ x',eR G st x' b∧((∃ o,x=(false,o)∧x' = (false,o))∨∃ nm a A,x=(true,nm)∧x' = (true,a)∧look al nm=some (some a,A)):=fun x b hx=>by
 obtain⟨k,n⟩:=x;cases k with
 |false=>obtain⟨⟨tl,ht⟩,rfl⟩:=hx;obtain⟨sl,hs,_⟩:=h.dL n tl ht;exact⟨(false,n),⟨⟨sl,hs⟩,rfl⟩,.inl ⟨n,rfl,rfl⟩⟩
 |true=>
  obtain⟨⟨A,hA,hs⟩,p,hp,rfl⟩:=hx;obtain⟨jM,hl⟩:=h.arr n A hA;cases jM with
  |none=>simp[Gh.t8,hl] at hp
  |some a=>simp only[Gh.t8,hl] at hp;exact⟨(true,a),⟨⟨A,(h.jM n a A hl).2,hs⟩,p,hp,rfl⟩,.inr ⟨n,a,A,rfl,rfl,hl⟩⟩
theorem KO.ok{st t:St}{al:AL}(h:KO st t al){X:mz}{G:Gh}{w:World}(hm:ay X st G w)(XW:∀ o p,X.pin o=some p→∃ tl,t.dL o=some tl)
  (hbv:∀ o j u,X.bv o j=some u→(∃ lf',dV t.cD o j=some lf')∧∃ tl,t.dL o=some tl∧tl[j]? = some .ur)
  (hap:∀ a u,X.aa5 a=some u→eU a t.pin=true∧(∃ A,t.arr a=some A)∧(G.t8 al).ψ a=u):ay X t (G.t8 al) w:=by
 have pd:=h.pd (G:=G);refine {sl:=fun a=>?_,sh:=hm.sh,ob:=fun o tl ho=>?_,ar:=fun nm A hA=>?_,ah:=fun nm A hA hs=>?_,nd:=fun nm A hA hs=>?_,pX:=fun x y b hx hy=>?_,dS:=fun x b hx=>?_,sZ:=fun x b hx=>?_,s0:=hm.s0,sn:=hm.sn,fr:=hm.fr,sz:=hm.sz,os:=hm.os,tp:=hm.tp,out:=hm.out,pin:=fun o p hp=>?_,bv:=fun o j u hv=>(by obtain⟨_,_,r⟩:=hm.bv o j u hv;obtain⟨q1,q2⟩:=hbv o j u hv;exact⟨q1,q2,r⟩),ap:=hap,hv:=fun a=>(by simp only[St.dA,h.vr,look];rfl),ds:=hm.ds,hh:=fun nm A hA hs hn=>?_}
 ·show SlV (match look al a with|some (some a,_)=>G.ψ a|_=>.slice none 0 0)
  split
  ·exact hm.sl _
  ·exact .inl ⟨_,_,_,rfl⟩
 ·obtain⟨sl,hs,ha⟩:=h.dL o tl ho
  obtain⟨arr,elem,mid,g1,g2,g3⟩:=hm.ob o sl hs;exact⟨arr,elem,mid,g1,g2,(ha.imp fun a b hab v hv=>hab X G w v hm hv).adl g3⟩
 ·obtain⟨jM,hl⟩:=h.arr nm A hA
  cases jM with
  |none=>obtain⟨h1,h2,h3⟩:=h.nil nm A hl;refine(gR h1 h3).2 ?_;exact .inl ⟨h2,by simp[Gh.t8,hl],by simp[Gh.t8,hl]⟩
  |some a=>obtain⟨h1,h2⟩:=h.jM nm a A hl;exact(hm.ar a A h2).mono (G:=G) (a:=a) (G':=G.t8 al) (a':=nm) (fun _ _ h=>h) (by simp[Gh.t8,hl]) (by simp[Gh.t8,hl]) (fun _ _ _=>⟨rfl,rfl,rfl⟩)
 ·obtain⟨jM,hl⟩:=h.arr nm A hA
  cases jM with
  |none=>intro p hp;simp[Gh.t8,hl] at hp
  |some a=>simpa[Gh.t8,hl] using hm.ah a A (h.jM nm a A hl).2 hs
 ·obtain⟨jM,hl⟩:=h.arr nm A hA
  cases jM with
  |none=>simp[Gh.t8,hl]
  |some a=>simpa[Gh.t8,hl] using hm.nd a A (h.jM nm a A hl).2 hs
 ·obtain⟨x',E4,cx⟩:=pd x b hx
  obtain⟨y',Gc,cy⟩:=pd y b hy;have e:=hm.pX x' y' b E4 Gc;rcases cx with ⟨o,rfl,rfl⟩|⟨nm,a,A,rfl,rfl,hl⟩<;>rcases cy with ⟨o',rfl,rfl⟩|⟨nm',a',A',rfl,rfl,Mi⟩
  ·exact e
  ·simp at e
  ·simp at e
  ·simp only[aia,b9a] at e
   subst e;rw[h.inj nm nm' a A A' hl Mi]
 ·obtain⟨x',E4,_⟩:=pd x b hx;exact hm.dS x' b E4
 ·obtain⟨x',E4,_⟩:=pd x b hx;exact hm.sZ x' b E4
 ·exact⟨XW o p hp,(hm.pin o p hp).2⟩
 ·obtain⟨jM,hl⟩:=h.arr nm A hA
  cases jM with
  |none=>simp[Gh.t8,hl,kp]
  |some a=>simp[Gh.t8,hl]
theorem ac7.ok{st t:St}{al:AL}(h:ac7 st t al){X:mz}{G:Gh}{w:World}(hm:ay X st G w):ay X t (G.t8 al) w:=
 h.toKO.ok hm (fun o p hp=>(by obtain⟨⟨sl,hs⟩,_⟩:=hm.pin o p hp;exact h.pin o sl (X.pl o p hp) hs))
  (fun o j u hv=>(by obtain⟨⟨lf,h1⟩,⟨sl,h2,h3⟩,_⟩:=hm.bv o j u hv;exact h.ur o j lf sl (X.bl o j u hv) h1 h2 h3))
  (fun a u hu=>(by
   obtain⟨h1,_,h3⟩:=hm.ap a u hu;obtain⟨⟨A,h4⟩,B,h5⟩:=h.pa a h1;exact⟨(by rw[h.pn];exact h1),⟨B,h5⟩,by simp[Gh.t8,h4,h3]⟩))
theorem KO.et{st t:St}{al:AL}(h:KO st t al){X:mz}{G:Gh}{w:World}(hm:ay X st G w){act:Act}(hr:bM G st act):bM (G.t8 al) t act:=
 ⟨hr.1,hr.2.1.trans h.n.symm,fun i tv ht=>by
  refine h.ib i tv ht X G w _ hm ?_;unfold St.uH;cases hs:st.ib i with
  |none=>trivial
  |some sv=>exact hr.2.2 i sv hs⟩
structure YH(st t:St):Prop where
 vr:t.ER=st.ER
 pn:t.pin=st.pin
 ap:∀ a A,eU a st.pin=true→st.arr a=some A→∃ B,t.arr a=some B
 n:t.n=st.n
 arr:∀ nm A,t.arr nm=some A→st.arr nm=some A
 ib:∀ i tv,t.ib i=some tv→∀ G v,aP G (st.uH i) v→aP G tv v
 dL:∀ o tl,t.dL o=some tl→∃ sl,st.dL o=some sl∧All2 (fun a b=>∀ G v,aT G a v→aT G b v) (st.jV o 0 sl) (t.jV o 0 tl)
 pin:∀ o sl,o<10000→st.dL o=some sl→∃ tl,t.dL o=some tl
 ur:∀ o j lf sl,dV t.cD o j=some lf→st.dL o=some sl→sl[j]? = some .ur→∃ tl,t.dL o=some tl∧tl[j]? = some .ur
theorem YH.ok{st t:St}(h:YH st t){X:mz}{G:Gh}{w:World}(hm:ay X st G w)(hbv:∀ o j u,X.bv o j=some u→∃ lf,dV t.cD o j=some lf):ay X t G w:=by
 have pd:∀ x b,eR G t x b→eR G st x b:=fun x b hx=>by
  obtain⟨k,n⟩:=x;cases k with
  |false=>obtain⟨⟨tl,ht⟩,rfl⟩:=hx;obtain⟨sl,hs,_⟩:=h.dL n tl ht;exact⟨⟨sl,hs⟩,rfl⟩
  |true=>obtain⟨⟨A,hA,hs⟩,p,hp,rfl⟩:=hx;exact⟨⟨A,h.arr n A hA,hs⟩,p,hp,rfl⟩
 refine {sl:=hm.sl,sh:=hm.sh,ob:=fun o tl ho=>?_,ar:=fun nm A hA=>hm.ar nm A (h.arr nm A hA),ah:=fun nm A hA hs=>hm.ah nm A (h.arr nm A hA) hs,nd:=fun nm A hA hs=>hm.nd nm A (h.arr nm A hA) hs,pX:=fun x y b hx hy=>hm.pX x y b (pd x b hx) (pd y b hy),dS:=fun x b hx=>hm.dS x b (pd x b hx),sZ:=fun x b hx=>hm.sZ x b (pd x b hx),s0:=hm.s0,sn:=hm.sn,fr:=hm.fr,sz:=hm.sz,os:=hm.os,tp:=hm.tp,out:=hm.out,pin:=fun o p hp=>?_,bv:=fun o j u hv=>(by obtain⟨_,⟨sl,h2,h3⟩,r⟩:=hm.bv o j u hv;obtain⟨lf,h1⟩:=hbv o j u hv;exact⟨⟨lf,h1⟩,h.ur o j lf sl h1 h2 h3,r⟩),ap:=fun a u hu=>(by obtain⟨h1,⟨A,h2⟩,h3⟩:=hm.ap a u hu;exact⟨by rw[h.pn];exact h1,h.ap a A h1 h2,h3⟩),hv:=fun a=>(by rw[hm.hv a];simp only[St.dA,h.vr]),ds:=hm.ds,hh:=fun nm A hA hs hn=>hm.hh nm A (h.arr nm A hA) hs hn}
 ·obtain⟨sl,hs,ha⟩:=h.dL o tl ho
  obtain⟨arr,elem,mid,g1,g2,g3⟩:=hm.ob o sl hs;exact⟨arr,elem,mid,g1,g2,(ha.imp fun a b hab v hv=>hab G v hv).adl g3⟩
 ·obtain⟨⟨sl,hs⟩,e⟩:=hm.pin o p hp
  exact⟨h.pin o sl (X.pl o p hp) hs,e⟩
theorem YH.et{st t:St}(h:YH st t){G:Gh}{act:Act}(hr:bM G st act):bM G t act:=
 ⟨hr.1,hr.2.1.trans h.n.symm,fun i tv ht=>by
  refine h.ib i tv ht G _ ?_;unfold St.uH;cases hs:st.ib i with
  |none=>trivial
  |some sv=>exact hr.2.2 i sv hs⟩
end Go.Fx
namespace Go.Fx
inductive Pl where
 |r (i:Nat)|l (o j:Nat)|q (i j:Nat)
def Pl.key:Pl→Nat
 |.r i=>1000000+i
 |.l o j=>2000000+o * 1000+j
 |.q i j=>20000000+i * 1000+j
def Md.Se:Md→Bool
 |.dB=>true
 |.bK=>true
 |_=>false
inductive mu where
 |any|d (t:Ty)|h (m:Md) (t:Ty)|lit (l:ag)
@[reducible] def mu.V:mu→Type
 |.any=>Unit | .d t=>t.nw | .h _ t=>List t.nw | .lit _=>Unit
abbrev kT:=List (Pl×mu)
@[reducible] def PV:kT→Type
 |[]=>Unit
 |p::r=>p.2.V×PV r
def mu.bN(nm:Nat):(s:mu)→s.V→ag
 |.any,_=>.any
 |.d t,x=>.eV t x
 |.h _ _,_=>.mA nm
 |.lit l,_=>l
def mu.arr:(s:mu)→s.V→Option jG
 |.h m t,x=>some ⟨t,m,false,x⟩
 |_,_=>none
def lG:(ps:kT)→PV ps→List (Nat×ab)
 |[],_=>[]
 |(.r i,s)::r,v=>(i,.one (s.bN (Pl.r i).key v.1))::lG r v.2
 |(.l _ _,_)::r,v=>lG r v.2
 |(.q _ _,_)::r,v=>lG r v.2
def Jn:(ps:kT)→PV ps→List (Nat×Nat×ag)
 |[],_=>[]
 |(.q i j,s)::r,v=>(i,j,s.bN (Pl.q i j).key v.1)::Jn r v.2
 |(.r _,_)::r,v=>Jn r v.2
 |(.l _ _,_)::r,v=>Jn r v.2
def Sk(i:Nat):kT→Nat
 |[]=>0
 |(.q i' _,_)::r=>bif Nat.beq i' i then Sk i r+1 else Sk i r
 |_::r=>Sk i r
def Yh(full:kT):kT→List (Nat×Nat)
 |[]=>[]
 |(.q i 0,_)::r=>(i,Sk i full)::Yh full r
 |_::r=>Yh full r
def qsh(l:List (Nat×Nat×ag))(i:Nat):Nat→Nat→List ag
 |_,0=>[]
 |j,n+1=>(match dV l i j with|some l=>l|none=>.any)::qsh l i (j+1) n
def SQ(ps:kT)(v:PV ps):List (Nat×ab):=(Yh ps ps).map fun p=>(p.1,.agg (qsh (Jn ps v) p.1 0 p.2))
def bZ:(ps:kT)→PV ps→List (Nat×Nat×ag)
 |[],_=>[]
 |(.l o j,s)::r,v=>(o,j,s.bN (Pl.l o j).key v.1)::bZ r v.2
 |(.r _,_)::r,v=>bZ r v.2
 |(.q _ _,_)::r,v=>bZ r v.2
def eF:(ps:kT)→PV ps→List (Nat×jG)
 |[],_=>[]
 |(p,s)::r,v=>(match s.arr v.1 with|some A=>(p.key,A)::eF r v.2|none=>eF r v.2)
structure pW where
 n:Nat
 cg:List (Nat×Nat)
 cs:kT
 vs:kT
 pin:List Nat
def pg(cl vl:List (Nat×Nat×ag))(o:Nat):Nat→Nat→List ag
 |_,0=>[]
 |j,k+1=>(match dV cl o j with|some _=>.ur|none=>match dV vl o j with|some l=>l|none=>.any)::pg cl vl o (j+1) k
def pW.st(L:pW)(c:PV L.cs)(v:PV L.vs):St:=
 ⟨L.n,lG L.vs v++SQ L.vs v,L.cg.map fun p=>(p.1,pg (bZ L.cs c) (bZ L.vs v) p.1 0 p.2),eF L.vs v,lG L.cs c,bZ L.cs c,eF L.cs c,L.pin,[]⟩
def vC:ag→ag→Bool
 |.nil,.nil=>true
 |.Kz,.Kz=>true
 |.uZ,.uZ=>true
 |.np o f,.np o' f'=>Nat.beq o o'&&Nat.beq f f'
 |.fn f,.fn f'=>Nat.beq f f'
 |_,_=>false
def ab.qls(v:ab):Option (List ag):=bif v.isAgg then v.pH else none
def qOk(ps:kT)(s:St):Bool:=(Yh ps ps).all fun p=>match (s.uH p.1).qls with|some ls=>Nat.beq ls.length p.2|none=>false
def St.at(st:St):Pl→ab
 |.r i=>st.uH i
 |.q i j=>(match (st.uH i).qls with|some ls=>(match ls[j]? with|some l=>.one l|none=>.one .any)|none=>.one .any)
 |.l o j=>(match st.dL o with|some ls=>(match ls[j]? with|some l=>.one (st.res o j l)|none=>.one .any)|none=>.one .any)
def zP(st:St)(p:Pl):(s:mu)→Option (s.V×AL)
 |.any=>some ((),[])
 |.d t=>(match (st.at p).wh st t with|some x=>some (x,[])|none=>none)
 |.h m t=>(match st.at p with
  |.one .nil=>(bif m.Se then some ([],[(p.key,none,⟨t,m,false,[]⟩)]) else none)
  |.one (.mA a)=>(match st.arr a with
   |some A=>(bif A.sh||!m.lj A.md then none else match vf (.slice A.t) (.slice t) A.l with|some x=>some (x,[(p.key,some a,⟨t,m,false,x⟩)])|none=>none)
   |none=>none)
  |_=>none)
 |.lit l=>(match st.at p with | .one l'=>(bif vC l l' then some ((),[]) else none)|_=>none)
def lc(st:St):(ps:kT)→Option (PV ps×AL)
 |[]=>some ((),[])
 |p::r=>(match zP st p.1 p.2 with
  |some (x,a)=>(match lc st r with|some (xs,b)=>some ((x,xs),a++b)|none=>none)
  |none=>none)
def iA:kT→St→Option St
 |[],st=>some st
 |(p,.d _)::r,st=>(match (st.at p).qn st with|some st'=>iA r st' | none=>none)
 |_::r,st=>iA r st
def z6(al:AL):Bool:=nX (al.map (·.1))&&nX (al.filterMap (·.2.1))
def Es(cg:List (Nat×Nat))(st:St):Bool:=
 cg.all (fun p=>match st.dL p.1 with|some ls=>Nat.beq ls.length p.2|none=>false)&&st.cg.all fun p=>Nat.ble 10000 p.1||eU p.1 (cg.map (·.1))
def I4(st:St):Pl→mu→Bool
 |.r i,s=>(look st.et i).isNone&&(match s with | .h _ _=>(look st.cM (Pl.r i).key).isNone | .lit l=>vC l l|_=>true)
 |.l o j,s=>(match st.dL o with|some ls=>(match ls[j]? with|some .ur=>true|_=>false)|none=>false)&&(match s with | .h _ _=>(look st.cM (Pl.l o j).key).isNone | .lit l=>vC l l|_=>true)
 |.q _ _,_=>false
def uT(st:St)(cs:kT):Bool:=nX (cs.map fun p=>p.1.key)&&cs.all fun p=>I4 st p.1 p.2
def fP:(cs:kT)→PV cs→AL
 |[],_=>[]
 |(p,s)::r,v=>(match s.arr v.1 with|some A=>(p.key,some p.key,A)::fP r v.2|none=>fP r v.2)
def XC:List Nat→List Nat→Bool
 |[],[]=>true
 |x::r,y::s=>Nat.beq x y&&XC r s
 |_,_=>false
def Gj(pin:List Nat)(al:AL):Bool:=pin.all fun q=>match look al q with|some (some b,_)=>Nat.beq q b|_=>false
def ent(L:pW)(st:St):Option (PV L.cs×PV L.vs×St):=
 match iA L.cs st with
 |none=>none
 |some s=>(match iA L.vs s with
  |none=>none
  |some s=>(match lc s L.cs with
   |none=>none
   |some (c,a)=>(match lc s L.vs with
    |none=>none
    |some (v,b)=>(bif Nat.beq L.n s.n&&z6 (a++b)&&Es L.cg s&&qOk L.vs s&&(XC L.pin s.pin&&Gj L.pin (a++b)) then some (c,v,s) else none))))
def rnd(L:pW)(al:AL)(s:St):Option (PV L.vs):=
 match iA L.vs s with
 |none=>none
 |some s=>(match lc s L.vs with
  |none=>none
  |some (v,b)=>(bif uT s L.cs&&z6 (al++b)&&Es L.cg s&&qOk L.vs s&&Gj L.pin (al++b) then some v else none))
end Go.Fx
namespace Go.Fx
theorem eB:∀{l:List Nat},nX l=true→l.Nodup
 |[],_=>b5a
 |x::r,h=>by simp only[nX,Q4,aLa] at h;rw[a0a];exact⟨(fun hx=>(by rw[gD.2 hx] at h;cases h.1)),eB h.2⟩
theorem lb{α:Type}:∀{l:List (Nat×α)} {k:Nat} {v:α},(l.map (·.1)).Nodup→(k,v)∈l→look l k=some v
 |(k',v')::r,k,v,hn,h=>by
  rw[au];rw[aFa,a0a] at hn;by_cases e:k' = k
  ·subst e
   rcases aka.1 h with h|h
   ·cases h;simp
   ·exact absurd (aGa (f:=(·.1)) h) hn.1
  ·rw[aza e]
   rcases aka.1 h with h|h
   ·cases h;exact absurd rfl e
   ·exact lb hn.2 h
theorem Jw:∀{al:AL} {n n' a:Nat} {A A':jG},(al.filterMap (·.2.1)).Nodup→(n,some a,A)∈al→(n',some a,A')∈al→n=n'
 |(k,jM,B)::r,n,n',a,A,A',hn,h,h'=>by
  have gS:∀{m:Nat} {C:jG},(m,some a,C)∈r→a∈r.filterMap (·.2.1):=fun {m C} hm=>bha.2 ⟨_,hm,rfl⟩
  rcases aka.1 h with h1|h1<;>rcases aka.1 h' with h2|h2
  ·cases h1;cases h2;rfl
  ·cases h1
   simp only[bXa,a0a] at hn;exact absurd (gS h2) hn.1
  ·cases h2
   simp only[bXa,a0a] at hn;exact absurd (gS h1) hn.1
  ·refine Jw (al:=r) ?_ h1 h2
   cases jM with
   |none=>simpa using hn
   |some _=>simp only[bXa,a0a] at hn;exact hn.2
def Mw(s:St)(al:AL):Prop:=∀ nm jM A,(nm,jM,A)∈al→A.sh=false∧(match jM with|some a=>s.arr a=some A|none=>A.l=[]∧A.pd=true)
structure Src(s:St)(al:AL)(p:Pl)(sp:mu)(x:sp.V):Prop where
 Gl:∀ X G w v,ay X s G w→aP G (s.at p) v→aP (G.t8 al) (.one (sp.bN p.key x)) v
 arr:∀ A,sp.arr x=some A→∃ jM,look al p.key=some (jM,A)
def sd(s:St)(al:AL):(ps:kT)→PV ps→Prop
 |[],_=>True
 |(p,sp)::r,v=>Src s al p sp v.1∧sd s al r v.2
theorem NT{l l':ag}(h:vC l l' = true):l=l':=by cases l<;>cases l'<;>simp_all[vC]
theorem WB{G:Gh}{al:AL}{l l':ag}{v:Value}(h:vC l l' = true)(r:aT G l' v):aT (G.t8 al) l v:=by rw[NT h];cases l'<;>first|exact r|(cases l<;>simp[vC] at h)
theorem aaq{s:St}{p:Pl}{sp:mu}{x:sp.V}{a:AL}(h:zP s p sp=some (x,a)):Mw s a:=by
 cases sp with
 |any=>simp only[zP,OF,aia] at h;obtain⟨_,rfl⟩:=h;intro _ _ _ hm;cases hm
 |d t=>
  simp only[zP] at h;split at h
  ·simp only[OF,aia] at h;obtain⟨_,rfl⟩:=h;intro _ _ _ hm;cases hm
  ·cases h
 |lit l=>
  simp only[zP] at h;split at h
  ·rename_i l' _
   cases he:vC l l'<;>simp[he] at h;subst h;intro _ _ _ hm;cases hm
  ·cases h
 |h m t=>
  simp only[zP] at h;split at h
  ·cases hw:m.Se with
   |false=>simp[hw] at h
   |true=>
   simp only[hw,Q9,OF,aia] at h;obtain⟨_,rfl⟩:=h;intro nm jM A hm;simp only[Q7,aia] at hm;obtain⟨_,rfl,rfl⟩:=hm;exact⟨rfl,rfl,hw⟩
  ·rename_i b _
   split at h
   ·rename_i A hA
    cases hs:(A.sh||!m.lj A.md) with
    |true=>simp[hs] at h
    |false=>
     simp only[hs,ana] at h;simp only[aEa,bla] at hs;split at h
     ·rename_i y hy
      simp only[OF,aia] at h;obtain⟨rfl,rfl⟩:=h;intro nm jM B hm;simp only[Q7,aia] at hm;obtain⟨_,rfl,rfl⟩:=hm;obtain⟨ec,el⟩:=lC hy;have ux:=Md.wI hs.2;obtain⟨t',dp,sh,ll⟩:=A;simp only[Ty.slice.injEq] at ec;subst ec;simp only at el hs ux;obtain⟨rfl,_⟩:=hs;subst el ux;exact⟨rfl,hA⟩
     ·cases h
   ·cases h
  ·cases h
theorem abR{s:St}{p:Pl}{sp:mu}{x:sp.V}{a al:AL}(h:zP s p sp=some (x,a))(p9:∀ e∈a,e∈al)(hn:(al.map (·.1)).Nodup):Src s al p sp x:=by
 cases sp with
 |any=>exact⟨fun _ _ _ _ _ _=>trivial,fun A hA=>by cases hA⟩
 |d t=>
  simp only[zP] at h;split at h
  ·rename_i y hy
   simp only[OF,aia] at h;obtain⟨rfl,_⟩:=h;exact⟨fun X G w v hm hv=>DG hm hy hv,fun A hA=>by cases hA⟩
  ·cases h
 |lit l=>
  simp only[zP] at h;split at h
  ·rename_i l' Mi
   cases he:vC l l'<;>simp[he] at h;refine⟨fun X G w v hm hv=>?_,fun A hA=>by cases hA⟩
   rw[Mi] at hv;exact WB he hv
  ·cases h
 |h m t=>
  simp only[zP] at h;split at h
  ·rename_i uw
   cases hw:m.Se with
   |false=>simp[hw] at h
   |true=>
   simp only[hw,Q9,OF,aia] at h;obtain⟨rfl,rfl⟩:=h;have hl:=lb hn (p9 _ (Q7.2 rfl));refine⟨fun X G w v hm hv=>?_,fun A hA=>⟨none,by rw[hl];simp[mu.arr] at hA;rw[hA]⟩⟩
   rw[uw] at hv;show v=(G.t8 al).ψ p.key;simp only[Gh.t8,hl];exact hv
  ·rename_i b uw
   split at h
   ·rename_i A hA
    cases hs:(A.sh||!m.lj A.md) with
    |true=>simp[hs] at h
    |false=>
     simp only[hs,ana] at h;split at h
     ·rename_i y hy
      simp only[OF,aia] at h;obtain⟨rfl,rfl⟩:=h;have hl:=lb hn (p9 _ (Q7.2 rfl));refine⟨fun X G w v hm hv=>?_,fun A hA=>⟨some b,by rw[hl];simp[mu.arr] at hA;rw[hA]⟩⟩
      rw[uw] at hv;show v=(G.t8 al).ψ p.key;simp only[Gh.t8,hl];exact hv
     ·cases h
   ·cases h
  ·cases h
theorem pf{s:St}:∀{ps:kT} {v:PV ps} {a:AL},lc s ps=some (v,a)→Mw s a
 |[],v,a,h=>by simp only[lc,OF,aia] at h;obtain⟨_,rfl⟩:=h;intro _ _ _ hm;cases hm
 |(p,sp)::r,v,a,h=>by
  simp only[lc] at h;split at h
  ·rename_i x a1 h1
   split at h
   ·rename_i xs b h2
    simp only[OF,aia] at h;obtain⟨_,rfl⟩:=h;intro nm jM A hm;rcases ala.1 hm with hm|hm
    ·exact aaq h1 nm jM A hm
    ·exact pf h2 nm jM A hm
   ·cases h
  ·cases h
theorem uG{s:St}{al:AL}(hn:(al.map (·.1)).Nodup):∀{ps:kT} {v:PV ps} {a:AL},lc s ps=some (v,a)→(∀ e∈a,e∈al)→sd s al ps v
 |[],v,a,h,_=>trivial
 |(p,sp)::r,v,a,h,p9=>by
  simp only[lc] at h;split at h
  ·rename_i x a1 h1
   split at h
   ·rename_i xs b h2
    simp only[OF,aia] at h;obtain⟨rfl,rfl⟩:=h;exact⟨abR h1 (fun e he=>p9 e (axa _ he)) hn,uG hn h2 (fun e he=>p9 e (aoa _ he))⟩
   ·cases h
  ·cases h
theorem BU{s:St}{al:AL}:∀{ps:kT} {v:PV ps} {nm:Nat} {A:jG},sd s al ps v→look (eF ps v) nm=some A→∃ jM,look al nm=some (jM,A)
 |[],v,nm,A,_,h=>by cases h
 |(p,sp)::r,v,nm,A,hs,h=>by
  simp only[eF] at h;split at h
  ·rename_i B hB
   rw[au] at h;by_cases e:p.key=nm
   ·simp only[e,aua,OF] at h
    subst h;subst e;exact hs.1.arr _ hB
   ·simp only[e,aca] at h;exact BU hs.2 h
  ·exact BU hs.2 h
theorem ij{α:Type}:∀(l m:List (Nat×α)) (k:Nat),look (l++m) k=(match look l k with|some v=>some v|none=>look m k)
 |[],m,k=>rfl
 |(k',v)::r,m,k=>by
  simp only[a2a,au];by_cases e:k' = k
  ·simp[e]
  ·simp only[e,aca];exact ij r m k
theorem xt{s:St}:∀{ps:kT} {v:PV ps} {a:AL},lc s ps=some (v,a)→∀ nm jM A,(nm,jM,A)∈a→∃ B,look (eF ps v) nm=some B
 |[],v,a,h,nm,jM,A,hm=>by simp only[lc,OF,aia] at h;obtain⟨_,rfl⟩:=h;cases hm
 |(p,sp)::r,v,a,h,nm,jM,A,hm=>by
  simp only[lc] at h;split at h
  ·rename_i x a1 h1
   split at h
   ·rename_i xs b h2
    simp only[OF,aia] at h;obtain⟨rfl,rfl⟩:=h;have key:(∃ B,look (eF r xs) nm=some B)→∃ B,look (eF ((p,sp)::r) (x,xs)) nm=some B:=fun⟨B,hB⟩=>by
     simp only[eF];split
     ·rw[au];split
      ·exact⟨_,rfl⟩
      ·exact⟨B,hB⟩
     ·exact⟨B,hB⟩
    rcases ala.1 hm with hm|hm
    ·have hs:nm=p.key∧sp.arr x=some A:=by
      cases sp with
      |any=>simp only[zP,OF,aia] at h1;obtain⟨_,rfl⟩:=h1;cases hm
      |d t=>simp only[zP] at h1;split at h1<;>simp at h1;obtain⟨_,rfl⟩:=h1;cases hm
      |lit l=>
       simp only[zP] at h1;split at h1
       ·rename_i l' _;cases he:vC l l'<;>simp[he] at h1;subst h1;cases hm
       ·cases h1
      |h m t=>
       simp only[zP] at h1;split at h1
       ·cases hw:m.Se with
        |false=>simp[hw] at h1
        |true=>simp only[hw,Q9,OF,aia] at h1;obtain⟨rfl,rfl⟩:=h1;simp only[Q7,aia] at hm;obtain⟨rfl,_,rfl⟩:=hm;exact⟨rfl,rfl⟩
       ·split at h1
        ·rename_i A' _
         cases hs:(A'.sh||!m.lj A'.md) with
         |true=>simp[hs] at h1
         |false=>
          simp only[hs,ana] at h1;split at h1
          ·simp only[OF,aia] at h1
           obtain⟨rfl,rfl⟩:=h1;simp only[Q7,aia] at hm;obtain⟨rfl,_,rfl⟩:=hm;exact⟨rfl,rfl⟩
          ·cases h1
        ·cases h1
       ·cases h1
     obtain⟨rfl,e⟩:=hs;exact⟨A,by simp[eF,e,au]⟩
    ·exact key (xt h2 nm jM A hm)
   ·cases h
  ·cases h
theorem Sp{L:pW}{c:PV L.cs}{v:PV L.vs}{nm:Nat}(h:(∃ B,look (eF L.cs c) nm=some B)∨∃ B,look (eF L.vs v) nm=some B):∃ B,(L.st c v).arr nm=some B:=by
 have e:(L.st c v).arr nm=(match look (eF L.vs v) nm with|some v=>some v|none=>look (eF L.cs c) nm):=rfl
 rw[e];cases hv:look (eF L.vs v) nm with
 |some B=>exact⟨B,rfl⟩
 |none=>
  rcases h with h|⟨B,h⟩
  ·exact h
  ·rw[hv] at h;cases h
theorem yQ{s:St}{al:AL}:∀{ps:kT} {v:PV ps} {i:Nat} {tv:ab},sd s al ps v→look (lG ps v) i=some tv→∀ X G w u,ay X s G w→aP G (s.uH i) u→aP (G.t8 al) tv u
 |[],v,i,tv,_,h=>by cases h
 |(.r j,sp)::r,v,i,tv,hs,h=>by
  simp only[lG] at h;rw[au] at h;by_cases e:j=i
  ·simp only[e,aua,OF] at h
   subst h;subst e;exact hs.1.Gl
  ·simp only[e,aca] at h;exact yQ hs.2 h
 |(.l o j,sp)::r,v,i,tv,hs,h=>yQ (ps:=r) hs.2 h
 |(.q _ _,sp)::r,v,i,tv,hs,h=>yQ (ps:=r) hs.2 h
theorem Fd{s:St}{al:AL}:∀{ps:kT} {v:PV ps} {o j:Nat} {lf:ag},sd s al ps v→dV (Jn ps v) o j=some lf→∀ X G w u,ay X s G w→aP G (s.at (.q o j)) u→aT (G.t8 al) lf u
 |[],v,o,j,lf,_,h=>by cases h
 |(.r _,sp)::r,v,o,j,lf,hs,h=>Fd (ps:=r) hs.2 h
 |(.l _ _,sp)::r,v,o,j,lf,hs,h=>Fd (ps:=r) hs.2 h
 |(.q o' j',sp)::r,v,o,j,lf,hs,h=>by
  simp only[Jn,dV] at h;cases hb:(Nat.beq o' o&&Nat.beq j' j) with
  |true=>simp only[hb,Q9,OF] at h;simp only[Q4] at hb;have e1:=Q5 hb.1;have e2:=Q5 hb.2;subst h;subst e1;subst e2;exact fun X G w u hm hu=>hs.1.Gl X G w u hm hu
  |false=>simp only[hb,ana] at h;exact Fd hs.2 h
theorem aap{X:mz}{st:St}{G:Gh}{w:World}{v:ab}{ls:List ag}{u:Value}(hm:ay X st G w)(h:v.qls=some ls)(hu:aP G v u):∃ cs:List Value,u=.agg cs.toArray∧All2 (aT G) ls cs:=by
 unfold ab.qls at h;cases hi:v.isAgg with
 |false=>rw[hi] at h;cases h
 |true=>rw[hi,Q9] at h;have h1:=mv hm h hu;obtain⟨cs,e⟩:=Eb hi hu;subst e;exact⟨cs.toList,by simp,h1⟩
theorem W0{s:St}{al:AL}{ps:kT}{v:PV ps}(hs:sd s al ps v){i:Nat}{X:mz}{G:Gh}{w:World}(hm:ay X s G w){sl:List ag}(hq:(s.uH i).qls=some sl):∀(n j:Nat) (l:List ag) (cs:List Value),l.length=n→(∀ k,sl[j+k]? = l[k]?)→All2 (aT G) l cs→All2 (aT (G.t8 al)) (qsh (Jn ps v) i j n) cs
 |0,j,[],[],_,_,_=>trivial
 |n+1,j,a::l,c::cs,hl,hi,ha=>by
  refine⟨?_,W0 hs hm hq n (j+1) l cs (by simpa using hl) (fun k=>by have:=hi (k+1);rw[show j+(k+1)=j+1+k by omega] at this;simpa using this) ha.2⟩
  cases hc:dV (Jn ps v) i j with
  |none=>trivial
  |some lf=>
   refine Fd hs hc X G w c hm ?_;have h0:sl[j]? = some a:=by simpa using hi 0
   simp only[St.at,hq,h0];exact ha.1
 |0,j,[],_::_,_,_,ha=>ha.elim
 |n+1,j,_::_,[],_,_,ha=>ha.elim
theorem YI{s:St}{al:AL}{ps:kT}{v:PV ps}(hs:sd s al ps v)(hq:qOk ps s=true){i:Nat}{tv:ab}(h:look (SQ ps v) i=some tv):∀ X G w u,ay X s G w→aP G (s.uH i) u→aP (G.t8 al) tv u:=by
 intro X G w u hm hu;obtain⟨n,hin,rfl⟩:∃ n,(i,n)∈Yh ps ps∧tv=.agg (qsh (Jn ps v) i 0 n):=by unfold SQ at h;have gS:=dY h;obtain⟨⟨k,n⟩,h1,h2⟩:=aXa.1 gS;simp only[aia] at h2;obtain⟨rfl,rfl⟩:=h2;exact⟨n,h1,rfl⟩
 have h2:=apa.1 hq _ hin;split at h2
 ·rename_i ls Pj
  obtain⟨cs,e1,e2⟩:=aap hm Pj hu;exact⟨cs,e1,W0 hs hm Pj n 0 ls cs (Q5 h2) (fun k=>by rw[aTa]) e2⟩
 ·cases h2
theorem tC{s:St}{al:AL}:∀{ps:kT} {v:PV ps} {o j:Nat} {lf:ag},sd s al ps v→dV (bZ ps v) o j=some lf→∀ X G w u,ay X s G w→aP G (s.at (.l o j)) u→aT (G.t8 al) lf u
 |[],v,o,j,lf,_,h=>by cases h
 |(.r _,sp)::r,v,o,j,lf,hs,h=>tC (ps:=r) hs.2 h
 |(.q _ _,sp)::r,v,o,j,lf,hs,h=>tC (ps:=r) hs.2 h
 |(.l o' j',sp)::r,v,o,j,lf,hs,h=>by
  simp only[bZ,dV] at h;cases hb:(Nat.beq o' o&&Nat.beq j' j) with
  |true=>simp only[hb,Q9,OF] at h;simp only[Q4] at hb;have e1:=Q5 hb.1;have e2:=Q5 hb.2;subst h;subst e1;subst e2;exact fun X G w u hm hu=>hs.1.Gl X G w u hm hu
  |false=>simp only[hb,ana] at h;exact tC hs.2 h
theorem xq{cl vl:List (Nat×Nat×ag)}:∀{cg:List (Nat×Nat)} {o:Nat} {tl:List ag},look (cg.map fun p=>(p.1,pg cl vl p.1 0 p.2)) o=some tl→∃ len,(o,len)∈cg∧tl=pg cl vl o 0 len
 |[],o,tl,h=>by cases h
 |(q,len)::r,o,tl,h=>by
  simp only[aFa,au] at h;by_cases e:q=o
  ·simp only[e,aua,OF] at h
   subst h;subst e;exact⟨len,by simp,rfl⟩
  ·simp only[e,aca] at h
   obtain⟨len,h1,h2⟩:=xq h;exact⟨len,Q8 _ h1,h2⟩
theorem uU{α β:Type}{f:Nat×α→β}:∀{l:List (Nat×α)} {o:Nat},o∈l.map (·.1)→∃ b,look (l.map fun p=>(p.1,f p)) o=some b
 |[],o,h=>by cases h
 |p::r,o,h=>by
  simp only[aFa,au];by_cases e:p.1=o
  ·simp[e]
  ·simp only[e,aca]
   rcases aka.1 h with h|h
   ·exact absurd h.symm e
   ·exact uU h
theorem QM{s:St}{al:AL}{L:pW}{c:PV L.cs}{v:PV L.vs}(hc:sd s al L.cs c)(hv:sd s al L.vs v){o:Nat}{sl:List ag}(ho:s.dL o=some sl):∀(k j:Nat) (l:List ag),l.length=k→(∀ i,sl[j+i]? = l[i]?)→
  All2 (fun a b=>∀ X G w u,ay X s G w→aT G a u→aT (G.t8 al) b u) (s.jV o j l) ((L.st c v).jV o j (pg (bZ L.cs c) (bZ L.vs v) o j k))
 |0,j,[],_,_=>trivial
 |k+1,j,a::l,hl,hi=>by
  refine⟨fun X G w u hm hu=>?_,QM hc hv ho k (j+1) l (by simpa using hl) (fun i=>by have:=hi (i+1);rw[show j+(i+1)=j+1+i by omega] at this;simpa using this)⟩
  have uw:s.at (.l o j)=.one (s.res o j a):=by
   have h0:sl[j]? = some a:=by simpa using hi 0
   simp[St.at,ho,h0]
  have hu':aP G (s.at (.l o j)) u:=by rw[uw];exact hu
  cases mg:dV (bZ L.cs c) o j with
  |some lf=>simp only[mg,St.res];have:(L.st c v).cD=bZ L.cs c:=rfl;rw[this,mg];exact tC hc mg X G w u hm hu'
  |none=>
   simp only[mg];cases hvl:dV (bZ L.vs v) o j with
   |none=>exact trivial
   |some lf=>
    simp only;have h1:=tC hv hvl X G w u hm hu';cases lf with
    |ur=>simp only[St.res];have:(L.st c v).cD=bZ L.cs c:=rfl;rw[this,mg];trivial
    |_=>exact h1
theorem yS{cl vl:List (Nat×Nat×ag)}{o:Nat}:∀{k i j:Nat} {lf:ag},j<k→dV cl o (i+j)=some lf→(pg cl vl o i k)[j]? = some .ur
 |k+1,i,0,lf,_,h=>by simp only[pg];rw[cra] at h;simp[h]
 |k+1,i,j+1,lf,hj,h=>by simp only[pg,bpa];exact yS (by omega) (by rw[show i+1+j=i+(j+1) by omega];exact h)
theorem TT{s:St}{al:AL}{L:pW}{c:PV L.cs}{v:PV L.vs}(hc:sd s al L.cs c)(hv:sd s al L.vs v)(hg:Mw s al)(Ga:z6 al=true)(ho:(L.cg.all fun p=>match s.dL p.1 with|some ls=>Nat.beq ls.length p.2|none=>false)=true)(hn:L.n=s.n)(hq:qOk L.vs s=true):KO s (L.st c v) al:=by
 simp only[z6,Q4] at Ga;refine {n:=hn,vr:=rfl,arr:=fun nm A h=>?_,jM:=fun nm a A h=>?_,nil:=fun nm A h=>?_,inj:=fun nm nm' a A A' h h'=>?_,ib:=fun i tv h=>?_,dL:=fun o tl h=>?_}
 ·unfold St.arr at h
  split at h
  ·rename_i B hB;cases h;exact BU hv hB
  ·exact BU hc h
 ·exact hg nm (some a) A (dY h)
 ·exact hg nm none A (dY h)
 ·exact Jw (eB Ga.2) (dY h) (dY h')
 ·unfold St.ib at h
  split at h
  ·rename_i B hB
   cases h;have hB:look (lG L.vs v++SQ L.vs v) i=some tv:=hB;rw[ij] at hB;cases hr:look (lG L.vs v) i with
   |some x=>rw[hr] at hB;cases hB;exact yQ hv hr
   |none=>rw[hr] at hB;exact YI hv hq hB
  ·exact yQ hc h
 ·obtain⟨len,h1,rfl⟩:=xq h
  have h2:=apa.1 ho _ h1;split at h2
  ·rename_i sl Mk
   exact⟨sl,Mk,QM hc hv Mk len 0 sl (Q5 h2) (fun i=>by rw[aTa])⟩
  ·cases h2
theorem RZ{s:St}{al:AL}{L:pW}{c:PV L.cs}{v:PV L.vs}(hc:sd s al L.cs c)(hv:sd s al L.vs v)(hg:Mw s al)(Ga:z6 al=true)(ho:Es L.cg s=true)(hn:L.n=s.n)(hbl:∀ o j lf,dV s.cD o j=some lf→∃ lf',dV (bZ L.cs c) o j=some lf')(hq:qOk L.vs s=true)(ON:L.pin=s.pin)(JB:Gj L.pin al=true)
  (sy:∀ nm jM A,(nm,jM,A)∈al→∃ B,(L.st c v).arr nm=some B):ac7 s (L.st c v) al:=by
 simp only[Es,Q4] at ho
 refine {toKO:=TT hc hv hg Ga ho.1 hn hq,pn:=ON,pa:=fun a ha=>(by
  rw[←ON] at ha;have h1:=apa.1 JB a (gD.1 ha);split at h1
  ·rename_i b A hl
   obtain rfl:=Q5 h1;exact⟨⟨A,hl⟩,sy _ _ _ (dY hl)⟩
  ·cases h1),pin:=fun o sl bq h=>?_,ur:=fun o j lf sl bq hl h hj=>?_}
 ·have h2:=apa.1 ho.2 _ (dY h)
  simp only[a3a] at h2;rcases h2 with h2|h2
  ·have:=aUa h2;omega
  ·exact uU (f:=fun p=>pg (bZ L.cs c) (bZ L.vs v) p.1 0 p.2) (gD.1 h2)
 ·have h2:=apa.1 ho.2 _ (dY h)
  simp only[a3a] at h2;obtain⟨lf',hlf⟩:=hbl o j lf hl;refine⟨⟨lf',hlf⟩,?_⟩;rcases h2 with h2|h2
  ·have:=aUa h2;omega
  ·obtain⟨tl,htl⟩:=uU (f:=fun p=>pg (bZ L.cs c) (bZ L.vs v) p.1 0 p.2) (gD.1 h2)
   refine⟨tl,htl,?_⟩;obtain⟨len,h1,rfl⟩:=xq htl;have h3:=apa.1 ho.1 _ h1;simp only[h] at h3;have h3:sl.length=len:=Q5 h3;have hjl:j<sl.length:=(aja.1 hj).1;exact yS (by omega) (by rw[aTa];exact hlf)
end Go.Fx
namespace Go.Fx
theorem nO{X:mz}{w:World}:∀{ps:kT} {st st':St} {G:Gh},iA ps st=some st'→ay X st G w→∃ G',ay X st' G' w∧G.ME G'∧qS st st'
 |[],st,st',G,h,hm=>by simp only[iA,OF] at h;subst h;exact⟨G,hm,.refl G,.refl _⟩
 |(p,sp)::r,st,st',G,h,hm=>by
  cases sp with
  |d t=>
   simp only[iA] at h;split at h
   ·rename_i s1 h1
    obtain⟨G1,m1,a1,k1⟩:=Fh h1 hm;obtain⟨G2,m2,a2,k2⟩:=nO h m1;exact⟨G2,m2,a1.trans a2,k1.trans k2⟩
   ·cases h
  |_=>exact nO (ps:=r) h hm
theorem nZ:∀{ps:kT} {st st':St},iA ps st=some st'→ke st st'
 |[],st,st',h=>by simp only[iA,OF] at h;subst h;exact .refl _
 |(p,sp)::r,st,st',h=>by
  cases sp with
  |d t=>
   simp only[iA] at h;split at h
   ·rename_i s1 h1;exact(Ld h1).trans (nZ h)
   ·cases h
  |_=>exact nZ (ps:=r) h
theorem Bg{G G':Gh}{st st':St}(k:qS st st')(h:G.ME G'){act:Act}(r:bM G st act):bM G' st' act:=r.sub h k.n k.ib
theorem RF:∀{l m:List Nat},XC l m=true→l=m
 |[],[],_=>rfl
 |x::r,y::s,h=>by simp only[XC,Q4] at h;rw[Q5 h.1,RF h.2]
 |[],_::_,h=>by cases h
 |_::_,[],h=>by cases h
theorem Y3{L:pW}{st s:St}{c:PV L.cs}{v:PV L.vs}(h:ent L st=some (c,v,s))(hbl:∀ o j lf,dV s.cD o j=some lf→∃ lf',dV (bZ L.cs c) o j=some lf'){X:mz}{G:Gh}{w:World}{act:Act}(hm:ay X st G w)(hr:bM G st act):
  ∃ G',ay X (L.st c v) G' w∧bM G' (L.st c v) act:=by
 unfold ent at h;split at h
 ·cases h
 ·rename_i s1 h1
  split at h
  ·cases h
  ·rename_i s2 h2
   split at h
   ·cases h
   ·rename_i c' a hc
    split at h
    ·cases h
    ·rename_i v' b hv
     cases hk:(Nat.beq L.n s2.n&&z6 (a++b)&&Es L.cg s2&&qOk L.vs s2&&(XC L.pin s2.pin&&Gj L.pin (a++b))) with
     |false=>simp[hk] at h
     |true=>
      simp only[hk,Q9,OF,aia] at h;obtain⟨rfl,rfl,rfl⟩:=h;simp only[Q4] at hk;obtain⟨⟨⟨⟨k1,k2⟩,k3⟩,k4⟩,k5,k6⟩:=hk;obtain⟨G1,m1,a1,q1⟩:=nO h1 hm;obtain⟨G2,m2,a2,q2⟩:=nO h2 m1;have hn:((a++b).map (·.1)).Nodup:=by have:=k2;simp only[z6,Q4] at this;exact eB this.1
      have N:=RZ (L:=L) (uG hn hc (fun e he=>axa _ he)) (uG hn hv (fun e he=>aoa _ he))
       (fun nm jM A gS=>by
        rcases ala.1 gS with gS|gS
        ·exact pf hc nm jM A gS
        ·exact pf hv nm jM A gS) k2 k3 (Q5 k1) hbl k4 (RF k5) k6
       (fun nm jM A gS=>Sp ((ala.1 gS).imp (xt hc nm jM A) (xt hv nm jM A)))
      exact⟨_,N.ok m2,N.et m2 (Bg q2 a2 (Bg q1 a1 hr))⟩
def kS(full:(ps:kT)×PV ps):(ps:kT)→PV ps→Prop
 |[],_=>True
 |(.r i,sp)::r,v=>look (lG full.1 full.2) i=some (.one (sp.bN (Pl.r i).key v.1))∧(∀ A,sp.arr v.1=some A→look (eF full.1 full.2) (Pl.r i).key=some A)∧kS full r v.2
 |(.l o j,sp)::r,v=>dV (bZ full.1 full.2) o j=some (sp.bN (Pl.l o j).key v.1)∧(∀ A,sp.arr v.1=some A→look (eF full.1 full.2) (Pl.l o j).key=some A)∧kS full r v.2
 |(.q i j,sp)::r,v=>True∧(∀ A,sp.arr v.1=some A→look (eF full.1 full.2) (Pl.q i j).key=some A)∧kS full r v.2
def PX(p:Pl×mu)(x:p.2.V)(f:(ps:kT)×PV ps):(ps:kT)×PV ps:=⟨p::f.1,(x,f.2)⟩
theorem kS.cons{p:Pl×mu}{x:p.2.V}{full:(ps:kT)×PV ps}:∀{ps:kT} {v:PV ps},kS full ps v→p.1.key∉ps.map (fun p=>p.1.key)→kS (PX p x full) ps v
 |[],v,_,_=>trivial
 |(.r i,sp)::r,v,h,hn=>by
  obtain⟨h1,h2,h3⟩:=h;simp only[aFa,aka,cha] at hn;refine⟨?_,fun A hA=>?_,kS.cons h3 hn.2⟩
  ·obtain⟨q,sq⟩:=p
   cases q with
   |r j=>
    have:j≠i:=fun e=>hn.1 (by rw[e])
    simp only[PX,lG,au,aza this];exact h1
   |l o j=>exact h1
   |q _ _=>exact h1
  ·have:=h2 A hA
   simp only[PX,eF];split
   ·rw[au,aza hn.1];exact this
   ·exact this
 |(.l o j,sp)::r,v,h,hn=>by
  obtain⟨h1,h2,h3⟩:=h;simp only[aFa,aka,cha] at hn;refine⟨?_,fun A hA=>?_,kS.cons h3 hn.2⟩
  ·obtain⟨q,sq⟩:=p
   cases q with
   |r i=>exact h1
   |q _ _=>exact h1
   |l o' j'=>
    have:(Nat.beq o' o&&Nat.beq j' j)=false:=by
     cases hb:(Nat.beq o' o&&Nat.beq j' j) with
     |false=>rfl
     |true=>simp only[Q4] at hb;exact absurd (by rw[Q5 hb.1,Q5 hb.2]) hn.1
    simp only[PX,bZ,dV,this,ana];exact h1
  ·have:=h2 A hA
   simp only[PX,eF];split
   ·rw[au,aza hn.1];exact this
   ·exact this
 |(.q i j,sp)::r,v,h,hn=>by
  obtain⟨h1,h2,h3⟩:=h;simp only[aFa,aka,cha] at hn;refine⟨trivial,fun A hA=>?_,kS.cons h3 hn.2⟩;have:=h2 A hA;simp only[PX,eF];split
  ·rw[au,aza hn.1];exact this
  ·exact this
theorem A4:∀{ps:kT} {v:PV ps},(ps.map fun p=>p.1.key).Nodup→kS ⟨ps,v⟩ ps v
 |[],v,_=>trivial
 |p::r,v,hn=>by
  rw[aFa,a0a] at hn;have ih:=kS.cons (p:=p) (x:=v.1) (A4 (v:=v.2) hn.2) hn.1;obtain⟨q,sq⟩:=p;cases q with
  |r i=>
   refine⟨by simp[lG,au],fun A hA=>?_,ih⟩
   simp only at hA;simp[eF,hA,au]
  |l o j=>
   refine⟨by simp[bZ,dV],fun A hA=>?_,ih⟩
   simp only at hA;simp[eF,hA,au]
  |q i j=>refine⟨trivial,fun A hA=>?_,ih⟩;simp only at hA;simp[eF,hA,au]
def s6(L:pW)(c:PV L.cs)(s:St):Prop:=L.n=s.n∧s.jh=lG L.cs c∧s.cD=bZ L.cs c∧(s.fK,s.pin)=(eF L.cs c,L.pin)
theorem TG{s:St}{al:AL}{p:Pl}{sp:mu}{x:sp.V}(uw:s.at p=.one (sp.bN p.key x))(hl:∀ l,sp=.lit l→vC l l=true)(ha:∀ A,sp.arr x=some A→look al p.key=some (some p.key,A)):Src s al p sp x:=by
 refine⟨fun X G w u hm hu=>?_,fun A hA=>⟨_,ha A hA⟩⟩;rw[uw] at hu;cases sp with
 |any=>trivial
 |d t=>exact hu
 |lit l=>exact WB (hl l rfl) hu
 |h m t=>have:=ha _ rfl;show u=(G.t8 al).ψ p.key;simp only[Gh.t8,this];exact hu
theorem I5{s:St}{al:AL}{full:(ps:kT)×PV ps}(h1:s.jh=lG full.1 full.2)(h2:s.cD=bZ full.1 full.2)(hn:(al.map (·.1)).Nodup):
  ∀{ps:kT} {v:PV ps},kS full ps v→(ps.all fun p=>I4 s p.1 p.2)=true→(∀ e∈fP ps v,e∈al)→sd s al ps v
 |[],v,_,_,_=>trivial
 |(.r i,sp)::r,v,hf,hk,hs=>by
  obtain⟨f1,f2,f3⟩:=hf;simp only[bma,Q4] at hk;obtain⟨k12,k3⟩:=hk;simp only[I4,Q4] at k12;obtain⟨k1,k2⟩:=k12;have hlr:look s.et i=none:=by simpa using k1
  refine⟨TG (by simp[St.at,St.uH,St.ib,hlr,h1,f1]) (fun l e=>by subst e;exact k2) (fun A hA=>?_),I5 h1 h2 hn f3 (by simpa using k3) (fun e he=>hs e ?_)⟩
  ·exact lb hn (hs _ (by simp[fP,hA]))
  ·simp only[fP];split<;>simp[he]
 |(.l o j,sp)::r,v,hf,hk,hs=>by
  obtain⟨f1,f2,f3⟩:=hf;simp only[bma,Q4] at hk;obtain⟨k12,k3⟩:=hk;simp only[I4,Q4] at k12;obtain⟨k1,k2⟩:=k12;refine⟨TG ?_ (fun l e=>by subst e;exact k2) (fun A hA=>?_),I5 h1 h2 hn f3 (by simpa using k3) (fun e he=>hs e ?_)⟩
  ·split at k1
   ·rename_i ls ho
    split at k1
    ·rename_i hj
     simp[St.at,ho,hj,St.res,h2,f1]
    ·cases k1
   ·cases k1
  ·exact lb hn (hs _ (by simp[fP,hA]))
  ·simp only[fP];split<;>simp[he]
 |(.q i j,sp)::r,v,hf,hk,hs=>by simp only[bma,Q4,I4] at hk;cases hk.1
theorem AT{sp:mu}{x:sp.V}{A:jG}(h:sp.arr x=some A):A.sh=false∧∃ m t,sp=.h m t:=by cases sp<;>simp[mu.arr] at h;subst h;exact⟨rfl,_,_,rfl⟩
theorem Be{s:St}{full:(ps:kT)×PV ps}(h3:s.fK=eF full.1 full.2):
  ∀{ps:kT} {v:PV ps},kS full ps v→(ps.all fun p=>I4 s p.1 p.2)=true→Mw s (fP ps v)
 |[],v,_,_=>by intro _ _ _ h;cases h
 |(p,sp)::r,v,hf,hk=>by
  simp only[bma,Q4] at hk;obtain⟨k1,k3⟩:=hk;have f2:∀ A,sp.arr v.1=some A→look (eF full.1 full.2) p.key=some A:=by cases p<;>exact hf.2.1
  have f3:kS full r v.2:=by cases p<;>exact hf.2.2
  intro nm jM A hm;simp only[fP] at hm;split at hm
  ·rename_i B hB
   rcases aka.1 hm with hm|hm
   ·simp only[aia] at hm
    obtain⟨rfl,rfl,rfl⟩:=hm;obtain⟨e1,m,t,e2⟩:=AT hB;refine⟨e1,?_⟩;have vP:look s.cM p.key=none:=by subst e2;cases p<;>first|(simp only[I4,Q4] at k1;simpa using k1.2)|(simp only[I4] at k1;cases k1)
    simp[St.arr,vP,h3,f2 _ hB]
   ·exact Be h3 f3 (by simpa using k3) nm jM A hm
  ·exact Be h3 f3 (by simpa using k3) nm jM A hm
theorem s6.iL{L:pW}{c:PV L.cs}{s s':St}(h:s6 L c s)(b:ke s s'):s6 L c s':=⟨h.1.trans b.1.symm,b.2.1.trans h.2.1,b.2.2.1.trans h.2.2.1,b.2.2.2.trans h.2.2.2⟩
theorem Cb:∀{cs:kT} {c:PV cs} (nm:Nat) (jM:Option Nat) (A:jG),(nm,jM,A)∈fP cs c→∃ B,look (eF cs c) nm=some B
 |[],_,nm,jM,A,h=>by cases h
 |(p,s)::r,c,nm,jM,A,h=>by
  simp only[fP] at h;simp only[eF];split
  ·rename_i B hB
   rw[hB] at h;rw[au];by_cases e:p.key=nm
   ·exact⟨B,by rw[a4a e]⟩
   ·rw[aza e]
    rcases aka.1 h with h|h
    ·cases h;exact absurd rfl e
    ·exact Cb nm jM A h
  ·rename_i hB
   rw[hB] at h;exact Cb nm jM A h
theorem VF{L:pW}{c:PV L.cs}{s:St}{v:PV L.vs}(hb:s6 L c s)(h:rnd L (fP L.cs c) s=some v){X:mz}{G:Gh}{w:World}{act:Act}(hm:ay X s G w)(hr:bM G s act):
  ∃ G',ay X (L.st c v) G' w∧bM G' (L.st c v) act:=by
 unfold rnd at h;split at h
 ·cases h
 ·rename_i s1 h1
  split at h
  ·cases h
  ·rename_i v' b hv
   cases hk:(uT s1 L.cs&&z6 (fP L.cs c++b)&&Es L.cg s1&&qOk L.vs s1&&Gj L.pin (fP L.cs c++b)) with
   |false=>simp[hk] at h
   |true=>
    simp only[hk,Q9,OF] at h;subst h;simp only[Q4,uT] at hk;obtain⟨⟨⟨⟨⟨k0,k1⟩,k2⟩,k3⟩,k4⟩,k6⟩:=hk;have Dq:=hb.iL (nZ h1);obtain⟨G1,m1,a1,q1⟩:=nO h1 hm;have hn:((fP L.cs c++b).map (·.1)).Nodup:=by have:=k2;simp only[z6,Q4] at this;exact eB this.1
    have hf:=A4 (v:=c) (eB k0);have N:=RZ (L:=L) (I5 (full:=⟨L.cs,c⟩) Dq.2.1 Dq.2.2.1 hn hf k1 (fun e he=>axa _ he)) (uG hn hv (fun e he=>aoa _ he))
     (fun nm jM A gS=>by
      rcases ala.1 gS with gS|gS
      ·exact Be (full:=⟨L.cs,c⟩) (bja Dq.2.2.2).1 hf k1 nm jM A gS
      ·exact pf hv nm jM A gS) k2 k3 Dq.1 (fun o j lf hl=>⟨lf,by rw[←Dq.2.2.1];exact hl⟩) k4 (bja Dq.2.2.2).2.symm k6
     (fun nm jM A gS=>Sp ((ala.1 gS).imp (Cb nm jM A) (xt hv nm jM A)))
    exact⟨_,N.ok m1,N.et m1 (Bg q1 a1 hr)⟩
end Go.Fx
namespace Go.Fx
def qh(st:St)(k:Nat):mu→ab→Bool
 |.d _,.one (.eV _ _)=>true
 |.h _ _,.one (.mA a)=>Nat.beq a k&&(look st.cM k).isNone
 |.lit l,.one l'=>vC l l'
 |.any,.one .any=>true
 |_,_=>false
def PP(st:St):Pl→mu→Bool
 |.r i,s=>(match look st.jh i with|none=>true|some tv=>(look st.et i).isNone&&qh st (Pl.r i).key s tv)
 |.q _ _,_=>true
 |.l o j,s=>(match dV st.cD o j with|none=>true|some lf=>(match st.dL o with|some ls=>(match ls[j]? with|some .ur=>true|_=>false)|none=>false)&&qh st (Pl.l o j).key s (.one lf))
def Zh(i:Nat):kT→Bool
 |[]=>false
 |(.r j,_)::r=>Nat.beq j i||Zh i r
 |_::r=>Zh i r
def zb(o j:Nat):kT→Bool
 |[]=>false
 |(.l o' j',_)::r=>(Nat.beq o' o&&Nat.beq j' j)||zb o j r
 |_::r=>zb o j r
def Zg(st:St)(nm:Nat):kT→Bool
 |[]=>false
 |(p,.h _ _)::r=>(Nat.beq p.key nm&&(match p with | .r i=>(look st.jh i).isSome | .l o j=>(dV st.cD o j).isSome | .q _ _=>false))||Zg st nm r
 |_::r=>Zg st nm r
def MJ(cs:kT)(st:St):Bool:=
 nX (cs.map fun p=>p.1.key)&&cs.all (fun p=>PP st p.1 p.2)&&st.jh.all (fun p=>Zh p.1 cs)&&st.cD.all (fun p=>zb p.1 p.2.1 cs)&&st.fK.all (fun p=>Zg st p.1 cs)
def IJ(cl bl:List (Nat×Nat×ag))(o:Nat):Nat→List ag→List ag
 |_,[]=>[]
 |j,l::r=>(match l with | .ur=>(match dV bl o j with|some _=>.ur|none=>match dV cl o j with|some l=>l|none=>.any)|l=>l)::IJ cl bl o (j+1) r
def aft(L:pW)(c:PV L.cs)(v:PV L.vs)(st:St):St:=
 ⟨L.n,lG L.vs v++(SQ L.vs v++(lG L.cs c).filter (fun p=>(look st.jh p.1).isNone)),(L.st c v).cg.map (fun p=>(p.1,IJ (bZ L.cs c) st.cD p.1 0 p.2)),
  eF L.vs v++(eF L.cs c).filter (fun p=>(look st.fK p.1).isNone),st.jh,st.cD,st.fK,st.pin,[]⟩
theorem zN{α:Type}(f:Nat→Bool):∀(l:List (Nat×α)) (k:Nat),look (l.filter fun p=>f p.1) k=if f k=true then look l k else none
 |[],k=>by simp[look]
 |(k',v)::r,k=>by
  have ih:=zN f r k;by_cases hf:f k' = true
  ·simp only[cna,hf,aua,au]
   by_cases e:k' = k
   ·subst e;simp[hf]
   ·simp only[e,aca];exact ih
  ·simp only[cna,hf,au]
   by_cases e:k' = k
   ·subst e;simp only[asa,aca];rw[ih];simp[hf]
   ·simp only[e,aca,asa];exact ih
structure SD(st:St)(L:pW)(c:PV L.cs):Prop where
 ib:∀ i tv,look st.jh i=some tv→look (lG L.cs c) i=some tv
 bN:∀ o j lf,dV st.cD o j=some lf→dV (bZ L.cs c) o j=some lf
 arr:∀ nm A,look st.fK nm=some A→look (eF L.cs c) nm=some A
theorem Qx{s:St}{p:Pl}{sp:mu}{x:sp.V}{a:AL}{tv:ab}(h:zP s p sp=some (x,a))(uw:s.at p=tv)(hk:qh s p.key sp tv=true):tv=.one (sp.bN p.key x):=by
 cases sp with
 |any=>
  cases tv with
  |one l=>cases l with
   |any=>rfl
   |_=>simp[qh] at hk
  |_=>simp[qh] at hk
 |d t=>
  cases tv with
  |one l=>
   cases l with
   |eV t' y=>
    simp only[zP,uw,ab.wh,ag.wh] at h;cases hc:vf t' t y with
    |none=>simp[hc] at h
    |some z=>simp only[hc,OF,aia] at h;obtain⟨rfl,_⟩:=h;obtain⟨rfl,rfl⟩:=lC hc;rfl
   |_=>simp[qh] at hk
  |_=>simp[qh] at hk
 |lit l=>
  cases tv with
  |one l'=>simp only[qh] at hk;rw[NT hk];rfl
  |_=>simp[qh] at hk
 |h m t=>
  cases tv with
  |one l=>
   cases l with
   |mA b=>simp only[qh,Q4] at hk;rw[Q5 hk.1];rfl
   |_=>simp[qh] at hk
  |_=>simp[qh] at hk
theorem Vt{s:St}{p:Pl}{m:Md}{t:Ty}{x:(mu.h m t).V}{a:AL}{tv:ab}(h:zP s p (.h m t)=some (x,a))(uw:s.at p=tv)(hk:qh s p.key (.h m t) tv=true){A:jG}(hA:look s.fK p.key=some A):A=⟨t,m,false,x⟩:=by
 cases tv with
 |one l=>
  cases l with
  |mA b=>
   simp only[qh,Q4] at hk;have e:=Q5 hk.1;subst e;have vP:look s.cM p.key=none:=by simpa using hk.2
   simp only[zP,uw,St.arr,vP,hA] at h;cases hs:(A.sh||!m.lj A.md) with
   |true=>simp[hs] at h
   |false=>
    simp only[hs,ana] at h;simp only[aEa,bla] at hs;have ux:=Md.wI hs.2;split at h
    ·rename_i y hy
     simp only[OF,aia] at h;obtain⟨rfl,_⟩:=h;obtain⟨ec,el⟩:=lC hy;obtain⟨t',dp,sh,ll⟩:=A;simp only[Ty.slice.injEq] at ec;subst ec;simp only at el hs ux;obtain⟨rfl,_⟩:=hs;subst el ux;rfl
    ·cases h
  |_=>simp[qh] at hk
 |_=>simp[qh] at hk
theorem V8{s:St}{full:(ps:kT)×PV ps}:∀{ps:kT} {v:PV ps} {a:AL},lc s ps=some (v,a)→kS full ps v→(ps.all fun p=>PP s p.1 p.2)=true→
  (∀ i tv,Zh i ps=true→look s.jh i=some tv→look (lG full.1 full.2) i=some tv)∧
  (∀ o j lf,zb o j ps=true→dV s.cD o j=some lf→dV (bZ full.1 full.2) o j=some lf)∧
  (∀ nm A,Zg s nm ps=true→look s.fK nm=some A→look (eF full.1 full.2) nm=some A)
 |[],v,a,_,_,_=>⟨(fun _ _ h _=>(by cases h)),(fun _ _ _ h _=>(by cases h)),(fun _ _ h _=>(by cases h))⟩
 |(p,sp)::r,v,a,h,hf,hb=>by
  simp only[lc] at h;split at h
  ·rename_i x a1 h1
   split at h
   ·rename_i xs b h2
    simp only[OF,aia] at h;obtain⟨rfl,rfl⟩:=h;simp only[bma,Q4] at hb;obtain⟨b1,b2⟩:=hb;have f3:kS full r xs:=by cases p<;>exact hf.2.2
    have f2:∀ A,sp.arr x=some A→look (eF full.1 full.2) p.key=some A:=by cases p<;>exact hf.2.1
    obtain⟨g1,g2,g3⟩:=V8 h2 f3 b2;refine⟨fun i tv hh hl=>?_,fun o j lf hh hl=>?_,fun nm A hh hl=>?_⟩
    ·cases p with
     |l o j=>exact g1 i tv hh hl
     |q _ _=>exact g1 i tv hh hl
     |r k=>
      simp only[Zh,a3a] at hh;rcases hh with hh|hh
      ·obtain rfl:=Q5 hh
       simp only[PP,hl,Q4] at b1;have vP:look s.et k=none:=by simpa using b1.1
       have:=Qx h1 (tv:=tv) (by simp[St.at,St.uH,St.ib,vP,hl]) b1.2
       rw[this];exact hf.1
      ·exact g1 i tv hh hl
    ·cases p with
     |r k=>exact g2 o j lf hh hl
     |q _ _=>exact g2 o j lf hh hl
     |l o' j'=>
      simp only[zb,a3a] at hh;rcases hh with hh|hh
      ·simp only[Q4] at hh
       obtain rfl:=Q5 hh.1;obtain rfl:=Q5 hh.2;simp only[PP,hl,Q4] at b1;obtain⟨b3,b4⟩:=b1;have uw:s.at (.l o' j')=.one lf:=by
        split at b3
        ·rename_i ls ho
         split at b3
         ·rename_i hj;simp[St.at,ho,hj,St.res,hl]
         ·cases b3
        ·cases b3
       have:=Qx h1 (tv:=.one lf) uw b4;simp only[ab.one.injEq] at this;rw[this];exact hf.1
      ·exact g2 o j lf hh hl
    ·cases sp with
     |h m t=>
      simp only[Zg,a3a,Q4] at hh;rcases hh with ⟨hk,hh⟩|hh
      ·obtain rfl:=Q5 hk
       rw[f2 _ rfl];have key:∀ tv,s.at p=tv→qh s p.key (.h m t) tv=true→some (⟨t,m,false,x⟩:jG)=some A:=fun tv uw hk=>by rw[Vt h1 uw hk hl]
       cases p with
       |q _ _=>cases hh
       |r k=>
        obtain⟨tv,htv⟩:=cfa.1 hh;simp only[PP,htv,Q4] at b1;have vP:look s.et k=none:=by simpa using b1.1
        exact key tv (by simp[St.at,St.uH,St.ib,vP,htv]) b1.2
       |l o j=>
        obtain⟨lf,hlf⟩:=cfa.1 hh;simp only[PP,hlf,Q4] at b1;obtain⟨b3,b4⟩:=b1;refine key (.one lf) ?_ b4;split at b3
        ·rename_i ls ho
         split at b3
         ·rename_i hj;simp[St.at,ho,hj,St.res,hlf]
         ·cases b3
        ·cases b3
      ·exact g3 nm A hh hl
     |_=>exact g3 nm A hh hl
   ·cases h
  ·cases h
theorem V9{s:St}{L:pW}{c:PV L.cs}{a:AL}(h:lc s L.cs=some (c,a))(hb:MJ L.cs s=true):SD s L c:=by simp only[MJ,Q4] at hb;obtain⟨⟨⟨⟨h1,h2⟩,h3⟩,h4⟩,h5⟩:=hb;obtain⟨g1,g2,g3⟩:=V8 (full:=⟨L.cs,c⟩) h (A4 (eB h1)) h2;exact⟨fun i tv hl=>g1 i tv (apa.1 h3 _ (dY hl)) hl,fun o j lf hl=>g2 o j lf (apa.1 h4 _ (Kx hl)) hl,fun nm A hl=>g3 nm A (apa.1 h5 _ (dY hl)) hl⟩
theorem SD.iL{s st:St}{L:pW}{c:PV L.cs}(h:SD s L c)(b:ke st s):SD st L c:=
 ⟨fun i tv hl=>h.ib i tv (by rw[b.2.1];exact hl),fun o j lf hl=>h.bN o j lf (by rw[b.2.2.1];exact hl),fun nm A hl=>h.arr nm A (by rw[(bja b.2.2.2).1];exact hl)⟩
theorem Qb{L:pW}{c:PV L.cs}{v:PV L.vs}{st:St}(hs:SD st L c){o:Nat}:∀(ls:List ag) (j:Nat),
  All2 (fun a b=>∀ G u,aT G a u→aT G b u) ((L.st c v).jV o j ls) ((aft L c v st).jV o j (IJ (bZ L.cs c) st.cD o j ls))
 |[],j=>trivial
 |l::r,j=>by
  refine⟨fun G u hu=>?_,Qb hs r (j+1)⟩;have Dq:(L.st c v).cD=bZ L.cs c:=rfl;have Nx:(aft L c v st).cD=st.cD:=rfl;have nb:∀ l':ag,(match l' with | .ur=>False|_=>True)→(aft L c v st).res o j l' = l':=fun l' h=>by cases l'<;>first|exact h.elim|rfl
  cases l with
  |ur=>
   simp only[St.res,Dq] at hu;simp only;cases hl:dV st.cD o j with
   |some lf=>simp only[St.res,Nx,hl];rw[hs.bN o j lf hl] at hu;exact hu
   |none=>
    simp only;cases hc:dV (bZ L.cs c) o j with
    |none=>trivial
    |some lf=>
     rw[hc] at hu;simp only;cases lf with
     |ur=>simp only[St.res,Nx,hl];trivial
     |_=>exact hu
  |_=>exact hu
theorem I8{f:Nat→List ag→List ag}:∀{l:List (Nat×List ag)} {o:Nat} {tl:List ag},look (l.map fun p=>(p.1,f p.1 p.2)) o=some tl→∃ sl,look l o=some sl∧tl=f o sl
 |[],o,tl,h=>by cases h
 |(q,ls)::r,o,tl,h=>by
  simp only[aFa,au] at h;rw[au];by_cases e:q=o
  ·simp only[e,aua,OF] at h ⊢
   subst h;exact⟨ls,rfl,rfl⟩
  ·simp only[e,aca] at h ⊢
   exact I8 h
theorem Ap{f:Nat→List ag→List ag}:∀{l:List (Nat×List ag)} {o:Nat} {sl:List ag},look l o=some sl→look (l.map fun p=>(p.1,f p.1 p.2)) o=some (f o sl)
 |(q,ls)::r,o,sl,h=>by
  rw[au] at h;simp only[aFa,au];by_cases e:q=o
  ·simp only[e,aua,OF] at h ⊢;rw[h]
  ·simp only[e,aca] at h ⊢
   exact Ap h
theorem Qa{cl bl:List (Nat×Nat×ag)}{o:Nat}:∀{ls:List ag} {i j:Nat} {lf:ag},dV bl o (i+j)=some lf→ls[j]? = some .ur→(IJ cl bl o i ls)[j]? = some .ur
 |[],i,j,lf,_,h=>by simp at h
 |l::r,i,0,lf,hl,h=>by simp only[bba,OF] at h;subst h;rw[cra] at hl;simp[IJ,hl]
 |l::r,i,j+1,lf,hl,h=>by simp only[IJ,bpa] at h ⊢;exact Qa (by rw[show i+1+j=i+(j+1) by omega];exact hl) h
theorem In{L:pW}{c:PV L.cs}{v:PV L.vs}{st:St}(hs:SD st L c)(ON:L.pin=st.pin):YH (L.st c v) (aft L c v st):=by
 refine {pn:=ON.symm,vr:=rfl,ap:=fun nm A _ h=>?_,n:=rfl,arr:=fun nm A h=>?_,ib:=fun i tv h G u hu=>?_,dL:=fun o tl h=>?_,pin:=fun o sl _ h=>⟨_,Ap (f:=fun o ls=>IJ (bZ L.cs c) st.cD o 0 ls) h⟩,ur:=fun o j lf sl hl h hj=>⟨_,Ap (f:=fun o ls=>IJ (bZ L.cs c) st.cD o 0 ls) h,Qa (by rw[aTa];exact hl) hj⟩}
 ·have e1:(aft L c v st).arr nm=(match look (eF L.vs v++(eF L.cs c).filter fun p=>(look st.fK p.1).isNone) nm with|some v=>some v|none=>look st.fK nm):=rfl
  have e2:(L.st c v).arr nm=(match look (eF L.vs v) nm with|some v=>some v|none=>look (eF L.cs c) nm):=rfl
  rw[e1,ij];rw[e2] at h;cases h1:look (eF L.vs v) nm with
  |some B=>exact⟨B,rfl⟩
  |none=>
   simp only[h1] at h ⊢;rw[zN (fun k=>(look st.fK k).isNone)];cases h2:look st.fK nm with
   |none=>simp only[cFa,aua,h];exact⟨A,rfl⟩
   |some B=>simp only[cEa,asa,aca];exact⟨B,rfl⟩
 ·have e1:(aft L c v st).arr nm=(match look (eF L.vs v++(eF L.cs c).filter fun p=>(look st.fK p.1).isNone) nm with|some v=>some v|none=>look st.fK nm):=rfl
  have e2:(L.st c v).arr nm=(match look (eF L.vs v) nm with|some v=>some v|none=>look (eF L.cs c) nm):=rfl
  rw[e1,ij] at h;rw[e2];cases h1:look (eF L.vs v) nm with
  |some B=>simp only[h1] at h ⊢;exact h
  |none=>
   simp only[h1] at h ⊢;rw[zN (fun k=>(look st.fK k).isNone)] at h;cases h2:look st.fK nm with
   |none=>
    simp only[h2,cFa,aua] at h;cases h3:look (eF L.cs c) nm with
    |none=>simp[h3] at h
    |some B=>simpa[h3] using h
   |some B=>rw[h2] at h;simp only[cEa,asa,aca] at h;rw[hs.arr nm B h2];exact h
 ·have e1:(aft L c v st).ib i=(match look (lG L.vs v++(SQ L.vs v++(lG L.cs c).filter fun p=>(look st.jh p.1).isNone)) i with|some v=>some v|none=>look st.jh i):=rfl
  have e2:(L.st c v).ib i=(match look (lG L.vs v++SQ L.vs v) i with|some v=>some v|none=>look (lG L.cs c) i):=rfl
  have:(L.st c v).ib i=some tv:=by
   rw[e1,ij] at h;rw[e2,ij];cases h1:look (lG L.vs v) i with
   |some B=>simp only[h1] at h ⊢;exact h
   |none=>
    simp only[h1] at h ⊢;rw[ij] at h;cases h0:look (SQ L.vs v) i with
    |some B=>simp only[h0] at h ⊢;exact h
    |none=>
    simp only[h0] at h ⊢;rw[zN (fun k=>(look st.jh k).isNone)] at h;cases h2:look st.jh i with
    |none=>
     simp only[h2,cFa,aua] at h;cases h3:look (lG L.cs c) i with
     |none=>simp[h3] at h
     |some B=>simpa[h3] using h
    |some B=>rw[h2] at h;simp only[cEa,asa,aca] at h;rw[hs.ib i B h2];exact h
  simpa[St.uH,this] using hu
 ·obtain⟨sl,h1,rfl⟩:=I8 (f:=fun o ls=>IJ (bZ L.cs c) st.cD o 0 ls) h
  exact⟨sl,h1,Qb hs sl 0⟩
end Go.Fx
namespace Go.Fx
def vL:List ag→Bool
 |[]=>true
 |.eV _ _::r=>vL r
 |_=>false
abbrev Dk(W:Type):Type 1:={R:Type}→W→((e:Exit)→(vs:kT)→PV vs→Option R)→(TypeId→List ag→Option R)→Option R
def RU(o:Nat):kT→Nat
 |[]=>0
 |(.l o' _,_)::r=>bif Nat.beq o' o then RU o r+1 else RU o r
 |_::r=>RU o r
def abF(cg:List (Nat×Nat))(full:kT):kT→List (Nat×Nat)
 |[]=>[]
 |(.l o 0,_)::r=>bif eU o (cg.map (·.1)) then abF cg full r else(o,RU o full)::abF cg full r
 |_::r=>abF cg full r
def pW.with(L:pW)(vs:kT):pW:=⟨L.n,L.cg++abF L.cg vs vs,L.cs,vs,L.pin⟩
def QB(id:Nat):Exit→Exit
 |.exit i=>bif Nat.beq i id then .normal else .exit i
 |e=>e
def wW(id:Nat)(L:pW){W:Type}(l:PV L.cs→PV L.vs→Option W)(dk:Dk W):lm where
 run st K KP:=(match ent L st with
  |none=>none
  |some (c,v,s)=>(bif MJ L.cs s then(l c v).bind fun x=>dk x (fun e vs o=>K (QB id e) (aft (L.with vs) c o st)) (fun T ls=>KP (.Ak T ls) (aft (L.with []) c () st)) else none))
theorem J8{L:pW}{st s:St}{c:PV L.cs}{v:PV L.vs}(h:ent L st=some (c,v,s)):ke st s∧L.n=st.n∧L.pin=st.pin∧∃ a,lc s L.cs=some (c,a):=by
 unfold ent at h;split at h
 ·cases h
 ·rename_i s1 h1
  split at h
  ·cases h
  ·rename_i s2 h2
   split at h
   ·cases h
   ·rename_i c' a hc
    split at h
    ·cases h
    ·rename_i v' b hv
     cases hk:(Nat.beq L.n s2.n&&z6 (a++b)&&Es L.cg s2&&qOk L.vs s2&&(XC L.pin s2.pin&&Gj L.pin (a++b))) with
     |false=>simp[hk] at h
     |true=>simp only[hk,Q9,OF,aia] at h;obtain⟨rfl,rfl,rfl⟩:=h;simp only[Q4] at hk;have hb:=(nZ h1).trans (nZ h2);exact⟨hb,(Q5 hk.1.1.1.1).trans hb.1,(RF hk.2.1).trans (bja hb.2.2.2).2,a,hc⟩
theorem SP{L:pW}{c:PV L.cs}{v:PV L.vs}{st:St}(hn:L.n=st.n):ke st (aft L c v st):=⟨hn,rfl,rfl,rfl⟩
theorem Qs(id:Nat)(L:pW){W:Type}(l:PV L.cs→PV L.vs→Option W)(dk:Dk W):AM (wW id L l dk):=by
 intro R st K K' KP KP' hK hP;simp only[wW];split
 ·rfl
 ·rename_i c v s hs
  obtain⟨_,hn,_,_⟩:=J8 hs;have e1:(fun(e:Exit) (vs:kT) (o:PV vs)=>K (QB id e) (aft (L.with vs) c o st))=(fun e vs o=>K' (QB id e) (aft (L.with vs) c o st)):=funext fun e=>funext fun vs=>funext fun o=>hK _ _ (SP (L:=L.with _) hn)
  have e2:(fun(T:TypeId) (ls:List ag)=>KP (.Ak T ls) (aft (L.with []) c () st))=(fun T ls=>KP' (.Ak T ls) (aft (L.with []) c () st)):=funext fun T=>funext fun ls=>hP _ _ (SP (L:=L.with _) hn)
  rw[e1,e2];rfl
theorem HS{G G':Gh}(h:G.ME G'):∀{ls:List ag} {vs:List Value},All2 (aT G) ls vs→All2 (aT G') ls vs:=fun {ls vs} hr=>hr.imp fun l v h'=>h'.sub h
theorem W1{G:Gh}{al:AL}:∀{ls:List ag} {vs:List Value},vL ls=true→All2 (aT G) ls vs→All2 (aT (G.t8 al)) ls vs
 |[],[],_,_=>trivial
 |.eV t d::r,_::_,h,hr=>⟨hr.1,W1 (ls:=r) h hr.2⟩
 |[],_::_,_,hr=>hr.elim
 |_::_,[],_,hr=>hr.elim
theorem W3{L:pW}{c:PV L.cs}{s:St}{v:PV L.vs}(hb:s6 L c s)(h:rnd L (fP L.cs c) s=some v){X:mz}{G:Gh}{w:World}(hm:ay X s G w):
  ∃ G',ay X (L.st c v) G' w∧∀ T ls u,vL ls=true→aP G (.Ak T ls) u→aP G' (.Ak T ls) u:=by
 unfold rnd at h;split at h
 ·cases h
 ·rename_i s1 h1
  split at h
  ·cases h
  ·rename_i v' b hv
   cases hk:(uT s1 L.cs&&z6 (fP L.cs c++b)&&Es L.cg s1&&qOk L.vs s1&&Gj L.pin (fP L.cs c++b)) with
   |false=>simp[hk] at h
   |true=>
    simp only[hk,Q9,OF] at h;subst h;simp only[Q4,uT] at hk;obtain⟨⟨⟨⟨⟨k0,k1⟩,k2⟩,k3⟩,k4⟩,k6⟩:=hk;have Dq:=hb.iL (nZ h1);obtain⟨G1,m1,a1,q1⟩:=nO h1 hm;have hn:((fP L.cs c++b).map (·.1)).Nodup:=by have:=k2;simp only[z6,Q4] at this;exact eB this.1
    have hf:=A4 (v:=c) (eB k0);have N:=RZ (L:=L) (I5 (full:=⟨L.cs,c⟩) Dq.2.1 Dq.2.2.1 hn hf k1 (fun e he=>axa _ he)) (uG hn hv (fun e he=>aoa _ he))
     (fun nm jM A gS=>by
      rcases ala.1 gS with gS|gS
      ·exact Be (full:=⟨L.cs,c⟩) (bja Dq.2.2.2).1 hf k1 nm jM A gS
      ·exact pf hv nm jM A gS) k2 k3 Dq.1 (fun o j lf hl=>⟨lf,by rw[←Dq.2.2.1];exact hl⟩) k4 (bja Dq.2.2.2).2.symm k6
     (fun nm jM A gS=>Sp ((ala.1 gS).imp (Cb nm jM A) (xt hv nm jM A)))
    exact⟨_,N.ok m1,fun T ls u hd hu=>by
     obtain⟨x,cs,e1,e2,e3⟩:=hu;exact⟨x,cs,e1,e2,W1 hd (HS a1 e3)⟩⟩
noncomputable def gd(L:pW)(c:PV L.cs)(s:St){W:Type}(x:Option W):Option W:=@ite _ (s6 L c s) (Classical.propDecidable _) x none
theorem Kg{L:pW}{c:PV L.cs}{s:St}{W:Type}{x:Option W}(h:s6 L c s):gd L c s x=x:=by unfold gd;rw[a4a h]
theorem E0{L:pW}{c:PV L.cs}{s:St}{W:Type}{x:Option W}{y:W}(h:gd L c s x=some y):s6 L c s∧x=some y:=by
 unfold gd at h;split at h
 ·rename_i hb;exact⟨hb,h⟩
 ·cases h
section
variable {P:Program} {E:sb} (hE:F1 P E)
include hE
theorem abA{id:Nat}{body:Code}{L:pW}{W:Type}{l:Nat→PV L.cs→PV L.vs→Option W}{dk:Dk W}{out:PV L.cs→Exit→St→Option W}{pout:PV L.cs→ab→St→Option W}(hb:rV P E body)
  (h0:∀ c v,l 0 c v=none)
  (h1:∀ k c v,l (k+1) c v=sm E body (L.st c v) (fun e s=>match e with | .normal=>(rnd L (fP L.cs c) s).bind (l k c)|e=>out c e s) (pout c))
  (h2:∀ c e s x,out c e s=some x→∃ vs o,rnd (L.with vs) (fP L.cs c) s=some o∧∀(R:Type) f g,dk (R:=R) x f g=f e vs o)
  (h3:∀ c av s x,pout c av s=some x→∃ T ls,av=.Ak T ls∧vL ls=true∧rnd (L.with []) (fP L.cs c) s=some ()∧∀(R:Type) f g,dk (R:=R) x f g=g T ls) (k:Nat):
  Rb P E.gt id (.loop body) (wW id L (l k) dk):=by
 intro R r X st G w act K KP Q h zd hm hr hK hP;simp only[wW] at h;split at h
 ·cases h
 ·rename_i c v s hs
  obtain⟨hbs,hn,ON,a,Ay⟩:=J8 hs;cases hbi:MJ L.cs s with
  |false=>simp[hbi] at h
  |true=>
   simp only[hbi,Q9] at h;obtain⟨x,hx,h⟩:=awa.1 h;have bs0:=V9 Ay hbi;have bs:SD st L c:=bs0.iL hbs;obtain⟨G1,m1,r1⟩:=Y3 hs (fun o j lf hl=>⟨lf,bs0.bN o j lf hl⟩) hm hr;let Q':Exit→Act→World→Prop:=fun e a w=>match e with
    |.panic ch=>Q (.panic ch) a w
    |e=>Q (QB id e) a w
   have hQ:∀ e a w,Q' e a w→Exit.inBlock id Q e a w:=fun e a w hq=>by
    cases e with
    |exit i=>
     simp only[Exit.inBlock];by_cases e:i=id
     ·subst e;simp only[Q',QB,b7a,Q9] at hq;simpa using hq
     ·simp only[Q',QB,uE e,ana] at hq;simpa[e] using hq
    |_=>exact hq
   have xY:∀ e s G w act,e≠.normal→s6 L c s→ay X s G w→bM G s act→out c e s=some x→Q' e act w:=fun e s G w act gT hb m r' ho=>by
    obtain⟨vs,o,g1,g2⟩:=h2 c e s x ho;rw[g2] at h;obtain⟨G',m',r''⟩:=VF (L:=L.with vs) (c:=c) (v:=o) hb g1 m r'
    have wk:=In (L:=L.with vs) (c:=c) (v:=o) (st:=st) ⟨bs.ib,bs.bN,bs.arr⟩ ON
    have:=hK _ _ _ _ _ (wk.ok m' (fun o j u hu=>(hm.bv o j u hu).1)) (wk.et r'') h;cases e with
    |panic ch=>exact this
    |_=>exact this
   have adI:∀ av u s G w act,s6 L c s→ay X s G w→act.defers=G.ds→aP G av u→pout c av s=some x→Q' (.panic [{v:=u,recovered:=false}]) act w:=fun av u s G w act hb m r' hv ho=>by
    obtain⟨T,ls,rfl,hd,g1,g2⟩:=h3 c av s x ho;rw[g2] at h;obtain⟨G',m',hp⟩:=W3 (L:=L.with []) (c:=c) (v:=()) hb g1 m
    have wk:=In (L:=L.with []) (c:=c) (v:=()) (st:=st) ⟨bs.ib,bs.bN,bs.arr⟩ ON
    exact hP _ _ _ _ _ _ (wk.ok m' (fun o j u hu=>(hm.bv o j u hu).1)) (r'.trans (m.ds.trans m'.ds.symm)) (hp T ls u hd hv) h
   refine wp_block (wp_mono (Q:=Q') ?_ hQ);intro b kk cs;have key:∀ k v G act w,ay X (L.st c v) G w→bM G (L.st c v) act→l k c v=some x→
     ∃ e a' w',Q' e a' w'∧Arrives P (lone (b.at act (.code body::.inLoop body::kk)) cs w) b kk cs e a' w':=by
    intro k;induction k with
    |zero=>intro v G act w _ _ hl;rw[h0] at hl;cases hl
    |succ k ih=>
     intro v G act w m r' hl;rw[h1] at hl;have hl:=(QI hE.Rx hE.acP body (K':=fun e s=>gd L c s (match e with | .normal=>(rnd L (fP L.cs c) s).bind (l k c)|e=>out c e s))
      (KP':=fun av s=>gd L c s (pout c av s)) (fun e s hs=>(Kg ⟨hs.1.symm,hs.2.1,hs.2.2.1,hs.2.2.2⟩).symm) (fun av s hs=>(Kg ⟨hs.1.symm,hs.2.1,hs.2.2.1,hs.2.2.2⟩).symm)).symm.trans hl
     have hwp:=zQ hE zd body hb (Q:=Exit.then (fun a w=>∃ e a' w',Q' e a' w'∧Arrives P (lone (b.at a (.code body::.inLoop body::kk)) cs w) b kk cs e a' w') Q') hl m r'
      (fun e s G w act m r' hk=>by
       obtain⟨hbo,hk⟩:=E0 hk;cases e with
       |normal=>obtain⟨v',g1,g2⟩:=awa.1 hk;obtain⟨G',m',r''⟩:=VF hbo g1 m r';exact ih v' G' act w m' r'' g2
       |_=>exact xY _ _ _ _ _ (by simp) hbo m r' hk)
      (fun av u s G w act m r' hv hk=>by
       obtain⟨hbo,hk⟩:=E0 hk;exact adI _ _ _ _ _ _ hbo m r' hv hk)
     obtain⟨e,a₁,w₁,hq,oW⟩:=hwp b (.inLoop body::kk) cs;cases e with
     |normal=>obtain⟨e₂,a₂,w₂,hq₂,aeX⟩:=hq;exact⟨e₂,a₂,w₂,hq₂,.of_steps (Steps.trans oW (.one step_inLoop)) aeX⟩
     |exit id=>exact⟨_,a₁,w₁,hq,.pass (x:=.inLoop body) rfl (fun _ _=>.inl (by simp)) oW⟩
     |goto l=>exact⟨_,a₁,w₁,hq,.pass (x:=.inLoop body) rfl (fun _ _=>.inl (by simp)) oW⟩
     |ret=>exact⟨_,a₁,w₁,hq,.pass (x:=.inLoop body) rfl (fun _ _=>.inl (by simp)) oW⟩
     |panic ch=>exact⟨_,a₁,w₁,hq,.pass (x:=.inLoop body) rfl (fun _ _=>.inl (by simp)) oW⟩
     |outgrown=>exact⟨_,a₁,w₁,hq,.pass (x:=.inLoop body) rfl (fun _ _=>.inl (by simp)) oW⟩
   obtain⟨e,a',w',hq,oW⟩:=key k v G1 act w m1 r1 hx;exact⟨e,a',w',hq,.of_steps (.one step_loop) oW⟩
theorem aea{id:Nat}{ops:Array Oper}{L:pW}{W:Type}{F:PV L.cs→PV L.vs→Option W}{dk:Dk W}{out:PV L.cs→St→Option W}{pout:PV L.cs→ab→St→Option W}{ls:List (List Nat)}
  (hd:DS ops.toList (iK ops.toList [])=true) (hc:iP ops.toList (iK ops.toList []) ops.toList.length []=ls)
  (h1:∀ l∈ls,J6 ops.toList l=true∧∀ c v,F c v=HJ E ops.toList (iK ops.toList []) l [] (L.st c v) (out c) (pout c))
  (h2:∀ c s x,out c s=some x→∃ vs o,rnd (L.with vs) (fP L.cs c) s=some o∧∀(R:Type) f g,dk (R:=R) x f g=f .normal vs o)
  (h3:∀ c av s x,pout c av s=some x→∃ T ls,av=.Ak T ls∧vL ls=true∧rnd (L.with []) (fP L.cs c) s=some ()∧∀(R:Type) f g,dk (R:=R) x f g=g T ls):
  uo P E.gt (.region id ops true) (wW (id+1000000) L F dk):=by
 intro R r X st G w act K KP Q h zd hm hr hK hP;simp only[wW] at h;split at h
 ·cases h
 ·rename_i c v s hs
  obtain⟨hbs,hn,ON,a,Ay⟩:=J8 hs;cases hbi:MJ L.cs s with
  |false=>simp[hbi] at h
  |true=>
   simp only[hbi,Q9] at h;obtain⟨x,hx,h⟩:=awa.1 h;have bs0:=V9 Ay hbi;have bs:SD st L c:=bs0.iL hbs;obtain⟨G1,m1,r1⟩:=Y3 hs (fun o j lf hl=>⟨lf,bs0.bN o j lf hl⟩) hm hr;refine W5 hE.ia hE.BA hE.Rx hE.det zd (K:=fun s=>gd L c s (out c s)) (KP:=fun av s=>gd L c s (pout c av s)) (r:=x) (Kok:=fun s=>gd L c s (out c s)=some x) (KPok:=fun av s=>gd L c s (pout c av s)=some x)
    (fun s G w act m r' ho=>?_) (fun av u s G w act m r' hv ho=>?_) hE.mix hd (fun l hl=>?_) (fun _ h=>h) (fun _ _ h=>h) m1 r1
   ·obtain⟨hb,ho⟩:=E0 ho
    obtain⟨vs,o,g1,g2⟩:=h2 c s x ho;rw[g2] at h;obtain⟨G',m',r''⟩:=VF (L:=L.with vs) (c:=c) (v:=o) hb g1 m r'
    have wk:=In (L:=L.with vs) (c:=c) (v:=o) (st:=st) ⟨bs.ib,bs.bN,bs.arr⟩ ON
    exact hK _ _ _ _ _ (wk.ok m' (fun o j u hu=>(hm.bv o j u hu).1)) (wk.et r'') h
   ·obtain⟨hb,ho⟩:=E0 ho
    obtain⟨T,wX,rfl,Mh,g1,g2⟩:=h3 c av s x ho;rw[g2] at h;obtain⟨G',m',hp⟩:=W3 (L:=L.with []) (c:=c) (v:=()) hb g1 m
    have wk:=In (L:=L.with []) (c:=c) (v:=()) (st:=st) ⟨bs.ib,bs.bN,bs.arr⟩ ON
    exact hP _ _ _ _ _ _ (wk.ok m' (fun o j u hu=>(hm.bv o j u hu).1)) (r'.trans (m.ds.trans m'.ds.symm)) (hp T wX u Mh hv) h
   ·rw[hc] at hl
    obtain⟨q1,q2⟩:=h1 l hl;refine⟨q1,?_⟩;rw[q2 c v] at hx;exact(Fe hE.Rx (fun s hs=>(Kg ⟨hs.1.symm,hs.2.1,hs.2.2.1,hs.2.2.2⟩).symm) (fun av s hs=>(Kg ⟨hs.1.symm,hs.2.1,hs.2.2.1,hs.2.2.2⟩).symm)).symm.trans hx
end
end Go.Fx
namespace Go.Fx
@[reducible] def DL:List Ty→Type
 |[]=>Unit
 |t::r=>t.nw×DL r
def uV:List ab→St→Option St
 |[],st=>some st
 |v::r,st=>(match v.qn st with|some st'=>uV r st' | none=>none)
def Qf(st:St):(ts:List Ty)→List ab→Option (DL ts)
 |[],[]=>some ()
 |t::ts,v::vs=>(match v.wh st t with|some x=>(match Qf st ts vs with|some r=>some (x,r)|none=>none)|none=>none)
 |_,_=>none
def Tg:(ts:List Ty)→Nat→DL ts→List (Nat×ab)
 |[],_,_=>[]
 |t::r,i,d=>(i,.one (.eV t d.1))::Tg r (i+1) d.2
def stD(n:Nat)(ts:List Ty)(d:DL ts):St:=⟨n,Tg ts 0 d,[],[],[],[],[],[],[]⟩
def L5(E:sb)(st:St):List ResultVar→Option (List ab)
 |[]=>some []
 |.tmp t::r=>(match L5 E st r with|some l=>some (st.uH t::l)|none=>none)
 |.cell t T::r=>(match st.uH t with
  |.one (.np o off)=>(match yM E T (.one (.np o off)) st (fun v _=>some v),L5 E st r with|some v,some l=>some (v::l)|_,_=>none)
  |_=>none)
def PI(E:sb)(rv:List ResultVar)(rs:List Ty)(st:St):Option (DL rs):=
 match L5 E st rv with
 |some vs=>(match uV vs st with|some st'=>Qf st' rs vs|none=>none)
 |none=>none
def acd:(rs:List Ty)→DL rs→List (Bool×List ag)
 |[],_=>[]
 |t::r,d=>(t.agg,jO t d.1)::acd r d.2
def T9(rs:List Ty)(d:DL rs):ab:=
 match rs,d with
 |[t],d=>.one (.eV t d.1)
 |rs,d=>.Lg (acd rs d)
def BB(ts rs:List Ty){W:Type}(F:DL ts→Option W)(dec:W→DL rs):iX where
 run _ args st K _:=(match uV args st with
  |some st'=>(match Qf st' ts args with
   |some d=>(F d).bind fun r=>K (T9 rs (dec r)) (bif rs.all Ty.yK then st else st')
   |none=>none)
  |none=>none)
 LH args _:=bif rs.all Ty.yK then [] else nr args
theorem Lc:∀{vs:List ab} {st st':St},uV vs st=some st'→qA (nr vs) st st'
 |[],st,st',h=>by cases h;exact .refl _ _
 |v::r,st,st',h=>by
  simp only[uV] at h;split at h
  ·rename_i s1 h1;exact((uL h1).mono fun q hq=>axa _ hq).trans ((Lc h).mono fun q hq=>aoa _ hq)
  ·cases h
theorem Sn:∀{vs:List ab} {st st':St},uV vs st=some st'→ke st st'
 |[],st,st',h=>by cases h;exact .refl _
 |v::r,st,st',h=>by
  simp only[uV] at h;split at h
  ·rename_i s1 h1;exact(Ld h1).trans (Sn h)
  ·cases h
theorem xu(ts rs:List Ty){W:Type}(F:DL ts→Option W)(dec:W→DL rs):m6 (BB ts rs F dec):=by
 intro R dst args st K K' KP KP' hK hP;simp only[BB] at hK ⊢;split
 ·rename_i st' hs
  split
  ·refine dR fun r=>hK _ _ ?_
   cases rs.all Ty.yK with
   |true=>exact .refl _ _
   |false=>exact Lc hs
  ·rfl
 ·rfl
theorem BC(ts rs:List Ty){W:Type}(F:DL ts→Option W)(dec:W→DL rs):oS (BB ts rs F dec):=by
 intro R dst args st K KP;simp only[BB]
 repeat' (first|rfl|apply fF|intro _|split)
theorem yV{X:mz}{w:World}:∀{vs:List ab} {st st':St} {G:Gh},uV vs st=some st'→ay X st G w→∃ G',ay X st' G' w∧G.ME G'∧qS st st'
 |[],st,st',G,h,hm=>by cases h;exact⟨G,hm,.refl G,.refl _⟩
 |v::r,st,st',G,h,hm=>by
  simp only[uV] at h;split at h
  ·rename_i s1 h1
   obtain⟨G1,m1,a1,k1⟩:=Fh h1 hm;obtain⟨G2,m2,a2,k2⟩:=yV h m1;exact⟨G2,m2,a1.trans a2,k1.trans k2⟩
  ·cases h
def zW(G:Gh):(ts:List Ty)→DL ts→List Value→Prop
 |[],_,[]=>True
 |t::r,d,v::vs=>aT G (.eV t d.1) v∧zW G r d.2 vs
 |_,_,_=>False
theorem DZ{X:mz}{st:St}{G:Gh}{w:World}(hm:ay X st G w):∀{ts:List Ty} {avs:List ab} {d:DL ts} {vs:List Value},Qf st ts avs=some d→All2 (aP G) avs vs→zW G ts d vs
 |[],[],d,[],_,_=>trivial
 |t::ts,a::avs,d,v::vs,h,hr=>by
  simp only[Qf] at h;split at h
  ·rename_i x hx
   split at h
   ·rename_i r hr'
    simp only[OF] at h;subst h;exact⟨DG hm hx hr.1,DZ hm hr' hr.2⟩
   ·cases h
  ·cases h
 |[],[],d,_::_,_,hr=>hr.elim
 |[],_::_,d,_,h,_=>by cases h
 |_::_,[],d,_,h,_=>by cases h
 |_::_,_::_,d,[],_,hr=>hr.elim
theorem zW.et{G:Gh}{n:Nat}:∀{ts:List Ty} {d:DL ts} {vs:List Value} (pre:List Value),zW G ts d vs→∀ i v,look (Tg ts pre.length d) i=some v→aP G v ((pre++vs).getD i undef)
 |[],d,[],pre,_,i,v,h=>by cases h
 |t::r,d,u::vs,pre,hd,i,v,h=>by
  simp only[Tg,au] at h;by_cases e:pre.length=i
  ·simp only[e,aua,OF] at h
   subst h;subst e;have:(pre++u::vs).getD pre.length undef=u:=by simp[a6a]
   rw[this];exact hd.1
  ·simp only[e,aca] at h
   have:=zW.et (n:=n) (pre++[u]) hd.2 i v (by simpa using h)
   simpa using this
 |[],d,_::_,_,h,_,_,_=>h.elim
 |_::_,d,[],_,h,_,_,_=>h.elim
theorem zW.length{G:Gh}:∀{ts:List Ty} {d:DL ts} {vs:List Value},zW G ts d vs→vs.length=ts.length
 |[],d,[],_=>rfl
 |t::r,d,u::vs,hd=>by simp[zW.length hd.2]
 |[],d,_::_,h=>h.elim
 |_::_,d,[],h=>h.elim
def S9(S:DB)(w:World):mz:=⟨S,fun _=>False,w,fun _=>none,(fun _ _ h=>(by cases h)),fun _ _=>none,(fun _ _ _ h=>(by cases h)),fun _=>none,[]⟩
def ghD(S:DB):Gh:=⟨S,fun _=>0,fun _=>[],fun _=>[],fun _=>.slice none 0 0,fun _=>[],fun _=>0,fun _ _=>[],[]⟩
theorem VK{S:DB}{w:World}(hS:∀ b o,S b=some o→w.heap[b]? = some o)(n:Nat)(ts:List Ty)(d:DL ts):ay (S9 S w) (stD n ts d) (ghD S) w:=by
 have no:∀ x b,¬ eR (ghD S) (stD n ts d) x b:=fun x b hx=>by
  obtain⟨k,m⟩:=x;cases k with
  |false=>obtain⟨⟨ls,h⟩,_⟩:=hx;cases h
  |true=>obtain⟨⟨A,h,_⟩,_⟩:=hx;cases h
 refine {sl:=fun _=>.inl ⟨_,_,_,rfl⟩,sh:=hS,ob:=fun o ls h=>(by cases h),ar:=fun a A h=>(by cases h),ah:=fun a A h=>(by cases h),nd:=fun a A h=>(by cases h),pX:=fun x y b h=>(no x b h).elim,dS:=fun x b h=>(no x b h).elim,sZ:=fun x b h=>(no x b h).elim,s0:=fun b o h=>h,sn:=fun b o h=>.inl h,fr:=fun b _ _=>rfl,sz:=ava _,os:=rfl,tp:=rfl,out:=rfl,pin:=fun o p h=>(by cases h),bv:=fun o j u h=>(by cases h),ap:=fun a u h=>(by cases h),hv:=fun _=>rfl,ds:=rfl,hh:=fun a A h=>(by cases h)}
theorem ay.aeJ{X:mz}{st:St}{G:Gh}{w w':World}(hm:ay X st G w){t:St}{G3:Gh}(h3:ay (S9 G.S w) t G3 w'):ay X st {G with S:=G3.S} w'∧G.ME {G with S:=G3.S}:=by
 have hS:∀ b o,G.S b=some o→G3.S b=some o:=h3.s0;have p9:G.ME {G with S:=G3.S}:=⟨hS,rfl,rfl,rfl,rfl,rfl,rfl,rfl,rfl⟩
 have sU:∀ b,b<w.heap.size→w'.heap[b]? = w.heap[b]?:=fun b hb=>h3.fr b hb (fun h=>h);have pd:∀ x b,eR {G with S:=G3.S} st x b→eR G st x b:=fun x b hx=>by obtain⟨k,m⟩:=x;cases k<;>exact hx
 refine⟨{sl:=hm.sl,sh:=h3.sh,ob:=fun o ls h=>?_,ar:=fun a A h=>?_,ah:=fun a A h hs p hp=>?_,nd:=hm.nd,pX:=fun x y b hx hy=>hm.pX x y b (pd x b hx) (pd y b hy),dS:=fun x b hx=>?_,sZ:=fun x b hx=>hm.sZ x b (pd x b hx),s0:=fun b o h=>hS b o (hm.s0 b o h),sn:=fun b o h=>?_,fr:=fun b h1 h2=>?_,sz:=bFa hm.sz h3.sz,os:=h3.os.trans hm.os,tp:=h3.tp.trans hm.tp,out:=h3.out.trans hm.out,pin:=hm.pin,bv:=fun o j u h=>(by obtain⟨h1,⟨l,h2,h5⟩,xP,qO,h4,h6⟩:=hm.bv o j u h;exact⟨h1,⟨l,h2,h5⟩,xP,qO,by rw[sU _ (eR.lt hm (x:=(false,o)) ⟨⟨l,h2⟩,rfl⟩)];exact h4,h6⟩),ap:=hm.ap,hv:=hm.hv,ds:=hm.ds,hh:=hm.hh},p9⟩
 ·obtain⟨arr,elem,mid,g1,g2,g3⟩:=hm.ob o ls h
  exact⟨arr,elem,mid,by rw[sU _ (eR.lt hm (x:=(false,o)) ⟨⟨ls,h⟩,rfl⟩)];exact g1,g2,HS p9 g3⟩
 ·exact(hm.ar a A h).mono (G:=G) (a:=a) (G':={G with S:=G3.S}) (a':=a) hS rfl rfl (fun _ _ _=>⟨rfl,rfl,rfl⟩)
 ·rw[sU p.1 (eR.lt hm (x:=(true,a)) ⟨⟨A,h,hs⟩,p,hp,rfl⟩)];exact hm.ah a A h hs p hp
 ·have E4:=pd x b hx
  have bq:=eR.lt hm E4;cases hc:G3.S b with
  |none=>rfl
  |some o=>
   rcases h3.sn b o hc with h|h|h
   ·have:=hm.dS x b E4;rw[show G.S b=some o from h] at this;cases this
   ·exact h.elim
   ·have h:w.heap.size≤b:=h;omega
 ·rcases h3.sn b o h with h|h|h
  ·exact hm.sn b o h
  ·exact h.elim
  ·have:=hm.sz;have h:w.heap.size≤b:=h;exact .inr (.inr (by omega))
 ·rw[sU b (by have:=hm.sz;omega)];exact hm.fr b h1 h2
def HG:List Value→Value
 |[v]=>v
 |vs=>.tuple vs.toArray
theorem Y0{G G':Gh}(hS:G'.S=G.S):∀{ts:List Ty} {d:DL ts} {vs:List Value},zW G ts d vs→zW G' ts d vs
 |[],d,[],_=>trivial
 |t::r,d,v::vs,h=>by obtain⟨cs,e1,e2⟩:=h.1;exact⟨⟨cs,e1,by rw[hS];exact e2⟩,Y0 hS h.2⟩
 |[],d,_::_,h=>h.elim
 |_::_,d,[],h=>h.elim
theorem P4{G G':Gh}:∀{ts:List Ty} {d:DL ts} {vs:List Value},ts.all Ty.yK=true→zW G ts d vs→zW G' ts d vs
 |[],d,[],_,_=>trivial
 |t::r,d,v::vs,hn,h=>by simp only[bma,Q4] at hn;obtain⟨cs,e1,e2⟩:=h.1;exact⟨⟨cs,e1,vF hn.1 e2⟩,P4 hn.2 h.2⟩
 |[],d,_::_,_,h=>h.elim
 |_::_,d,[],_,h=>h.elim
theorem Cc{P:Program}{E:sb}(hE:iq P E.ia){X:mz}{st:St}{G:Gh}{w:World}{act:Act}(hm:ay X st G w)(hr:bM G st act):∀{rv:List ResultVar} {avs:List ab},L5 E st rv=some avs→
  ∃ uP:List Value,(rv.mapM fun(x:ResultVar)=>(match x with
   |.tmp t=>pure (act.tmps.getD t undef)
   |.cell a t=>do loadVar t (←asAddr (act.tmps.getD a undef)):Sem Value)).run P w=.ok uP w∧All2 (aP G) avs uP
 |[],avs,h=>by cases h;exact⟨[],rfl,trivial⟩
 |.tmp t::r,avs,h=>by
  simp only[L5] at h;split at h
  ·rename_i l hl
   cases h;obtain⟨uP,h1,h2⟩:=Cc hE hm hr hl;refine⟨act.tmps.getD t undef::uP,?_,?_,h2⟩
   ·rw[List.mapM_cons,aKa]
    simp only[a8a,aDa];rw[aKa,h1];rfl
   ·unfold St.uH
    cases hs:st.ib t with
    |none=>trivial
    |some sv=>exact hr.2.2 t sv hs
  ·cases h
 |.cell t T::r,avs,h=>by
  simp only[L5] at h;split at h
  ·rename_i o off wM
   split at h
   ·rename_i v l hv hl
    simp only[OF] at h;subst h;obtain⟨uP,h1,h2⟩:=Cc hE hm hr hl;have hp:aP G (.one (.np o off)) (act.tmps.getD t undef):=by
     rw[←wM];unfold St.uH;cases hs:st.ib t with
     |none=>rw[St.uH,hs] at wM;cases wM
     |some sv=>exact hr.2.2 t sv hs
    obtain⟨av,u,h3,h4,h5⟩:=KC hE hv hm hp;cases h5;have hq:∃ a,act.tmps.getD t undef=.pointer (some a):=⟨_,hp⟩;obtain⟨a,ha⟩:=hq;rw[ha] at h3;refine⟨u::uP,?_,h4,h2⟩;have h3':(do loadVar T (←asAddr (act.tmps.getD t undef)):Sem Value).run P w=.ok u w:=by rw[ha];have:=h3;simpa[Instr.loadAt,Instr.sureAddr,asAddr] using this
    rw[List.mapM_cons,aKa];dsimp only;rw[h3'];simp only[aDa];rw[aKa,h1];rfl
   ·cases h
  ·cases h
theorem K9{P:Program}{E:sb}(hE:iq P E.ia){X:mz}{st:St}{G:Gh}{w:World}{act:Act}{fn:Func}{avs:List ab}(hm:ay X st G w)(hr:bM G st act)(h:L5 E st fn.results.toList=some avs):
  ∃ uP:List Value,(results fn act.tmps).run P w=.ok (HG uP) w∧All2 (aP G) avs uP:=by
 obtain⟨uP,h1,h2⟩:=Cc hE hm hr h;refine⟨uP,?_,h2⟩;obtain⟨g,g1,g2⟩:∃ g:ResultVar→Sem Value,results fn act.tmps=(do let vs ←fn.results.mapM g;pure (if h:vs.size=1 then vs[0] else .tuple vs))∧g=fun(x:ResultVar)=>(match x with
   |.tmp t=>pure (act.tmps.getD t undef)
   |.cell a t=>do loadVar t (←asAddr (act.tmps.getD a undef)):Sem Value):=⟨_,rfl,by funext x;cases x<;>rfl⟩
 rw[g1,Array.mapM_eq_mapM_toList,g2,aKa,Sem.run_map,h1];simp only[aDa,a8a]
 congr 1
 match uP with
 |[]=>rfl
 |[v]=>rfl
 |v::u::r=>simp[HG]
theorem Xi{G:Gh}:∀{rs:List Ty} {d:DL rs} {vs:List Value},zW G rs d vs→All2 (fun(p:Bool×List ag) u=>if p.1=true then ∃ cs:List Value,u=.agg cs.toArray∧All2 (aT G) p.2 cs else ∃ l,p.2=[l]∧aT G l u) (acd rs d) vs
 |[],d,[],_=>trivial
 |t::r,d,v::vs,h=>by
  refine⟨?_,Xi h.2⟩;obtain⟨cs,e1,e2⟩:=h.1;cases ha:t.agg with
  |true=>simp only[ha,aua] at e1 ⊢;exact⟨cs,e1,lE e2⟩
  |false=>simp only[ha,asa,aca] at e1 ⊢;cases t<;>simp[Ty.agg] at ha<;>exact⟨_,rfl,_,by simp[Ty.agg,e1],e2⟩
 |[],d,_::_,h=>h.elim
 |_::_,d,[],h=>h.elim
theorem Mq{G:Gh}{rs:List Ty}{x:DL rs}{vs:List Value}(h:zW G rs x vs):aP G (T9 rs x) (HG vs):=by
 cases rs with
 |nil=>
  cases vs with
  |nil=>exact⟨[],rfl,trivial⟩
  |cons _ _=>exact h.elim
 |cons t rs=>
  cases vs with
  |nil=>exact h.elim
  |cons v vs=>
   cases rs with
   |nil=>
    cases vs with
    |nil=>exact h.1
    |cons _ _=>exact h.2.elim
   |cons t2 rs=>
    cases vs with
    |nil=>exact h.2.elim
    |cons v2 vs=>exact⟨v::v2::vs,rfl,Xi h⟩
section
variable {P:Program} {E:sb} (hE:F1 P E)
include hE
omit hE in
theorem ay.adv{X:mz}{st:St}{G:Gh}{w w':World}(hm:ay X st G w)(sU:∀ b,b<w.heap.size→w'.heap[b]? = w.heap[b]?)(mF:w.heap.size≤w'.heap.size)(hos:w'.os=w.os)(htp:w'.tape=w.tape)(xY:w'.output=w.output):ay X st G w':=by
 have old:∀{b:Nat} {o:Obj},w.heap[b]? = some o→w'.heap[b]? = some o:=fun {b o} h=>by rw[sU b (fQ h)];exact h
 exact {
  sl:=hm.sl,sh:=fun b o h=>old (hm.sh b o h),ob:=fun o ls h=>(by obtain⟨arr,elem,mid,g1,g2,g3⟩:=hm.ob o ls h;exact⟨arr,elem,mid,old g1,g2,g3⟩),ar:=hm.ar,ah:=fun a A h hs p hp=>old (hm.ah a A h hs p hp),nd:=hm.nd,pX:=hm.pX,dS:=hm.dS,sZ:=hm.sZ,s0:=hm.s0,sn:=hm.sn,fr:=fun b h1 h2=>(by rw[sU b (by have:=hm.sz;omega)];exact hm.fr b h1 h2),sz:=bFa hm.sz mF,os:=hos.trans hm.os,tp:=htp.trans hm.tp,out:=xY.trans hm.out,pin:=hm.pin
  bv:=fun o j u h=>(by obtain⟨h1,h2,xP,qO,h4,h5⟩:=hm.bv o j u h;exact⟨h1,h2,xP,qO,old h4,h5⟩),ap:=hm.ap,hv:=hm.hv,ds:=hm.ds,hh:=hm.hh}
omit hE in
theorem Ni{G1:Gh}{ts:List Ty}{d:DL ts}{vs:List Value}{n:Nat}(hdr:zW G1 ts d vs)(hn:ts.length≤n):bM (ghD G1.S) (stD n ts d) {tmps:=vs.toArray++Array.replicate (n - vs.toArray.size) undef,defers:=[]}:=by
 have hl:=hdr.length;refine⟨rfl,by simp[stD];omega,fun i v hv=>?_⟩
 have agu:zW (ghD G1.S) ts d vs:=by
  have key:∀{ts:List Ty} {d:DL ts} {vs:List Value},zW G1 ts d vs→zW (ghD G1.S) ts d vs:=by
   intro ts;induction ts with
   |nil=>intro d vs h;cases vs<;>exact h
   |cons t r ih=>intro d vs h;cases vs with
    |nil=>exact h
    |cons v vs=>exact⟨h.1,ih h.2⟩
  exact key hdr
 have h1:(stD n ts d).ib i=look (Tg ts 0 d) i:=by simp only[St.ib,stD];cases look (Tg ts 0 d) i<;>rfl
 rw[h1] at hv;have h2:=zW.et (n:=0) [] agu i v hv;simp only[aQa] at h2;have hi:i<vs.length:=by
  rw[hl];have:∀{ts:List Ty} {d:DL ts} {k i:Nat} {v:ab},look (Tg ts k d) i=some v→i<k+ts.length:=by
   intro ts;induction ts with
   |nil=>intro d k i v h;cases h
   |cons t r ih=>
    intro d k i v h;simp only[Tg,au] at h;by_cases e:k=i
    ·subst e;simp
    ·simp only[e,aca] at h
     have:=ih h;simp only[ara];omega
  have:=this hv;omega
 rw[aAa,Array.getElem?_append_left (by simpa using hi)]
 simpa[a6a] using h2
theorem Um{X:mz}{st wb:St}{G G1:Gh}{w w':World}(hm:ay X st G w)(m1:ay X wb G1 w)(a1:G.ME G1)(k1:qS st wb){rs:List Ty}{x:DL rs}{fn:Func}{s:St}{G3:Gh}{act:Act}{R:Type}{r:R}{K:ab→St→Option R}
  (hr:K (T9 rs x) (bif rs.all Ty.yK then st else wb)=some r) (m3:ay (S9 G1.S w) s G3 w') (r3:bM G3 s act) (Kl:PI E fn.results.toList rs s=some x):
  ∃ v,(results fn act.tmps).run P w' = .ok v w'∧∃ av st' G',ay X st' G' w'∧(∀ act,bM G st act→bM G' st' act)∧aP G' av v∧K av st' = some r:=by
 unfold PI at Kl;split at Kl
 ·rename_i avs hav
  split at Kl
  ·rename_i s' B6
   obtain⟨vs',it,h2⟩:=K9 hE.ia m3 r3 hav;obtain⟨G4,m4,a4,k4⟩:=yV B6 m3;have ae6:=DZ m4 Kl (h2.imp fun a v h=>h.sub a4);cases Mk:rs.all Ty.yK with
   |true=>rw[Mk] at hr;exact⟨_,it,T9 rs x,st,G,hm.adv (fun b hb=>m4.fr b hb (fun h=>h)) m4.sz m4.os m4.tp m4.out,fun act ra=>ra,Mq (P4 Mk ae6),hr⟩
   |false=>rw[Mk] at hr;obtain⟨mc,ag9⟩:=m1.aeJ m4;exact⟨_,it,T9 rs x,wb,_,mc,fun act ra=>(Bg k1 a1 ra).sub ag9 rfl (fun _=>rfl),Mq (Y0 (G:=G4) (G':={G1 with S:=G4.S}) rfl ae6),hr⟩
  ·cases Kl
 ·cases Kl
theorem abj{f:FuncId}{fn:Func}{c:Code}{ts rs:List Ty}{W:Type}{F:DL ts→Option W}(pack:DL rs→W){dec:W→DL rs}(U8:∀ r,dec (pack r)=r)(hf:P.funcs[f]? = some fn)(hb:fn.body=some c)(A8:∀ args w,(callFunc f args).run P w=.ok (.enter f args) w)(hL:rV P E c)
  (hn:ts.length≤fn.ntmps)
  (h:∀ d,F d=sm E c (stD fn.ntmps ts d) (fun e s=>match e with | .normal=>(PI E fn.results.toList rs s).map pack | .ret=>(PI E fn.results.toList rs s).map pack|_=>none) (fun _ _=>none)):AR P E.gt f (BB ts rs F dec):=by
 intro R r X st G w dst args vs K KP hr zd hm _ ha;simp only[BB] at hr;split at hr
 ·rename_i wb hs
  split at hr
  ·rename_i d hd
   obtain⟨y,hx,hr⟩:=awa.1 hr;obtain⟨G1,m1,a1,k1⟩:=yV hs hm;have BI:nv E.gt (S9 G1.S w).S0:=zd.mono m1.s0;have hdr:=DZ m1 hd (ha.imp fun a v h=>h.sub a1);refine⟨A8 _ _,calls_of_wp hf hb ?_⟩;have Bb:∀ s G3 w' act,ay (S9 G1.S w) s G3 w'→bM G3 s act→(PI E fn.results.toList rs s).map pack=some y→act.defers=[]∧∃ v,(results fn act.tmps).run P w' = .ok v w'∧
     ∃ av st' G',ay X st' G' w'∧(∀ act,bM G st act→bM G' st' act)∧aP G' av v∧K av st' = some r:=fun s G3 w' act m3 r3 Kl=>by
    refine⟨r3.1.trans m3.ds,?_⟩;obtain⟨x,afr,hy⟩:=aIa.1 Kl;rw[←hy,U8] at hr;exact Um hE hm m1 a1 k1 hr m3 r3 afr
   rw[h] at hx;refine zQ hE BI c hL hx (VK m1.sh _ _ _) (Ni hdr hn) (fun e s G3 w' act m3 r3 hk=>?_) (fun av v s G3 w' act m3 r3 hv hk=>by cases hk)
   cases e with
   |normal=>exact Bb s G3 w' act m3 r3 hk
   |ret=>exact Bb s G3 w' act m3 r3 hk
   |_=>cases hk
  ·cases hr
 ·cases hr
end
end Go.Fx
namespace Go.Fx
noncomputable def wi(t:St)(G:Gh)(w:World):mz where
 S0:=G.S
 Ya:=fun b=>∃ x,eR G t x b
 w0:=w
 pin:=fun o=>if o<10000 then(match t.dL o with|some _=>some (G.φ o,G.pre o,G.post o)|none=>none) else none
 pl:=fun o p h=>by
  by_cases bq:o<10000
  ·exact bq
  ·simp[bq] at h
 bv:=fun o j=>if o<10000 then(match t.dL o,dV t.cD o j with
  |some ls,some _=>(match ls[j]?,w.heap[G.φ o]? with
   |some .ur,some (.cells arr elem fz)=>arr.toList[(G.pre o).length+j]?
   |_,_=>none)
  |_,_=>none) else none
 bl:=fun o j u h=>by
  by_cases bq:o<10000
  ·exact bq
  ·simp[bq] at h
 aa5:=fun a=>if eU a t.pin=true then(match t.arr a with|some _=>some (G.ψ a)|none=>none) else none
theorem Gh.Qo{G:Gh}{ds:List Deferred}{l:ag}{v:Value}(r:aT G l v):aT {G with ds:=ds} l v:=by cases l<;>exact r
theorem Gh.aeu{G:Gh}{ds:List Deferred}{a:ab}{v:Value}(r:aP G a v):aP {G with ds:=ds} a v:=by
 cases a with
 |one l=>exact Qo r
 |agg ls=>obtain⟨cs,e,hr⟩:=r;exact⟨cs,e,hr.imp fun _ _=>Qo⟩
 |Lg vs=>
  obtain⟨us,e,hr⟩:=r;refine⟨us,e,hr.imp fun p u NG=>?_⟩;split at NG
  ·rename_i hc;simp only[hc,aua];obtain⟨cs,e,hr⟩:=NG;exact⟨cs,e,hr.imp fun _ _=>Qo⟩
  ·rename_i hc
   obtain⟨l,e,hr⟩:=NG;simp only[hc,aca];exact⟨l,e,Qo hr⟩
 |Ak t ls=>obtain⟨u,cs,e1,e2,hr⟩:=r;exact⟨u,cs,e1,e2,hr.imp fun _ _=>Qo⟩
theorem ay.aay{X:mz}{t:St}{G:Gh}{w:World}(hm:ay X t G w)(ds:List Deferred)(p:Nat→Option (Nat×List Value×List Value))(pl:∀ o q,p o=some q→o<10000)
  (hp:∀ o q,p o=some q→(∃ ls,t.dL o=some ls)∧q=(G.φ o,G.pre o,G.post o)):ay {X with ds:=ds,pin:=p,pl:=pl} t {G with ds:=ds} w:=
 {
  sl:=hm.sl,sh:=hm.sh,ob:=fun o ls h=>(by obtain⟨a,e,m,h1,h2,h3⟩:=hm.ob o ls h;exact⟨a,e,m,h1,h2,h3.imp fun _ _=>Gh.Qo⟩),ar:=hm.ar,ah:=hm.ah,nd:=hm.nd,pX:=fun x y b h1 h2=>hm.pX x y b (by cases x with|mk k o=>cases k<;>exact h1) (by cases y with|mk k o=>cases k<;>exact h2)
  dS:=fun x b h=>hm.dS x b (by cases x with|mk k o=>cases k<;>exact h),sZ:=fun x b h=>hm.sZ x b (by cases x with|mk k o=>cases k<;>exact h),s0:=hm.s0,sn:=hm.sn,fr:=hm.fr,sz:=hm.sz,os:=hm.os,tp:=hm.tp,out:=hm.out,pin:=hp,bv:=hm.bv,ap:=hm.ap,hv:=hm.hv,ds:=rfl,hh:=hm.hh}
theorem ay.ds0{X:mz}{t:St}{G:Gh}{w:World}(hm:ay X t G w):ay {X with ds:=[]} t {G with ds:=[]} w:=
 hm.aay [] X.pin X.pl hm.pin
theorem ay.enter{X:mz}{t:St}{G:Gh}{w:World}(hm:ay X t G w):ay (wi t G w) t {G with ds:=[]} w:=by
 replace hm:=hm.ds0
 refine {sl:=hm.sl,sh:=hm.sh,ob:=hm.ob,ar:=hm.ar,ah:=hm.ah,nd:=hm.nd,pX:=hm.pX,dS:=hm.dS,sZ:=fun x b h=>.inl ⟨x,by cases x with|mk k o=>cases k<;>exact h⟩,s0:=fun b o h=>h,sn:=fun b o h=>.inl h,fr:=fun b _ _=>rfl,sz:=ava _,os:=rfl,tp:=rfl,out:=rfl,pin:=fun o p h=>?_,bv:=fun o j u h=>?_,ap:=fun a u h=>?_,hv:=hm.hv,ds:=hm.ds,hh:=hm.hh}
 ·simp only[wi] at h
  split at h
  ·split at h
   ·rename_i ls ho
    simp only[OF] at h;exact⟨⟨ls,ho⟩,h.symm⟩
   ·cases h
  ·cases h
 ·simp only[wi] at h
  split at h
  ·split at h
   ·rename_i ls lf ho hl
    split at h
    ·rename_i arr elem fz hj hh
     obtain⟨xP,qO,mid,g1,g2,g3⟩:=hm.ob o ls ho;rw[g1] at hh;cases hh;exact⟨⟨lf,hl⟩,⟨ls,ho,hj⟩,_,_,g1,h⟩
    ·cases h
   ·cases h
  ·cases h
 ·simp only[wi] at h
  split at h
  ·rename_i hp
   split at h
   ·rename_i A hA;simp only[OF] at h;exact⟨hp,⟨A,hA⟩,h⟩
   ·cases h
  ·cases h
theorem Vc{t:St}{G:Gh}{w:World}{a:Nat}{A:jG}(hp:eU a t.pin=true)(ha:t.arr a=some A):(wi t G w).aa5 a=some (G.ψ a):=by simp[wi,hp,ha]
theorem Qk{t:St}{G:Gh}{w:World}{o:Nat}{ls:List ag}(bq:o<10000)(ho:t.dL o=some ls):(wi t G w).pin o=some (G.φ o,G.pre o,G.post o):=by simp[wi,bq,ho]
theorem NO{X:mz}{t:St}{G:Gh}{w:World}(hm:ay X t G w){o j:Nat}{ls:List ag}{lf:ag}(bq:o<10000)(ho:t.dL o=some ls)(hl:dV t.cD o j=some lf)(hj:ls[j]? = some .ur):
  ∃ arr elem u,w.heap[G.φ o]? = some (.cells arr elem (0,0))∧arr.toList[(G.pre o).length+j]? = some u∧(wi t G w).bv o j=some u:=by
 obtain⟨arr,elem,mid,g1,g2,g3⟩:=hm.ob o ls ho;have hml:mid.length=ls.length:=by have:=All2.length g3;rw[iJ] at this;exact this.symm
 have hjl:j<ls.length:=(aja.1 hj).1;have:(G.pre o).length+j<arr.toList.length:=by rw[g2];simp;omega
 refine⟨arr,elem,arr.toList[(G.pre o).length+j],g1,bga this,?_⟩;simp only[wi,bq,aua,ho,hl,hj,g1];exact bga this
end Go.Fx
namespace Go.Fx
def Gh.iy(G G3:Gh)(told:Nat→Option (Option Nat))(li oC:Nat→Option Nat):Gh:={G with
 S:=G3.S
 φ:=fun o=>match oC o with|some k=>G3.φ k|none=>G.φ o
 pre:=fun o=>match oC o with|some k=>G3.pre k|none=>G.pre o
 post:=fun o=>match oC o with|some k=>G3.post k|none=>G.post o
 ψ:=fun a=>match told a with|some (some k)=>G3.ψ k|some none=>.slice none 0 0|none=>G.ψ a
 HA:=fun a=>match told a with|some (some k)=>G3.HA k|some none=>[]|none=>match li a with|some k=>G3.HA k|none=>G.HA a
 vn:=fun a=>match li a with|some _=>G.vn a+1|none=>G.vn a
 HV:=fun a v=>match told a with|some (some k)=>kp (G3.HA k)|some none=>[]|none=>match li a with|some k=>if v≤G.vn a then G.HV a v else kp (G3.HA k)|none=>G.HV a v}
structure Ij(st t s st':St)(al:AL)(told:Nat→Option (Option Nat))(li oC:Nat→Option Nat):Prop where
 n:st'.n=st.n
 vr:∀ a,st'.dA a=(match li a with|some _=>st.dA a+1|none=>st.dA a)
 ib:∀ i,st'.ib i=st.ib i
 bl:st'.cD=st.cD
 acb:∀ q tl,t.dL q=some tl→q<10000∧(∃ ls,st.dL q=some ls)∧∃ sl,s.dL q=some sl
 dL:∀ q wX,st'.dL q=some wX→(t.dL q=none∧st.dL q=some wX)∨
  (∃ ls tl sl,st.dL q=some ls∧t.dL q=some tl∧s.dL q=some sl∧tl.length=ls.length∧sl.length=ls.length∧wX.length=ls.length∧∀(j:Nat) (l' l a:ag),wX[j]? = some l'→ls[j]? = some l→sl[j]? = some a→
   (st'.res q j l' = st.res q j l∧tl[j]? = some .ur∧∃ lf,dV t.cD q j=some lf)∨∀(G G3:Gh) (u:Value),(∃ X w',ay X s G3 w')→(∀ q tl,t.dL q=some tl→G3.φ q=G.φ q∧G3.pre q=G.pre q)→aT G3 (s.res q j a) u→aT (G.iy G3 told li oC) (st'.res q j l') u)∨
  (∃ k sl,oC q=some k∧s.dL k=some sl∧wX.length=sl.length∧∀(j:Nat) (l' a:ag),wX[j]? = some l'→sl[j]? = some a→∀(G G3:Gh) (u:Value),(∃ X w',ay X s G3 w')→(∀ q tl,t.dL q=some tl→G3.φ q=G.φ q∧G3.pre q=G.pre q)→aT G3 (s.res k j a) u→aT (G.iy G3 told li oC) (st'.res q j l') u)
 Ep:∀ q k,oC q=some k→st.dL q=none∧st.cZ false q=false∧t.dL k=none
 afG:∀ q q' k,oC q=some k→oC q' = some k→q=q'
 Wx:∀ q ls,st.dL q=some ls→∃ wX,st'.dL q=some wX
 ur:∀ q j ls lf,st.dL q=some ls→ls[j]? = some .ur→dV st.cD q j=some lf→∃ wX,st'.dL q=some wX∧wX[j]? = some .ur∧(t.dL q=none∨∃ tl lf',t.dL q=some tl∧tl[j]? = some .ur∧dV t.cD q j=some lf')
 arr:∀ a A,st'.arr a=some A→(∃ k,told a=some (some k)∧s.arr k=some A∧A.sh=false∧∀ i o,A.md≠.Dp i o)∨
  (told a=some none∧A.l=[]∧A.sh=false∧A.pd=true)∨
  (∃ k,told a=none∧li a=some k∧True∧s.arr k=some A∧A.sh=false∧∀ i o,A.md≠.Dp i o)∨
  (told a=none∧li a=none∧st.arr a=some A∧(A.sh=true∨∀ nm B,look al nm≠some (some a,B)))
 ti:∀ a a' k,told a=some (some k)→told a' = some (some k)→a=a'
 ki:∀ a a' k,li a=some k→li a' = some k→a=a'
 tk:∀ a a' k,told a=some (some k)→li a'≠some k
 F8:∀ a k,told a=some k→st.cZ true a=false
 pn:st'.pin=st.pin
 ap:∀ a A,eU a st.pin=true→st.arr a=some A→told a=none∧∃ B,st'.arr a=some B
theorem rH(st:St)(o:Nat):∀(ls:List ag) (i j:Nat),(st.jV o i ls)[j]? = (ls[j]?).map (st.res o (i+j))
 |[],i,j=>by simp[St.jV]
 |l::r,i,0=>by simp[St.jV]
 |l::r,i,j+1=>by simp only[St.jV,bpa];rw[rH st o r (i+1) j,show i+1+j=i+(j+1) by omega]
theorem All2.Vs{α β:Type}{R:α→β→Prop}:∀{xs:List α} {ys:List β},xs.length=ys.length→(∀(j:Nat) (x:α) (y:β),xs[j]? = some x→ys[j]? = some y→R x y)→All2 R xs ys
 |[],[],_,_=>trivial
 |x::xs,y::ys,h,f=>⟨f 0 x y rfl rfl,All2.Vs (by simpa using h) (fun j x y hx hy=>f (j+1) x y (by simpa using hx) (by simpa using hy))⟩
 |[],_::_,h,_=>by simp at h
 |_::_,[],h,_=>by simp at h
theorem RY{arr:Array Value}{pre mid post:List Value}(h:arr.toList=pre++(mid++post)){j:Nat}(hj:j<mid.length):arr.toList[pre.length+j]? = mid[j]?:=by rw[h,aPa (by omega),bca,aRa hj]
section
variable {st t s st':St} {al:AL} {told:Nat→Option (Option Nat)} {li oC:Nat→Option Nat} {X:mz} {G G3:Gh} {w w':World}
theorem Ij.le(hM:Ij st t s st' al told li oC)(hS:∀ b o,G.S b=some o→G3.S b=some o){l:ag}{v:Value}(hm:∀ a k,told a=some k→l.cZ true a=false)(hn:∀ q k,oC q=some k→l.cZ false q=false)(r:aT G l v):aT (G.iy G3 told li oC) l v:=by
 cases l with
 |any=>trivial
 |ur=>trivial
 |uZ=>exact r
 |eV t d=>obtain⟨cs,e,hr⟩:=r;exact⟨cs,e,hr.mono hS⟩
 |nil=>exact r
 |Kz=>exact r
 |mA a=>
  show v=(G.iy G3 told li oC).ψ a;have:told a=none:=by
   cases h:told a with
   |none=>rfl
   |some k=>have:=hm a k h;simp[ag.cZ] at this
  simp only[Gh.iy,this];exact r
 |np o off=>
  have:oC o=none:=by
   cases h:oC o with
   |none=>rfl
   |some k=>have:=hn o k h;simp[ag.cZ] at this
  simp only[aT,Gh.iy,this];exact r
 |DT a sz i off=>
  have:told a=none:=by
   cases h:told a with
   |none=>rfl
   |some k=>have:=hm a k h;simp[ag.cZ] at this
  simp only[aT,Gh.iy,this];exact r
 |PK t d off=>obtain⟨b,arr,elem,fz,pre,cs,post,h1,h2,h3,h4⟩:=r;exact⟨b,arr,elem,fz,pre,cs,post,hS _ _ h1,h2,h3.mono hS,h4⟩
 |fn f=>exact r
 |Fb a vr sz i off=>
  have hn:told a=none:=by
   cases h:told a with
   |none=>rfl
   |some k=>have:=hm a k h;simp[ag.cZ] at this
  exact u9.Au r (by simp only[Gh.iy,hn]) (by simp only[Gh.iy];split<;>omega) (fun v hv=>by simp only[Gh.iy,hn];split<;>simp[hv])
 |nse a vr sz i off sz2 j TU=>
  have hn:told a=none:=by
   cases h:told a with
   |none=>rfl
   |some k=>have:=hm a k h;simp[ag.cZ] at this
  obtain⟨b2,Ku,LF,h1,h2⟩:=r;exact⟨b2,Ku,LF,u9.Au h1 (by simp only[Gh.iy,hn]) (by simp only[Gh.iy];split<;>omega) (fun v hv=>by simp only[Gh.iy,hn];split<;>simp[hv]),h2⟩
 |L9 a kk n=>
  have hn:told a=none:=by
   cases h:told a with
   |none=>rfl
   |some k=>have:=hm a k h;simp[ag.cZ] at this
  simp only[aT,Gh.iy,hn];exact r
 |ga t l=>obtain⟨b,arr,elem,fz,cs,rest,h1,h2,h3,h4⟩:=r;exact⟨b,arr,elem,fz,cs,rest,hS _ _ h1,h2,h3.El hS,h4⟩
theorem Ij.leV(hM:Ij st t s st' al told li oC)(hS:∀ b o,G.S b=some o→G3.S b=some o){x:ab}{v:Value}(hm:∀ a k,told a=some k→x.cZ true a=false)(hn:∀ q k,oC q=some k→x.cZ false q=false)(r:aP G x v):aP (G.iy G3 told li oC) x v:=by
 have fd:∀{ls:List ag} {vs:List Value},(∀ a k,told a=some k→ls.any (ag.cZ true a)=false)→(∀ a k,oC a=some k→ls.any (ag.cZ false a)=false)→All2 (aT G) ls vs→All2 (aT (G.iy G3 told li oC)) ls vs:=fun {ls vs} h h' hr=>
  hr.uz fun l v hl B5=>hM.le hS (fun a k hk=>by have:=aOa.1 (h a k hk) l hl;simpa using this) (fun a k hk=>by have:=aOa.1 (h' a k hk) l hl;simpa using this) B5
 cases x with
 |one l=>exact hM.le hS hm hn r
 |agg ls=>obtain⟨cs,e,hr⟩:=r;exact⟨cs,e,fd hm hn hr⟩
 |Lg vs=>
  obtain⟨us,e,hr⟩:=r;refine⟨us,e,hr.uz fun p u hp NG=>?_⟩;have hm':∀ a k,told a=some k→p.2.any (ag.cZ true a)=false:=fun a k hk=>by have:=aOa.1 (hm a k hk) p hp;simpa using this
  have hn':∀ a k,oC a=some k→p.2.any (ag.cZ false a)=false:=fun a k hk=>by have:=aOa.1 (hn a k hk) p hp;simpa using this
  split at NG
  ·rename_i hc;simp only[hc,aua];obtain⟨cs,e,hr⟩:=NG;exact⟨cs,e,fd hm' hn' hr⟩
  ·rename_i hc
   obtain⟨l,e,hr⟩:=NG;simp only[bva] at hc;simp only[hc,asa,aca];exact⟨l,e,hM.le hS (fun a k hk=>by have:=hm' a k hk;rw[e] at this;simpa using this) (fun a k hk=>by have:=hn' a k hk;rw[e] at this;simpa using this) hr⟩
 |Ak t ls=>obtain⟨u,cs,e1,e2,hr⟩:=r;exact⟨u,cs,e1,e2,fd hm hn hr⟩
theorem Ij.et(hM:Ij st t s st' al told li oC)(hS:∀ b o,G.S b=some o→G3.S b=some o){act:Act}(hr:bM G st act):bM (G.iy G3 told li oC) st' act:=
 ⟨hr.1,hr.2.1.trans hM.n.symm,fun i v hv=>by
  rw[hM.ib] at hv;exact hM.leV hS (fun a k hk=>Bu (hM.F8 a k hk) hv) (fun q k hk=>Bu (hM.Ep q k hk).2.1 hv) (hr.2.2 i v hv)⟩
theorem Ij.ok(hM:Ij st t s st' al told li oC)(hm:ay X st G w)(jr:∀ x b,eR (G.t8 al) t x b→∃ x',eR G st x' b∧((∃ o,x=(false,o)∧x' = (false,o))∨∃ nm a A,x=(true,nm)∧x' = (true,a)∧look al nm=some (some a,A)))
  {X':mz} (Ai:ay X' t (G.t8 al) w) (h3:ay (wi t (G.t8 al) w) s G3 w') (IS:∀ a k,li a=some k→told a=none→G3.ψ k=G.ψ a):ay X st' (G.iy G3 told li oC) w':=by
 have hS:∀ b o,G.S b=some o→G3.S b=some o:=h3.s0;have hφ:∀ q tl,t.dL q=some tl→G3.φ q=G.φ q∧G3.pre q=G.pre q∧G3.post q=G.post q:=fun q tl hq=>by obtain⟨bq,_,_⟩:=hM.acb q tl hq;have:=(h3.pin q _ (Qk bq hq)).2;simp only[aia] at this;exact⟨this.1.symm,this.2.1.symm,this.2.2.symm⟩
 have hφ2:∀ q tl,t.dL q=some tl→G3.φ q=G.φ q∧G3.pre q=G.pre q:=fun q tl hq=>⟨(hφ q tl hq).1,(hφ q tl hq).2.1⟩;have afg:∀ q ls,st.dL q=some ls→oC q=none:=fun q ls h=>by
  cases hn:oC q with
  |none=>rfl
  |some k=>rw[(hM.Ep q k hn).1] at h;cases h
 have bφ:∀ q ls,st.dL q=some ls→(G.iy G3 told li oC).φ q=G.φ q∧(G.iy G3 told li oC).pre q=G.pre q∧(G.iy G3 told li oC).post q=G.post q:=fun q ls h=>by simp[Gh.iy,afg q ls h]
 have cls:∀ x b,eR (G.iy G3 told li oC) st' x b→(eR G st x b∧∀ y,¬ eR (G.t8 al) t y b)∨
   ∃ x3,eR G3 s x3 b∧((∃ q q3,x=(false,q)∧x3=(false,q3)∧((q3=q∧∃ tl,t.dL q=some tl)∨oC q=some q3))∨(∃ a k,x=(true,a)∧x3=(true,k)∧told a=some (some k))∨∃ a k,x=(true,a)∧x3=(true,k)∧li a=some k):=fun x b hx=>by
  obtain⟨kk,n⟩:=x;cases kk with
  |false=>
   obtain⟨⟨wX,hl⟩,rfl⟩:=hx;rcases hM.dL n wX hl with ⟨h1,h2⟩|⟨ls,tl,sl,h1,h2,h4,_⟩|⟨k,sl,h1,h2,_⟩
   ·rw[(bφ n wX h2).1]
    refine .inl ⟨⟨⟨wX,h2⟩,rfl⟩,fun y hy=>?_⟩;obtain⟨y',Gc,c⟩:=jr y _ hy;have e:=hm.pX (false,n) y' _ ⟨⟨wX,h2⟩,rfl⟩ Gc;rcases c with ⟨o,rfl,rfl⟩|⟨nm,a,A,rfl,rfl,_⟩
    ·simp only[aia,b9a] at e
     subst e;obtain⟨⟨tl,ht⟩,_⟩:=hy;rw[h1] at ht;cases ht
    ·simp at e
   ·rw[(bφ n ls h1).1]
    exact .inr ⟨(false,n),⟨⟨sl,h4⟩,(hφ n tl h2).1.symm⟩,.inl ⟨n,n,rfl,rfl,.inl ⟨rfl,tl,h2⟩⟩⟩
   ·exact .inr ⟨(false,k),⟨⟨sl,h2⟩,by simp[Gh.iy,h1]⟩,.inl ⟨n,k,rfl,rfl,.inr h1⟩⟩
  |true=>
   obtain⟨⟨A,hA,hs⟩,p,hp,rfl⟩:=hx;rcases hM.arr n A hA with ⟨k,h1,h2,h4,_⟩|⟨h1,_⟩|⟨k,h0,h1,h2,h4,h5,_⟩|⟨h0,h1,h2,h4⟩
   ·simp only[Gh.iy,h1] at hp
    exact .inr ⟨(true,k),⟨⟨A,h2,hs⟩,p,hp,rfl⟩,.inr (.inl ⟨n,k,rfl,rfl,h1⟩)⟩
   ·simp only[Gh.iy,h1] at hp;cases hp
   ·simp only[Gh.iy,h0,h1] at hp
    exact .inr ⟨(true,k),⟨⟨A,h4,hs⟩,p,hp,rfl⟩,.inr (.inr ⟨n,k,rfl,rfl,h1⟩)⟩
   ·simp only[Gh.iy,h0,h1] at hp
    have ho:eR G st (true,n) p.1:=⟨⟨A,h2,hs⟩,p,hp,rfl⟩;refine .inl ⟨ho,fun y hy=>?_⟩;obtain⟨y',Gc,c⟩:=jr y _ hy;have e:=hm.pX (true,n) y' _ ho Gc;rcases c with ⟨o,rfl,rfl⟩|⟨nm,a,B,rfl,rfl,hl⟩
    ·simp at e
    ·simp only[aia,b9a] at e
     subst e;rcases h4 with h4|h4
     ·rw[hs] at h4;cases h4
     ·exact h4 nm B hl
 have sU:∀ b,b<w.heap.size→(∀ y,¬ eR (G.t8 al) t y b)→w'.heap[b]? = w.heap[b]?:=fun b hb hn=>h3.fr b hb (fun⟨y,hy⟩=>hn y hy);have hin:∀ x3 b,eR G3 s x3 b→(∃ x',eR G st x' b)∨w.heap.size≤b:=fun x3 b hx=>by
  rcases h3.sZ x3 b hx with ⟨y,hy⟩|h
  ·obtain⟨y',Gc,_⟩:=jr y b hy;exact .inl ⟨y',Gc⟩
  ·exact .inr h
 refine {sl:=fun a=>?_,sh:=h3.sh,ob:=fun q wX hq=>?_,ar:=fun a A hA=>?_,ah:=fun a A hA hs p hp=>?_,nd:=fun a A hA hs=>?_,pX:=fun x y b hx hy=>?_,dS:=fun x b hx=>?_,sZ:=fun x b hx=>?_,s0:=fun b o h=>hS b o (hm.s0 b o h),sn:=fun b o h=>?_,fr:=fun b hb hn=>?_,sz:=bFa hm.sz h3.sz,os:=h3.os.trans hm.os,tp:=h3.tp.trans hm.tp,out:=h3.out.trans hm.out,pin:=fun q p hp=>?_,bv:=fun q j u hu=>?_,ap:=fun a u hu=>(by obtain⟨h1,⟨A,h2⟩,h3⟩:=hm.ap a u hu;obtain⟨h4,h5⟩:=hM.ap a A h1 h2;exact⟨by rw[hM.pn];exact h1,h5,by simp[Gh.iy,h4,h3]⟩),hv:=fun a=>(by rw[hM.vr a];simp only[Gh.iy,hm.hv a]),ds:=hm.ds,hh:=fun a A hA hs hn=>?_}
 ·show SlV (match told a with|some (some k)=>G3.ψ k|some none=>.slice none 0 0|none=>G.ψ a)
  split
  ·exact h3.sl _
  ·exact .inl ⟨_,_,_,rfl⟩
  ·exact hm.sl _
 ·rcases hM.dL q wX hq with ⟨h1,h2⟩|⟨ls,tl,sl,h1,h2,h4,e1,e2,e3,hj⟩|⟨k,sl,h1,h2,e1,hj⟩
  ·obtain⟨arr,elem,mid,g1,g2,g3⟩:=hm.ob q wX h2
   have bq:=eR.lt hm (x:=(false,q)) ⟨⟨wX,h2⟩,rfl⟩;have vP:∀ y,¬ eR (G.t8 al) t y (G.φ q):=fun y hy=>by
    rcases cls (false,q) (G.φ q) ⟨⟨wX,hq⟩,(bφ q wX h2).1.symm⟩ with ⟨_,h⟩|⟨x3,hx3,c⟩
    ·exact h y hy
    ·obtain⟨y',Gc,c'⟩:=jr y _ hy
     have e:=hm.pX (false,q) y' _ ⟨⟨wX,h2⟩,rfl⟩ Gc;rcases c' with ⟨o,rfl,rfl⟩|⟨nm,a,A,rfl,rfl,_⟩
     ·simp only[aia,b9a] at e
      subst e;obtain⟨⟨tl,ht⟩,_⟩:=hy;rw[h1] at ht;cases ht
     ·simp at e
   obtain⟨b1,b2,b3⟩:=bφ q wX h2;refine⟨arr,elem,mid,by rw[b1,sU _ bq vP];exact g1,by rw[b2,b3];exact g2,?_⟩
   unfold hY at g3 ⊢;rw[jW (st:=st) (fun j l=>by cases l<;>simp[St.res,hM.bl])]
   refine g3.uz fun l v hl B5=>hM.le hS (fun a k hk=>?_) (fun a k hk=>?_) B5
   ·have:=aOa.1 (rC (hM.F8 a k hk) h2 0) l hl
    simpa using this
   ·have:=aOa.1 (rC (hM.Ep a k hk).2.1 h2 0) l hl
    simpa using this
  ·obtain⟨arr,elem,mid,g1,g2,g3⟩:=h3.ob q sl h4
   obtain⟨f1,f2,f3⟩:=hφ q tl h2;obtain⟨bq,_,_⟩:=hM.acb q tl h2;have hml:mid.length=sl.length:=by have:=All2.length g3;rw[iJ] at this;exact this.symm
   obtain⟨b1,b2,b3⟩:=bφ q ls h1;refine⟨arr,elem,mid,by rw[b1,←f1];exact g1,by rw[b2,b3];rw[f2,f3] at g2;exact g2,?_⟩
   refine All2.Vs (by rw[iJ];omega) fun j x y hx hy=>?_
   rw[rH,aIa] at hx;obtain⟨l',Mi,rfl⟩:=hx;rw[aTa];have hjl:j<wX.length:=(aja.1 Mi).1;have Pj:ls[j]? = some ls[j]:=bga (by omega)
   have Mk:sl[j]? = some sl[j]:=bga (by omega)
   rcases hj j l' ls[j] sl[j] Mi Pj Mk with ⟨e,hb,lf,hlf⟩|hB
   ·obtain⟨xP,qO,u,q1,q2,q3⟩:=NO Ai bq h2 hlf hb
    obtain⟨_,_,adb,acs,q4,q5⟩:=h3.bv q j u q3;rw[g1] at q4;cases q4;have hyu:y=u:=by rw[RY g2 (by omega),hy] at q5;exact bta q5
    obtain⟨YK,Y1,agX,p1,p2,p3⟩:=hm.ob q ls h1;have q1:w.heap[G.φ q]? = some (.cells xP qO (0,0)):=q1;have q2:xP.toList[(G.pre q).length+j]? = some u:=q2;rw[p1] at q1;cases q1;have ahr:agX.length=ls.length:=by have:=All2.length p3;rw[iJ] at this;exact this.symm
    rw[RY p2 (by omega)] at q2
    obtain⟨u',hu',hr'⟩:=All2.wh (i:=j) p3 (by rw[rH,Pj];rfl)
    rw[q2] at hu';cases hu';rw[aTa] at hr';rw[e,hyu];refine hM.le hS (fun a k hk=>?_) (fun a k hk=>?_) hr'
    ·have:=aOa.1 (rC (hM.F8 a k hk) h1 0) (st.res q j ls[j]) (aZa (i:=j) (by rw[rH,Pj];simp))
     simpa using this
    ·have:=aOa.1 (rC (hM.Ep a k hk).2.1 h1 0) (st.res q j ls[j]) (aZa (i:=j) (by rw[rH,Pj];simp))
     simpa using this
   ·obtain⟨u',hu',hr'⟩:=All2.wh (i:=j) g3 (by rw[rH,Mk];rfl)
    rw[hy] at hu';cases hu';rw[aTa] at hr';exact hB G G3 _ ⟨_,_,h3⟩ hφ2 hr'
  ·obtain⟨arr,elem,mid,g1,g2,g3⟩:=h3.ob k sl h2
   refine⟨arr,elem,mid,by simp only[Gh.iy,h1];exact g1,by simp only[Gh.iy,h1];exact g2,?_⟩
   have hml:mid.length=sl.length:=by have:=All2.length g3;rw[iJ] at this;exact this.symm
   refine All2.Vs (by rw[iJ];omega) fun j x y hx hy=>?_
   rw[rH,aIa] at hx;obtain⟨l',Mi,rfl⟩:=hx;rw[aTa];have hjl:j<wX.length:=(aja.1 Mi).1;have Mk:sl[j]? = some sl[j]:=bga (by omega)
   obtain⟨u',hu',hr'⟩:=All2.wh (i:=j) g3 (by rw[rH,Mk];rfl)
   rw[hy] at hu';cases hu';rw[aTa] at hr';exact hj j l' sl[j] Mi Mk G G3 _ ⟨_,_,h3⟩ hφ2 hr'
 ·rcases hM.arr a A hA with ⟨k,h1,h2,h4,h6⟩|⟨h1,h2,h4,h6⟩|⟨k,h0,h1,h2,h4,h5,h6⟩|⟨h0,h1,h2,h4⟩
  ·exact(h3.ar k A h2).mono (G:=G3) (a:=k) (G':=G.iy G3 told li oC) (a':=a) (fun _ _ h=>h) (by simp[Gh.iy,h1]) (by simp[Gh.iy,h1]) (fun i o e=>absurd e (h6 i o))
  ·exact(gR h4 h6).2 (.inl ⟨h2,by simp[Gh.iy,h1],by simp[Gh.iy,h1]⟩)
  ·exact(h3.ar k A h4).mono (G:=G3) (a:=k) (G':=G.iy G3 told li oC) (a':=a) (fun _ _ h=>h) (by simp[Gh.iy,h0];exact(IS a k h1 h0).symm) (by simp[Gh.iy,h0,h1]) (fun i o e=>absurd e (h6 i o))
  ·refine(hm.ar a A h2).mono (G:=G) (a:=a) (G':=G.iy G3 told li oC) (a':=a) hS (by simp[Gh.iy,h0]) (by simp[Gh.iy,h0,h1]) (fun i o e=>?_)
   have vP:oC o=none:=by
    cases hn:oC o with
    |none=>rfl
    |some k=>exact absurd rfl (E8 (hM.Ep o k hn).2.1 h2 e)
   simp[Gh.iy,vP]
 ·have hx:eR (G.iy G3 told li oC) st' (true,a) p.1:=⟨⟨A,hA,hs⟩,p,hp,rfl⟩
  rcases hM.arr a A hA with ⟨k,h1,h2,h4,h6⟩|⟨h1,h2,h4,h6⟩|⟨k,h0,h1,h2,h4,h5,h6⟩|⟨h0,h1,h2,h4⟩
  ·simp only[Gh.iy,h1] at hp;exact h3.ah k A h2 hs p hp
  ·simp only[Gh.iy,h1] at hp;cases hp
  ·simp only[Gh.iy,h0,h1] at hp;exact h3.ah k A h4 hs p hp
  ·have Ax:p∈G.HA a:=by simpa only[Gh.iy,h0,h1] using hp
   rcases cls _ _ hx with ⟨g1,g2⟩|⟨x3,_,c⟩
   ·rw[sU _ (eR.lt hm g1) g2];exact hm.ah a A h2 hs p Ax
   ·rcases c with ⟨q,q3,e,_⟩|⟨a',k,e,_,ha⟩|⟨a',k,e,_,ha⟩<;>simp only[aia,b9a,reduceCtorEq,false_and] at e
    ·subst e;rw[h0] at ha;cases ha
    ·subst e;rw[h1] at ha;cases ha
 ·rcases hM.arr a A hA with ⟨k,h1,h2,h4,h6⟩|⟨h1,h2,h4,h6⟩|⟨k,h0,h1,h2,h4,h5,h6⟩|⟨h0,h1,h2,h4⟩
  ·simp only[Gh.iy,h1];exact h3.nd k A h2 hs
  ·simp only[Gh.iy,h1];exact b5a
  ·simp only[Gh.iy,h0,h1];exact h3.nd k A h4 hs
  ·simp only[Gh.iy,h0,h1];exact hm.nd a A h2 hs
 ·rcases cls x b hx with ⟨h1,h2⟩|⟨x3,h1,c1⟩<;>rcases cls y b hy with ⟨k1,k2⟩|⟨y3,k1,c2⟩
  ·exact hm.pX x y b h1 k1
  ·rcases h3.sZ y3 b k1 with ⟨z,hz⟩|h
   ·exact absurd hz (h2 z)
   ·have:=eR.lt hm h1;have h:w.heap.size≤b:=h;omega
  ·rcases h3.sZ x3 b h1 with ⟨z,hz⟩|h
   ·exact absurd hz (k2 z)
   ·have:=eR.lt hm k1;have h:w.heap.size≤b:=h;omega
  ·have e:=h3.pX x3 y3 b h1 k1
   rcases c1 with ⟨q,q3,rfl,rfl,hq⟩|⟨a,k,rfl,rfl,ha⟩|⟨a,k,rfl,rfl,ha⟩<;>rcases c2 with ⟨q',q3',rfl,rfl,IW⟩|⟨a',k',rfl,rfl,ha'⟩|⟨a',k',rfl,rfl,ha'⟩<;>simp only[aia,b9a,reduceCtorEq,false_and] at e
   ·subst e
    rcases hq with ⟨e1,tl,h5⟩|hq<;>rcases IW with ⟨e2,tl',h6⟩|IW
    ·rw[←e1,←e2]
    ·rw[←e1,(hM.Ep q' q3 IW).2.2] at h5;cases h5
    ·rw[←e2,(hM.Ep q q3 hq).2.2] at h6;cases h6
    ·rw[hM.afG q q' q3 hq IW]
   ·subst e;rw[hM.ti a a' k ha ha']
   ·subst e;exact absurd ha' (hM.tk a a' k ha)
   ·subst e;exact absurd ha (hM.tk a' a k ha')
   ·subst e;rw[hM.ki a a' k ha ha']
 ·rcases cls x b hx with ⟨h1,h2⟩|⟨x3,h1,c1⟩
  ·cases hc:G3.S b with
   |none=>exact hc
   |some o=>
    rcases h3.sn b o hc with h|⟨y,hy⟩|h
    ·have:=hm.dS x b h1;rw[show G.S b=some o from h] at this;cases this
    ·exact absurd hy (h2 y)
    ·have:=eR.lt hm h1;have h:w.heap.size≤b:=h;omega
  ·exact h3.dS x3 b h1
 ·rcases cls x b hx with ⟨h1,h2⟩|⟨x3,h1,c1⟩
  ·exact hm.sZ x b h1
  ·rcases hin x3 b h1 with ⟨x',E4⟩|h
   ·exact hm.sZ x' b E4
   ·have:=hm.sz;exact .inr (by omega)
 ·rcases h3.sn b o h with h|⟨y,hy⟩|h
  ·exact hm.sn b o h
  ·obtain⟨y',Gc,_⟩:=jr y b hy
   rcases hm.sZ y' b Gc with h|h
   ·exact .inr (.inl h)
   ·exact .inr (.inr h)
  ·have:=hm.sz;have h:w.heap.size≤b:=h;exact .inr (.inr (by omega))
 ·rw[sU b (by have:=hm.sz;omega) (fun y hy=>by
   obtain⟨y',Gc,_⟩:=jr y b hy;rcases hm.sZ y' b Gc with h|h
   ·exact hn h
   ·omega)]
  exact hm.fr b hb hn
 ·obtain⟨⟨ls,h1⟩,h2⟩:=hm.pin q p hp
  obtain⟨b1,b2,b3⟩:=bφ q ls h1;exact⟨hM.Wx q ls h1,by rw[b1,b2,b3];exact h2⟩
 ·obtain⟨⟨lf,h1⟩,⟨ls,h2,h4⟩,xP,qO,h5,h6⟩:=hm.bv q j u hu
  obtain⟨wX,k1,k2,k3⟩:=hM.ur q j ls lf h2 h4 h1;refine⟨⟨lf,by rw[hM.bl];exact h1⟩,⟨wX,k1,k2⟩,?_⟩
  obtain⟨b1,b2,b3⟩:=bφ q ls h2;rw[b1,b2];rcases k3 with k3|⟨tl,lf',k3,k4,k5⟩
  ·have hx:eR (G.iy G3 told li oC) st' (false,q) (G.φ q):=⟨⟨wX,k1⟩,b1.symm⟩
   refine⟨xP,qO,?_,h6⟩;rcases cls _ _ hx with ⟨g1,g2⟩|⟨x3,g1,c⟩
   ·rw[sU _ (eR.lt hm g1) g2];exact h5
   ·have vP:∀ y,¬ eR (G.t8 al) t y (G.φ q):=fun y hy=>by
     obtain⟨y',Gc,c'⟩:=jr y _ hy;have e:=hm.pX (false,q) y' _ ⟨⟨ls,h2⟩,rfl⟩ Gc;rcases c' with ⟨o,rfl,rfl⟩|⟨nm,a,A,rfl,rfl,_⟩
     ·simp only[aia,b9a] at e
      subst e;obtain⟨⟨tl,ht⟩,_⟩:=hy;rw[k3] at ht;cases ht
     ·simp at e
    rw[sU _ (eR.lt hm (x:=(false,q)) ⟨⟨ls,h2⟩,rfl⟩) vP];exact h5
  ·obtain⟨f1,f2,f3⟩:=hφ q tl k3
   obtain⟨bq,_,_⟩:=hM.acb q tl k3;obtain⟨adb,acs,u',q1,q2,q3⟩:=NO Ai bq k3 k5 k4;have q1:w.heap[G.φ q]? = some (.cells adb acs (0,0)):=q1;have q2:adb.toList[(G.pre q).length+j]? = some u':=q2;rw[h5] at q1;cases q1;rw[h6] at q2;cases q2;obtain⟨_,_,YK,Y1,q4,q5⟩:=h3.bv q j u q3;exact⟨YK,Y1,by rw[←f1];exact q4,by rw[←f2];exact q5⟩
 ·rcases hM.arr a A hA with ⟨k,h1,_⟩|⟨h1,_⟩|⟨k,h0,h1,_⟩|⟨h0,h1,h2,h4⟩
  ·simp only[Gh.iy,h1]
  ·simp only[Gh.iy,h1,kp]
  ·simp only[Gh.iy,h0,h1];rw[aza (by omega)]
  ·simp only[Gh.iy,h0,h1];exact hm.hh a A h2 hs hn
end
end Go.Fx
namespace Go.Fx
noncomputable def xR(E:sb)(c:Code):List (Code×lm):=
 Code.rec (motive:=fun _=>List (Code×lm)) [] (fun id ops draw=>bif draw then(match E.od (id+1000000) with|some L=>[(.region id ops true,L)]|none=>[]) else []) (fun _ _ x y=>x++y) (fun _ _ _ x y=>x++y)
  (fun id b x=>match E.od id with|some L=>[(.block id b,L)]|none=>x) (fun _ _=>[]) (fun _ _ _ _ _ _=>[])
  (fun _=>[]) (fun _ _=>[]) (fun _=>[]) (fun _=>[]) [] (fun _=>[]) c
theorem Vl{P:Program}{E:sb}{c:Code}:(∀ x∈xR E c,uo P E.gt x.1 x.2)→rV P E c:=by
 induction c with
 |seq a b NM ihb=>intro h;exact⟨NM fun x hx=>h x (axa _ hx),ihb fun x hx=>h x (aoa _ hx)⟩
 |cond c a b NM ihb=>intro h;exact⟨NM fun x hx=>h x (axa _ hx),ihb fun x hx=>h x (aoa _ hx)⟩
 |region id ops draw=>
  intro h;cases draw with
  |false=>trivial
  |true=>
   have h:∀ x∈(match E.od (id+1000000) with|some L=>[((.region id ops true:Code),L)]|none=>[]),uo P E.gt x.1 x.2:=h
   show(match true,E.od (id+1000000) with|true,some L=>uo P E.gt (.region id ops true) L|_,_=>True)
   cases hl:E.od (id+1000000) with
   |some L=>rw[hl] at h;exact h (_,L) (by simp)
   |none=>trivial
 |block id b ih=>
  intro h;have h:∀ x∈(match E.od id with|some L=>[((.block id b:Code),L)]|none=>xR E b),uo P E.gt x.1 x.2:=h
  show(match E.od id with|some L=>Rb P E.gt id b L|none=>rV P E b)
  cases hl:E.od id with
  |some L=>rw[hl] at h;exact h (_,L) (by simp)
  |none=>rw[hl] at h;exact ih h
 |_=>intro _;trivial
theorem RV{P:Program}{E:sb}{c:Code}{l:List (Code×lm)}(e:xR E c=l)(h:∀ x∈l,uo P E.gt x.1 x.2):rV P E c:=Vl (by rw[e];exact h)
end Go.Fx
namespace Go.Fx
open Go.RowKit (Below)
def Ty.As:Ty→Bool
 |.int _=>true | .bool=>true | .str=>true|_=>false
def ab4:(t:Ty)→t.nw→Value
 |.int k,n=>.int k n
 |.bool,b=>.bool b
 |.str,s=>kl s
 |_,_=>undef
def Jz:(ts:List Ty)→DL ts→List Value
 |[],_=>[]
 |t::r,d=>ab4 t d.1::Jz r d.2
theorem BD{G:Gh}{t:Ty}(ht:t.As=true){d:t.nw}{v:Value}:aT G (.eV t d) v↔v=ab4 t d:=by
 have fwd:∀{t:Ty} {d:t.nw},t.agg=false→(∀ cs,fW G.S false t cs d []→cs=[ab4 t d])→aT G (.eV t d) v→v=ab4 t d:=fun {t d} ha hr h=>by obtain⟨cs,e1,e2⟩:=h;simp only[ha,asa,aca] at e1;have:=hr cs e2;rw[e1] at this;simpa using this
 cases t with
 |int k=>exact⟨fwd rfl fun cs h=>h.1,fun h=>by subst h;exact kH k d⟩
 |bool=>exact⟨fwd rfl fun cs h=>h.1,fun h=>by subst h;exact ot d⟩
 |str=>exact⟨fwd rfl fun cs h=>h.1,fun h=>by subst h;exact KH d⟩
 |_=>simp[Ty.As] at ht
theorem QU{G:Gh}:∀{ts:List Ty} {d:DL ts} {vs:List Value},(ts.all Ty.As)=true→zW G ts d vs→vs=Jz ts d
 |[],d,[],_,_=>rfl
 |t::r,d,v::vs,h,hd=>by simp only[bma,Q4] at h;rw[Jz,(BD h.1).1 hd.1,QU h.2 hd.2]
 |[],d,_::_,_,h=>h.elim
 |_::_,d,[],_,h=>h.elim
theorem QT{G:Gh}:∀{ts:List Ty} {d:DL ts},(ts.all Ty.As)=true→zW G ts d (Jz ts d)
 |[],d,_=>trivial
 |t::r,d,h=>by simp only[bma,Q4] at h;exact⟨(BD h.1).2 rfl,QT h.2⟩
theorem ay.aeG{X:mz}{st:St}{G:Gh}{w w':World}(hm:ay X st G w)(hb:Below w.heap.size w w'):ay X st G w':=by
 have sU:∀{b:Nat} {o:Obj},w.heap[b]? = some o→w'.heap[b]? = some o:=fun {b o} h=>by rw[hb.block b (fQ h)];exact h
 exact {sl:=hm.sl,sh:=fun b o h=>sU (hm.sh b o h),ob:=fun o ls h=>(by obtain⟨arr,elem,mid,g1,g2,g3⟩:=hm.ob o ls h;exact⟨arr,elem,mid,sU g1,g2,g3⟩),ar:=hm.ar,ah:=fun a A h hs p hp=>sU (hm.ah a A h hs p hp),nd:=hm.nd,pX:=hm.pX,dS:=hm.dS,sZ:=hm.sZ,s0:=hm.s0,sn:=hm.sn,fr:=fun b h1 h2=>(by rw[hb.block b (by have:=hm.sz;omega)];exact hm.fr b h1 h2),sz:=bFa hm.sz hb.size,os:=hb.os.trans hm.os,tp:=hb.tape.trans hm.tp,out:=hb.output.trans hm.out,pin:=hm.pin,bv:=fun o j u h=>(by obtain⟨h1,h2,xP,qO,h4,h5⟩:=hm.bv o j u h;exact⟨h1,h2,xP,qO,sU h4,h5⟩),ap:=hm.ap,hv:=hm.hv,ds:=hm.ds,hh:=hm.hh}
theorem QK:∀{ts:List Ty},ts.all Ty.As=true→ts.all Ty.yK=true
 |[],_=>rfl
 |t::r,h=>by simp only[bma,Q4] at h ⊢;exact⟨by cases t<;>simp_all[Ty.As,Ty.yK],QK h.2⟩
theorem EI{P:Program}{gt:Nat→Option GA}{f:FuncId}{ts rs:List Ty}{W:Type}{F:DL ts→Option W}{dec:W→DL rs}(hts:ts.all Ty.As=true)(hrs:rs.all Ty.As=true)(A8:∀ args w,(callFunc f args).run P w=.ok (.enter f args) w)
  (h:∀ d y w,nv gt (fun b=>w.heap[b]?)→F d=some y→Calls P f (Jz ts d).toArray w fun e w'=>e=.returned (HG (Jz rs (dec y)))∧Below w.heap.size w w'):AR P gt f (BB ts rs F dec):=by
 intro R r X st G w dst args vs K KP hr zd hm _ ha;simp only[BB,QK hrs,Q9] at hr;split at hr
 ·rename_i wb hs
  split at hr
  ·rename_i d hd
   obtain⟨y,hx,hr⟩:=awa.1 hr;obtain⟨G1,m1,a1,k1⟩:=yV hs hm;have hdr:=DZ m1 hd (ha.imp fun a v h=>h.sub a1);have hv:=QU hts hdr;subst hv;refine⟨A8 _ _,(h d y w (zd.mono fun b o hb=>hm.sh b o (hm.s0 b o hb)) hx).mono fun e w' ⟨he,hb⟩=>?_⟩;subst he;exact⟨_,st,G,hm.aeG hb,fun act ra=>ra,Mq (QT hrs),hr⟩
  ·cases hr
 ·cases hr
end Go.Fx
namespace Go.Fx
open Go.RowKit (Below)
theorem ay.toBelow{S:DB}{st:St}{G:Gh}{w w':World}(h:ay (S9 S w) st G w'):Below w.heap.size w w':=
 ⟨h.os,h.tp,h.out,h.sz,fun k hk=>h.fr k hk (fun h=>h)⟩
theorem U1{P:Program}{f:FuncId}{ts rs:List Ty}{W:Type}{F:DL ts→Option W}{dec:W→DL rs}{gt:Nat→Option GA}(hs:AR P gt f (BB ts rs F dec))(hrs:rs.all Ty.As=true){S:DB}{w:World}(hS:∀ b o,S b=some o→w.heap[b]? = some o)(hg:nv gt S)
  {avs:List ab} {vs:List Value} {d:DL ts} {y:W} (hF:F d=some y) (hv:All2 (aP (ghD S)) avs vs) (dq:uV avs (stD 0 [] ())=some (stD 0 [] ())) (hgv:Qf (stD 0 [] ()) ts avs=some d):
  Calls P f vs.toArray w fun e w'=>e=.returned (HG (Jz rs (dec y)))∧Below w.heap.size w w':=by
 have it:(BB ts rs F dec).run 0 avs (stD 0 [] ()) (fun av _=>some av) (fun _ _=>none)=some (T9 rs (dec y)):=by simp[BB,dq,hgv,hF]
 obtain⟨_,h⟩:=hs it hg (VK hS 0 [] ()) ⟨{tmps:=#[],defers:=[]},rfl,rfl,fun i v h=>by cases h⟩ hv
 refine h.mono fun e w' he=>?_;cases e with
 |returned v=>
  obtain⟨av,st',G',h1,h2,h3,h4⟩:=he;cases h4;refine⟨?_,h1.toBelow⟩;have key:∀{rs:List Ty} {x:DL rs},rs.all Ty.As=true→aP G' (T9 rs x) v→v=HG (Jz rs x):=by
   intro rs x hrs hv
   match rs,x,hrs,hv with
   |[],x,_,hv=>obtain⟨us,e,h⟩:=hv;cases us with
    |nil=>exact e
    |cons _ _=>exact h.elim
   |[t],x,hrs,hv=>simp only[bma,Q4] at hrs;exact(BD hrs.1).1 hv
   |t::t2::r,x,hrs,hv=>
    obtain⟨us,e,h⟩:=hv;have Lg:∀{rs:List Ty} {x:DL rs} {us:List Value},rs.all Ty.As=true→All2 (fun(p:Bool×List ag) u=>if p.1=true then ∃ cs:List Value,u=.agg cs.toArray∧All2 (aT G') p.2 cs else ∃ l,p.2=[l]∧aT G' l u) (acd rs x) us→us=Jz rs x:=by
     intro rs;induction rs with
     |nil=>intro x us _ h;cases us with
      |nil=>rfl
      |cons _ _=>exact h.elim
     |cons t r ih=>
      intro x us hrs h;simp only[bma,Q4] at hrs;cases us with
      |nil=>exact h.elim
      |cons u us=>
       have h1:=h.1;have ha:t.agg=false:=by cases t<;>simp[Ty.As] at hrs<;>rfl
       simp only[ha,asa,aca] at h1;obtain⟨l,e1,e2⟩:=h1;have hl:l=.eV t x.1:=by cases t<;>simp[Ty.As] at hrs<;>(simp only[jO,aHa,a7a] at e1;exact e1.symm)
       subst hl;rw[(BD hrs.1).1 e2,ih hrs.2 h.2];rfl
    rw[e,Lg hrs h];rfl
  rw[key hrs h3]
 |panicked IC=>obtain⟨v,_,_,_,_,_,_,h⟩:=he;cases h
 |outgrown=>exact he.elim
end Go.Fx
namespace Go.Fx
def oU:Nat→List ab→List (Nat×ab)
 |_,[]=>[]
 |i,v::r=>(i,v)::oU (i+1) r
def CQ(n:Nat)(args:List ab)(st:St):St:=⟨n,oU 0 args,st.cg,st.cM,[],st.cD,st.fK,st.pin,st.ER⟩
def yL(cg:List (Nat×Nat))(st:St):Bool:=cg.all fun p=>match st.dL p.1 with|some ls=>Nat.beq ls.length p.2|none=>false
def Hv(o:Nat)(cg:List (Nat×Nat)):Bool:=eU o (cg.map (·.1))
def yJ(L:pW):Bool:=
 L.cg.all (fun p=>Nat.blt p.1 10000)&&nX (L.cg.map (·.1))&&nX ((L.cs++L.vs).map fun p=>p.1.key) &&
  (L.cs++L.vs).all (fun p=>match p.1 with | .l o _=>Hv o L.cg|_=>true) &&
  L.cs.all (fun p=>match p.1 with | .l _ _=>true|_=>false)
def aaj(pin:List Nat)(b:AL):Bool:=pin.all fun k=>(look b k).isSome
structure aa0(L:pW) where
 c:PV L.cs
 v:PV L.vs
 st:St
 a:AL
 b:AL
def Y2(L:pW)(args:List ab)(st:St):Option (aa0 L):=
 match iA L.cs (CQ L.n args st) with
 |none=>none
 |some s=>(match iA L.vs s with
  |none=>none
  |some s=>(match lc s L.cs with
   |none=>none
   |some (c,a)=>(match lc s L.vs with
    |none=>none
    |some (v,b)=>(bif z6 (a++b)&&yL L.cg s&&yJ L&&Nat.ble args.length L.n&&qOk L.vs s&&aaj L.pin b then some ⟨c,v,{st with cM:=s.cM},a,b⟩ else none))))
def PJ(L:pW)(al:AL)(told:kT)(news:List (Nat×Nat×Nat))(s:St):Option (PV told):=
 match iA told s with
 |none=>none
 |some s=>(match lc s told with
  |none=>none
  |some (o,b)=>(bif uT s L.cs&&z6 (al++b)&&yL L.cg s&&yL (news.map fun p=>(p.1,p.2.1)) s&&qOk told s&&Gj L.pin b then some o else none))
def nmO(dst k:Nat):Nat:=(dst+1) * 1000000000+k
def Jb:List (Nat×Nat×Nat)→Nat→Option Nat
 |[],_=>none
 |p::r,o=>bif Nat.beq p.1 o then some p.2.2 else Jb r o
def aav(news:List (Nat×Nat×Nat)):ag→ag
 |.np o off=>(match Jb news o with|some k=>.np k off|none=>.np o off)
 |l=>l
def yZ(dst:Nat)(pin:List Nat)(news:List (Nat×Nat×Nat))(p:Pl)(s:mu)(x:s.V):ag:=bif eU p.key pin then .any else aav news (s.bN (nmO dst p.key) x)
def jg(dst:Nat)(pin:List Nat)(news:List (Nat×Nat×Nat)):(ps:kT)→PV ps→List (Nat×Nat×ag)
 |[],_=>[]
 |(.l o j,s)::r,v=>(o,j,yZ dst pin news (.l o j) s v.1)::jg dst pin news r v.2
 |(.r _,_)::r,v=>jg dst pin news r v.2
 |(.q _ _,_)::r,v=>jg dst pin news r v.2
def K8(dst:Nat)(pin:List Nat)(news:List (Nat×Nat×Nat)):(ps:kT)→PV ps→List (Nat×ab)
 |[],_=>[]
 |(.r i,s)::r,v=>(i,.one (yZ dst pin news (.r i) s v.1))::K8 dst pin news r v.2
 |(.l _ _,_)::r,v=>K8 dst pin news r v.2
 |(.q _ _,_)::r,v=>K8 dst pin news r v.2
def VB(dst:Nat)(pin:List Nat)(news:List (Nat×Nat×Nat)):(ps:kT)→PV ps→List (Nat×Nat×ag)
 |[],_=>[]
 |(.q i j,s)::r,v=>(i,j,yZ dst pin news (.q i j) s v.1)::VB dst pin news r v.2
 |(.r _,_)::r,v=>VB dst pin news r v.2
 |(.l _ _,_)::r,v=>VB dst pin news r v.2
def SR(dst:Nat)(pin:List Nat)(news:List (Nat×Nat×Nat))(ps:kT)(v:PV ps):List (Nat×ab):=K8 dst pin news ps v++(Yh ps ps).map fun p=>(p.1,.agg (qsh (VB dst pin news ps v) p.1 0 p.2))
def rp(dst:Nat)(pin:List Nat):(ps:kT)→PV ps→List (Nat×jG)
 |[],_=>[]
 |(p,s)::r,v=>(match s.arr v.1 with|some A=>(bif eU p.key pin then rp dst pin r v.2 else(nmO dst p.key,A)::rp dst pin r v.2)|none=>rp dst pin r v.2)
def oI(pin:List Nat)(b:AL):(ps:kT)→PV ps→List (Nat×jG)
 |[],_=>[]
 |(p,s)::r,v=>(match s.arr v.1 with|some A=>(bif eU p.key pin then(match look b p.key with|some (some a,_)=>(a,A)::oI pin b r v.2|_=>oI pin b r v.2) else oI pin b r v.2)|none=>oI pin b r v.2)
def vW(tl:List (Nat×Nat×ag))(cs:kT)(o:Nat):Nat→List ag→List ag
 |_,[]=>[]
 |j,l::r=>(match dV tl o j with|some x=>x|none=>bif zb o j cs then l else .any)::vW tl cs o (j+1) r
def LX(tl:List (Nat×Nat×ag))(k:Nat):Nat→Nat→List ag
 |_,0=>[]
 |j,n+1=>(match dV tl k j with|some x=>x|none=>.any)::LX tl k (j+1) n
def KK(b:AL):List Nat:=b.filterMap (·.2.1)
def vU(pin:List Nat)(b:AL):AL:=b.filter fun e=>!eU e.1 pin
def DU(pin:List Nat)(b:AL):AL:=b.filter fun e=>eU e.1 pin
def Im(dst:Nat)(L:pW)(told:kT)(o:PV told)(news:List (Nat×Nat×Nat))(a b:AL)(st:St):St:=
 {st with
  ER:=(KK (a++DU L.pin b)).map (fun k=>(k,st.dA k+1))++st.ER
  cg:=(news.map fun p=>(p.2.2,LX (jg dst L.pin news told o) p.1 0 p.2.1))++((L.cg.map fun p=>(p.1,vW (jg dst L.pin news told o) L.cs p.1 0 ((st.dL p.1).getD [])))++st.cg)
  cM:=rp dst L.pin told o++(oI L.pin b told o++kW (KK b) st.cM)}
def OG:ab→Bool×List ag
 |.one (.eV t d)=>(t.agg,jO t d)
 |.one l=>(false,[l])
 |.agg ls=>(true,ls)
 |_=>(false,[.any])
def QF(l:List (Nat×ab))(i:Nat):ab:=match look l i with|some v=>v|none=>.one .any
def afM(l:List (Nat×ab)):List Nat→ab
 |[i]=>QF l i
 |is=>.Lg (is.map fun i=>OG (QF l i))
def V6(L:pW)(st:St):Bool:=
 L.cg.all fun p=>(List.range p.2).all fun j=>zb p.1 j L.cs ||(match (st.dL p.1).bind (·[j]?) with|some .ur=>false|_=>true)
def Ry(pin:List Nat)(b:AL)(st:St):Bool:=b.all fun e=>match e.2.1 with|some a=>(look st.fK a).isNone&&(eU e.1 pin||!eU a st.pin)|none=>true
def DW(dst:Nat)(L:pW)(told:kT)(o:PV told)(news:List (Nat×Nat×Nat))(st:St):Bool:=
 nX (told.map fun p=>p.1.key)&&(rp dst L.pin told o).all (fun p=>(st.arr p.1).isNone&&!st.cZ true p.1) &&
  news.all (fun p=>(st.dL p.2.2).isNone&&!st.cZ false p.2.2&&!Hv p.1 L.cg)&&nX (news.map (·.1))&&nX (news.map (·.2.2)) &&
  told.all (fun p=>match p.1 with | .r _=>true | .q _ _=>true | .l q _=>!acy p.1.key L.cs&&(Hv q L.cg||eU q (news.map (·.1)))) &&
  told.all (fun p=>match p.2 with | .lit (.np q _)=>Hv q L.cg||eU q (news.map (·.1))|_=>true)
where
 acy (k:Nat) (cs:kT):Bool:=eU k (cs.map fun p=>p.1.key)
abbrev DkO(W:Type):Type 1:=(R:Type)→W→((told:kT)→PV told→List (Nat×Nat×Nat)→List Nat→Option R)→(TypeId→List ag→Option R)→Option R
def ac6{W:Type}(dk:DkO W):Prop:=∀ x,(∃ told o news res,∀(R:Type) (f:(told:kT)→PV told→List (Nat×Nat×Nat)→List Nat→Option R) g,dk R x f g=f told o news res)∨
 ∃ T ls,∀(R:Type) (f:(told:kT)→PV told→List (Nat×Nat×Nat)→List Nat→Option R) g,dk R x f g=g T ls
def mP(L:pW){W:Type}(F:PV L.cs→PV L.vs→Option W)(dk:DkO W):iX where
 run dst args st K KP:=(match Y2 L args st with
  |none=>none
  |some e=>(bif V6 L e.st&&Ry L.pin e.b e.st then
    (F e.c e.v).bind fun x=>dk _ x (fun told o news res=>bif DW dst L told o news e.st then K (afM (SR dst L.pin news told o) res) (Im dst L told o news e.a e.b e.st) else none)
     (fun T ls=>KP (.Ak T ls) (Im dst L [] () [] e.a e.b e.st))
   else none))
 LH args st:=(L.cg.flatMap fun p=>((List.range p.2).filter fun j=>!zb p.1 j L.cs).map fun j=>pO.o p.1 j 1)++
  ((L.cg.flatMap fun p=>match st.dL p.1 with|some ls=>fH (st.jV p.1 0 ls)|none=>[])++nr args)
theorem Us(L:pW){W:Type}(F:PV L.cs→PV L.vs→Option W)(dk:DkO W)(hdk:ac6 dk):oS (mP L F dk):=by
 intro R dst args st K KP;simp only[mP];split
 ·rfl
 ·refine db (fF fun x=>?_) rfl
  rcases hdk x with ⟨told,o,news,res,h⟩|⟨T,ls,h⟩
  ·rw[h,h];exact db rfl rfl
  ·rw[h,h];rfl
end Go.Fx
