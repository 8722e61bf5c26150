/- Proved here: laws.FnEngineSteps returns true at every input (the tied card), no condition beyond the card. -/
import Derived.Test.YtooajghcoijkaaaGreatDoorFa
import Derived.MapKept
import Derived.Laws.BytesString
import Derived.Deep.MidRow
set_option linter.unusedVariables false
set_option linter.unusedSimpArgs false
set_option linter.unusedSectionVars false
set_option linter.defProp false
set_option maxRecDepth 100000
namespace Go.Fx
theorem Q0{A:jV}(h:A.md.lK .bA=true):A.md=.bA:=Md.xy h
section ops
variable {P:Program} {E:tr} (hE:iQ P E.iK) {X:mW} {w:World} {R:Type} {r:R}
include hE
set_option maxHeartbeats 2000000 in
theorem RC{st:St}{G:Gh}{T ty:TypeId}{dst b:Nat}{x:af}{vx vy:Value}{K:af→St→Option R}(h:rz E T dst x b st K=some r)(hm:aB X st G w)(hx:aU G x vx)(hy:aY G (.mX b) vy):
  ∃ av v st' G' w',(Builtin.append_ #[T,T] ty #[vx,vy]).run P w=.ok v w'∧aB X st' G' w'∧(∀ act,bQ G st act→bQ G' st' act)∧aU G' av v∧K av st' = some r:=by
 unfold rz at h;split at h
 ·rename_i s bb0 y' e z hT
  cases Ap:E.iK e with
  |none=>simp[Ap] at h
  |some ei=>
   simp only[Ap] at h;split at h
   ·rename_i t B hty hB LW
    cases hc:(Nat.beq ei.size t.size&&Nat.ble ei.bytes 16384&&!(B.sh||!Md.lK B.md .bA ||(look st.gc b).isSome||fk b st.pin||st.dj true dst)) with
    |false=>rw[hc] at h;cases h
    |true=>
     simp only[hc,aja] at h;simp only[Q3,aOa,aGa,bpa] at hc;obtain⟨⟨q1,q2⟩,⟨⟨⟨JR,hBm⟩,hBb⟩,hBp⟩,Ar⟩:=hc;have q1:=Q4 q1;have q2:=aZa q2;have hBb:look st.gc b=none:=by simpa using hBb
     split at h
     ·rename_i m F5
      obtain⟨ety,hm0⟩:=lX F5;have aeE:=Q0 hBm;obtain⟨Bt,Bmd,Bsh,Bl⟩:=B;simp only[Ty.slice.injEq] at ety;subst ety;simp only at hm0 JR aeE;subst hm0 JR aeE;have hu:=(hE T _ hT).slice;obtain⟨i,d,zz,i1,i2,i3,i4,i5,i6,i7,i8,i9,_⟩:=hE e ei Ap;have hzs:zz.cells.size=i.size:=by rw[i3,←i9,←i6];simp
      have PE:st.arr b=some ⟨Bt,.bA,false,m⟩:=su hB;have aga:=(ig rfl rfl).1 (hm.ar b _ PE);have hvy:vy=G.ψ b:=hy;have ZS:(∃ A,st.arr b=some A∧A.sh=false)∧fk b st.pin=false:=⟨⟨_,PE,rfl⟩,hBp⟩;have rU:(m=[]∧G.HA b=[]∧vy=.slice none 0 0)∨∃(bb cap:Nat) (arr:Array Value) (elem:TypeId) (cells:List Value) (rest:List Value) (H':gz),vy=.slice (some ⟨bb,0,none⟩) m.length cap∧G.HA b=(bb,Obj.cells arr elem (0,0))::H'∧
        RepL (gy G.S true Bt) cells m H'∧(∀ j u,cells[j]? = some u→w.cell? ((⟨bb,0,none⟩:Addr).add j)=some u):=by
       rcases aga with ⟨e1,e2,e3⟩|⟨bb,cap,arr,elem,cells,rest,H',e1,e2,e3,e4,e5,e6⟩
       ·simp only[aJa,a7a] at e3
        exact .inl ⟨e1,e2,hvy.trans e3⟩
       ·simp only[aJa,a7a] at e1
        have tY:=hm.ah b _ PE rfl (bb,Obj.cells arr elem (0,0)) (by rw[e2];simp)
        refine .inr ⟨bb,cap,arr,elem,cells,rest,H',hvy.trans e1,e2,e6,fun j u hj=>?_⟩;rw[bZa];exact ov (pre:=[]) tY (by simpa using e3) rfl j u hj
      have hnl:∀{news:List Value} {H:gz},RepL (gy G.S true Bt) news m H→news.length=m.length * i.size:=fun hr=>by rw[RepL.size (fun c x H hr=>gy.size hr) hr,i3,q1]
      have low:∀{q:Nat},((∃ A,st.arr q=some A∧A.sh=false)∧fk q st.pin=false)→∀ p∈G.HA q,p.1<w.heap.size∧w.heap[p.1]? = some p.2:=fun {q} hq p hp=>by obtain⟨⟨A,hA,hs⟩,_⟩:=hq;have:=hm.ah q A hA hs p hp;exact⟨gn this,this⟩
      have F0:∀(C:List Nat) (rr:List Bt.nM),b∈C→C.Nodup→(∀ c∈C,((∃ A,st.arr c=some A∧A.sh=false)∧fk c st.pin=false))→(∀ c∈C,look st.gc c=none)→(∀ c∈C,c≠b→G.HA c=[])→bE ([]:List Bt.nM) m=some rr→
        ∃ v G' w',(Builtin.append_ #[T,T] ty #[.slice none 0 0,vy]).run P w=.ok v w'∧aB X {st with cT:=(dst,⟨Bt,.bA,false,rr⟩)::lu C st.cT} G' w'∧(∀ act,bQ G st act→bQ G' {st with cT:=(dst,⟨Bt,.bA,false,rr⟩)::lu C st.cT} act)∧aU G' (.one (.mX dst)) v:=by
       intro C rr hbC hnC hC hCb hCe Lt;obtain⟨jB,ads⟩:=DI Lt;have adt:m=rr:=ads.symm;subst adt;rcases rU with ⟨rfl,hH,rfl⟩|⟨bb,cap,arr,elem,cells,rest,H',rfl,hH,Bi,rL⟩
       ·obtain⟨G',m',r',hv,_⟩:=hm.uo (w':=w) (dst:=dst) (C:=C) (A':=⟨Bt,.bA,false,[]⟩) (hd:=.slice none 0 0) (HH:=[]) (st':={st with cT:=(dst,⟨Bt,.bA,false,[]⟩)::lu C st.cT}) hC rfl rfl
         (.inl ⟨rfl,rfl,rfl⟩) cba (fun p hp=>by cases hp) (fun p hp=>by cases hp) (fun _ _ _=>rfl) (axa _) rfl rfl rfl (rQ.cT _ _) (yq hCb) LW Ar
        exact⟨_,G',w,oZ hu i1 none none 0 0 0 (axa _),m',r',hv⟩
       ·by_cases t6:0<m.length
        ·simp only[aza,aWa] at jB
         have h48:m.length * i.bytes≤281474976710656:=by
          have:m.length * i.bytes≤4294967296 * 16384:=cFa jB (by rw[i4];exact q2)
          omega
         have iM:=run_append_nil (P:=P) w T ty e i zz hu i1 i5 ⟨bb,0,none⟩ m.length cap cells (hnl Bi) rL t6 (by omega) h48
         have Lv:=grownCap_ge w m.length 0 e;let blk:Obj:=.cells (cells.toArray++Builtin.zeroCells zz.cells (grownCap w m.length 0 e - m.length)) e (0,0);have It:kA (RepL (gy G.S true Bt)) Bt.size [.slice (some ⟨w.heap.size,0,none⟩) m.length (grownCap w m.length 0 e)] m ((w.heap.size,blk)::H'):=
          .inr ⟨w.heap.size,grownCap w m.length 0 e,_,e,cells,(Builtin.zeroCells zz.cells (grownCap w m.length 0 e - m.length)).toList,H',rfl,rfl,by simp,by
           rw[b0a,cEa,hzs,bJa,hnl Bi,←bsa,i3,q1];exact bna _ (by omega),Lv,Bi⟩
         have Y5:=hm.nd b _ PE rfl;rw[hH,aHa,a3a] at Y5;obtain⟨G',m',r',hv,_⟩:=hm.drew.uo (w':=w.drew.alloc blk) (dst:=dst) (C:=C) (A':=⟨Bt,.bA,false,m⟩) (hd:=.slice (some ⟨w.heap.size,0,none⟩) m.length (grownCap w m.length 0 e)) (HH:=(w.heap.size,blk)::H')
          (st':={st with cT:=(dst,⟨Bt,.bA,false,m⟩)::lu C st.cT}) hC rfl rfl It
          (by
           rw[aHa,a3a];refine⟨fun ii=>?_,Y5.2⟩;obtain⟨p,hp,e⟩:=a0a.1 ii;have:=(low ZS p (by rw[hH];exact Q8 _ hp)).1
           simp only at e;omega)
          (fun p hp=>by
           rcases ala.1 hp with rfl|hp
           ·exact .inr (axa _)
           ·exact .inl ⟨b,hbC,p,by rw[hH];exact Q8 _ hp,rfl⟩)
          (fun p hp=>by
           rcases ala.1 hp with rfl|hp
           ·exact va w.drew _
           ·have:=low ZS p (by rw[hH];exact Q8 _ hp)
            rw[ja w.drew _ this.1];exact this.2)
          (fun b hb _=>ja w.drew _ hb) (by rw[tu];exact Nat.le_succ _) rfl rfl rfl (rQ.cT _ _) (yq hCb) LW Ar
         exact⟨_,G',_,iM,m',r',hv⟩
        ·have hm0:m=[]:=by cases m<;>simp at t6 ⊢
         subst hm0;obtain⟨G',m',r',hv,_⟩:=hm.uo (w':=w) (dst:=dst) (C:=C) (A':=⟨Bt,.bA,false,[]⟩) (hd:=.slice none 0 0) (HH:=[]) (st':={st with cT:=(dst,⟨Bt,.bA,false,[]⟩)::lu C st.cT}) hC rfl rfl
          (.inl ⟨rfl,rfl,rfl⟩) cba (fun p hp=>by cases hp) (fun p hp=>by cases hp) (fun _ _ _=>rfl) (axa _) rfl rfl rfl (rQ.cT _ _) (yq hCb) LW Ar
         exact⟨_,G',w,oZ hu i1 none _ 0 0 _ (axa _),m',r',hv⟩
      cases x with
      |agg ls=>simp[af.bR] at h
      |KN ls=>simp[af.bR] at h
      |Au t ls=>simp[af.bR] at h
      |one l=>
       simp only[af.bR] at h;cases l with
       |nil=>
        simp only at h;obtain⟨rr,PK,h⟩:=ata.1 h;have hvx:vx=.slice none 0 0:=hx;subst hvx;obtain⟨v,G',w',f1,f2,f3,f4⟩:=F0 [b] rr (Q7.2 rfl) (by simp) (fun c hc=>by rw[Q7.1 hc];exact ZS) (fun c hc=>by rw[Q7.1 hc];exact hBb) (fun c hc ik=>absurd (Q7.1 hc) ik) PK
        exact⟨_,v,_,G',w',f1,f2,f3,f4,h⟩
       |mX a=>
        simp only at h;cases hA:look st.cT a with
        |none=>simp[hA] at h
        |some A=>
         simp only[hA] at h;cases M4:(A.sh||!Md.lK A.md .bA ||(look st.gc a).isSome||fk a st.pin||Nat.beq a b) with
         |true=>simp[M4] at h
         |false=>
          simp only[M4,aoa] at h;simp only[aGa,bpa] at M4;obtain⟨⟨⟨⟨PD,hAm⟩,hAb⟩,Ok⟩,hab⟩:=M4;have hAb:look st.gc a=none:=by simpa using hAb
          have hab:a≠b:=fun e=>by rw[e] at hab;simp at hab
          cases M5:wc (.slice A.t) (.slice Bt) A.l with
          |none=>simp[M5] at h
          |some l=>
           simp only[M5] at h;obtain⟨ety,hl⟩:=lX M5;have YQ:=Q0 hAm;obtain⟨At,Amd,Ash,Al⟩:=A;simp only[Ty.slice.injEq] at ety;subst ety;simp only at hl PD YQ;subst hl PD YQ;obtain⟨rr,PK,hK⟩:=ata.1 h;have jW:st.arr a=some ⟨At,.bA,false,l⟩:=su hA;have tJ:=(ig rfl rfl).1 (hm.ar a _ jW);have hvx:vx=G.ψ a:=hx;have adR:(∃ A,st.arr a=some A∧A.sh=false)∧fk a st.pin=false:=⟨⟨_,jW,rfl⟩,Ok⟩;have hC:∀ c∈[a,b],(∃ A,st.arr c=some A∧A.sh=false)∧fk c st.pin=false:=fun c hc=>by
            simp only[ala,bXa,bca] at hc;rcases hc with rfl|rfl
            ·exact adR
            ·exact ZS
           have hCb:∀ c∈[a,b],look st.gc c=none:=fun c hc=>by
            simp only[ala,bXa,bca] at hc;rcases hc with rfl|rfl
            ·exact hAb
            ·exact hBb
           have hnC:[a,b].Nodup:=by simp[hab]
           have ab7:∀ p∈G.HA a,∀ p'∈G.HA b,p.1≠p'.1:=fun p hp p' As e=>by have:=hm.qw (true,a) (true,b) p.1 ⟨⟨_,jW,rfl⟩,p,hp,rfl⟩ ⟨⟨_,PE,rfl⟩,p',As,e.symm⟩;simp only[aia,aYa] at this;exact hab this
           rcases tJ with ⟨e1,e2,e3⟩|⟨ba,cap,arr,elem,cells,rest,Ha,e1,e2,e3,e4,e5,e6⟩
           ·simp only at e1
            subst e1;simp only[aJa,a7a] at e3;rw[hvx,e3];obtain⟨v,G',w',f1,f2,f3,f4⟩:=F0 [a,b] rr (by simp) hnC hC hCb (fun c hc ik=>by
             simp only[ala,bXa,bca] at hc;rcases hc with rfl|rfl
             ·exact e2
             ·exact absurd rfl ik) PK
            exact⟨_,v,_,G',w',f1,f2,f3,f4,hK⟩
           ·simp only[aJa,a7a] at e1
            rw[hvx,e1];obtain⟨jB,rfl⟩:=DI PK;have e6:RepL (gy G.S true At) cells l Ha:=e6;have e4:cap * At.size≤arr.size:=e4;have e5:l.length≤cap:=e5;have tY:=hm.ah a _ jW rfl (ba,Obj.cells arr elem (0,0)) (by rw[e2];simp)
            have mH:cells.length=l.length * At.size:=RepL.size (fun c x H hr=>gy.size hr) e6;have aeZ:=hm.nd a _ jW rfl;have Y4:=aeZ;rw[e2,aHa,a3a] at Y4;rcases Nat.eq_zero_or_pos m.length with hm0|t6
            ·have hm0:m=[]:=cCa hm0
             subst hm0;rw[bha] at hK;obtain⟨xb,xc,agG⟩:∃ xb xc,vy=.slice xb 0 xc:=by
              rcases rU with ⟨_,_,e⟩|⟨bb,cap,_,_,_,_,_,e,_⟩
              ·exact⟨_,_,e⟩
              ·exact⟨_,_,e⟩
             obtain⟨G',m',r',hv,_⟩:=hm.uo (w':=w) (dst:=dst) (C:=[a,b]) (A':=⟨At,.bA,false,l⟩) (hd:=.slice (some ⟨ba,0,none⟩) l.length cap) (HH:=G.HA a) (st':={st with cT:=(dst,⟨At,.bA,false,l⟩)::lu [a,b] st.cT}) hC rfl rfl
              (.inr ⟨ba,cap,arr,elem,cells,rest,Ha,rfl,e2,e3,e4,e5,e6⟩) aeZ (fun p hp=>.inl ⟨a,by simp,p,hp,rfl⟩) (fun p hp=>(low adR p hp).2) (fun _ _ _=>rfl) (axa _) rfl rfl rfl (rQ.cT _ _) (yq hCb) LW Ar
             exact⟨_,_,_,G',w,by rw[agG];exact oZ hu i1 _ _ _ _ _ e5,m',r',hv,hK⟩
            ·rcases rU with ⟨hm0,_,_⟩|⟨bb,aeg,ahh,ag8,news,ag9,Hb,rfl,hHb,Bi,rL⟩
             ·rw[hm0] at t6;simp at t6
             have Y5:=hm.nd b _ PE rfl;rw[hHb,aHa,a3a] at Y5;have inB:∀ p∈Hb,p∈G.HA b:=fun p hp=>by rw[hHb];exact Q8 _ hp
             have inA:∀ p∈Ha,p∈G.HA a:=fun p hp=>by rw[e2];exact Q8 _ hp
             have acl:((Ha++Hb).map (·.1)).Nodup:=by rw[bwa,bba];refine⟨Y4.2,Y5.2,fun x1 h1 x2 h2 e=>?_⟩;obtain⟨p,hp,rfl⟩:=a0a.1 h1;obtain⟨p',As,rfl⟩:=a0a.1 h2;exact ab7 p (inA p hp) p' (inB p' As) e
             have Zy:∀ p∈Ha++Hb,p.1<w.heap.size∧w.heap[p.1]? = some p.2:=fun p hp=>by
              rcases ana.1 hp with hp|hp
              ·exact low adR p (inA p hp)
              ·exact low ZS p (inB p hp)
             have YM:∀ p∈Ha++Hb,∃ c∈[a,b],∃ q∈G.HA c,q.1=p.1:=fun p hp=>by
              rcases ana.1 hp with hp|hp
              ·exact⟨a,by simp,p,inA p hp,rfl⟩
              ·exact⟨b,by simp,p,inB p hp,rfl⟩
             by_cases Nd:l.length+m.length≤cap
             ·have xB:0+l.length * i.size+news.length≤arr.size:=by
               rw[hnl Bi,aWa,←bsa,i3,q1];exact bGa (bna _ Nd) e4
              have hth:=BL tY xB;have iM:=run_append_room_cells (P:=P) w T ty e i hu i1 ba 0 l.length cap ⟨bb,0,none⟩ m.length aeg news (hnl Bi) rL (RepL.one (fun c x H hr=>gy.one hr) Bi) Nd
               (fun j hj=>(hth j hj).1) (fun j hj=>(hth j hj).2)
              obtain⟨arr',g1,g2,g3,g4,g5,g6,g7⟩:=ot ba news (0+l.length * i.size) w tY xB;have Rl:arr'.toList=(cells++news)++arr.toList.drop (0+l.length * i.size+news.length):=by
               rw[g2];have:arr.toList.take (0+l.length * i.size)=cells:=by rw[e3,aWa,i3,q1,←mH];simp
               rw[this];simp
              have Zc:arr'.size=arr.size:=by rw[←bga,g2];simp;omega
              have ik:∀ p∈Ha++Hb,p.1≠ba:=fun p hp e=>by
               rcases ana.1 hp with hp|hp
               ·exact Y4.1 (by show ba∈_;rw[←e];exact aIa (f:=(·.1)) hp)
               ·exact ab7 (ba,Obj.cells arr elem (0,0)) (by rw[e2];simp) p (inB p hp) e.symm
              obtain⟨G',m',r',hv,_⟩:=hm.uo (w':=w.setCells ba (0+l.length * i.size) news) (dst:=dst) (C:=[a,b]) (A':=⟨At,.bA,false,l++m⟩) (hd:=.slice (some ⟨ba,0,none⟩) (l++m).length cap) (HH:=(ba,Obj.cells arr' elem (0,0))::(Ha++Hb)) (st':={st with cT:=(dst,⟨At,.bA,false,l++m⟩)::lu [a,b] st.cT}) hC rfl rfl
               (.inr ⟨ba,cap,arr',elem,cells++news,_,Ha++Hb,rfl,rfl,Rl,by rw[Zc];exact e4,by simpa using Nd,e6.append Bi⟩)
               (by
                rw[aHa,a3a];refine⟨fun ii=>?_,acl⟩;obtain⟨p,hp,e⟩:=a0a.1 ii;exact ik p hp e)
               (fun p hp=>by
                rcases ala.1 hp with rfl|hp
                ·exact .inl ⟨a,by simp,(ba,Obj.cells arr elem (0,0)),by rw[e2];simp,rfl⟩
                ·exact .inl (YM p hp))
               (fun p hp=>by
                rcases ala.1 hp with rfl|hp
                ·exact g1
                ·rw[g3 _ (ik p hp)];exact(Zy p hp).2)
               (fun k hk hn=>g3 k fun e=>hn a (by simp) (ba,Obj.cells arr elem (0,0)) (by rw[e2];simp) e.symm) (by rw[g4];exact axa _) g5 g6 g7 (rQ.cT _ _) (yq hCb) LW Ar
              simp only[aua] at hv;exact⟨_,_,_,G',_,iM,m',r',hv,hK⟩
             ·have holds:∀ j u,cells[j]? = some u→w.cell? ((⟨ba,0,none⟩:Addr).add j)=some u:=fun j u hj=>by
               rw[bZa];exact ov (pre:=[]) tY (by simpa using e3) rfl j u hj
              have hby:(l.length+m.length) * i.bytes≤140737488355328:=by
               have:(l.length+m.length) * i.bytes≤4294967296 * 16384:=cFa jB (by rw[i4];exact q2)
               omega
              have xB:=growslice_fits (need:=l.length+m.length) (old:=cap) (bytes:=i.bytes) (by omega) hby
              have iM:=run_append_grow (P:=P) w T ty e i zz hu i1 i5 ⟨ba,0,none⟩ l.length cap cells (by rw[mH,i3,q1]) holds ⟨bb,0,none⟩ m.length aeg news (hnl Bi) rL (by omega) (by omega) xB
              have Lv:=grownCap_ge w (l.length+m.length) cap e;let blk:Obj:=.cells (cells.toArray++news.toArray++Builtin.zeroCells zz.cells (grownCap w (l.length+m.length) cap e - (l.length+m.length))) e (0,0);have It:kA (RepL (gy G.S true At)) At.size [.slice (some ⟨w.heap.size,0,none⟩) (l++m).length (grownCap w (l.length+m.length) cap e)] (l++m) ((w.heap.size,blk)::(Ha++Hb)):=
               .inr ⟨w.heap.size,grownCap w (l.length+m.length) cap e,_,e,cells++news,(Builtin.zeroCells zz.cells (grownCap w (l.length+m.length) cap e - (l.length+m.length))).toList,Ha++Hb,rfl,rfl,by simp,by
                rw[b0a,b0a,cEa,hzs,bJa,bJa,hnl Bi,mH,i3,q1,←bsa,←bsa];exact bna _ (by omega),by simpa using Lv,e6.append Bi⟩
              obtain⟨G',m',r',hv,_⟩:=hm.drew.uo (w':=w.drew.alloc blk) (dst:=dst) (C:=[a,b]) (A':=⟨At,.bA,false,l++m⟩) (hd:=.slice (some ⟨w.heap.size,0,none⟩) (l++m).length (grownCap w (l.length+m.length) cap e)) (HH:=(w.heap.size,blk)::(Ha++Hb))
               (st':={st with cT:=(dst,⟨At,.bA,false,l++m⟩)::lu [a,b] st.cT}) hC rfl rfl It
               (by
                rw[aHa,a3a];refine⟨fun ii=>?_,acl⟩;obtain⟨p,hp,e⟩:=a0a.1 ii;have:=(Zy p hp).1;simp only at e;omega)
               (fun p hp=>by
                rcases ala.1 hp with rfl|hp
                ·exact .inr (axa _)
                ·exact .inl (YM p hp))
               (fun p hp=>by
                rcases ala.1 hp with rfl|hp
                ·exact va w.drew _
                ·have:=Zy p hp
                 rw[ja w.drew _ this.1];exact this.2)
               (fun b hb _=>ja w.drew _ hb) (by rw[tu];exact Nat.le_succ _) rfl rfl rfl (rQ.cT _ _) (yq hCb) LW Ar
              simp only[aua] at hv;exact⟨_,_,_,G',_,iM,m',r',hv,hK⟩
       |_=>simp at h
     ·cases h
   ·cases h
 ·cases h
theorem RD{st:St}{G:Gh}{T ty:TypeId}{dst:Nat}{x y:af}{vx vy:Value}{K:af→St→Option R}(h:rA E T dst x y st K=some r)(hm:aB X st G w)(hx:aU G x vx)(hy:aU G y vy)(hwx:GL st x)(hwy:GL st y):
  ∃ av v st' G' w',(Builtin.append_ #[T,T] ty #[vx,vy]).run P w=.ok v w'∧aB X st' G' w'∧(∀ act,bQ G st act→bQ G' st' act)∧aU G' av v∧K av st' = some r:=by
 unfold rA at h;split at h
 ·rename_i b hb
  unfold Yz at hb;split at hb
  ·rename_i b' hl
   have hye:y=.one (.mX b'):=by cases y<;>simp[af.bR] at hl;rw[hl]
   split at hb
   ·rename_i B hB
    cases hc:(!B.sh&&Md.lK B.md .bA) with
    |false=>simp[hc] at hb
    |true=>simp only[hc,aja,Ob] at hb;subst hb;rw[hye] at hy;exact RC hE h hm hx hy
   ·cases hb
  ·cases hb
 ·split at h
  ·rename_i a v sz i off hl
   have PL:x=.one (.E5 a v sz i off):=by cases x<;>simp[af.bR] at hl;rw[hl]
   cases hc:(Nat.beq v (st.dH a)&&Nat.blt off sz&&R1 st a sz) with
   |false=>rw[hc] at h;cases h
   |true=>
    rw[hc,aja] at h;simp only[Q3] at hc;obtain⟨⟨hv,UJ⟩,m9⟩:=hc;obtain rfl:=Q4 hv;rw[b5a] at UJ;unfold R1 at m9;split at m9
    ·rename_i A hA
     obtain rfl:=Q4 m9;obtain⟨s1,G1,O,h⟩:=RN h hm;obtain⟨b1,b2,b3,b4,b5,b6,b7⟩:=O.iZ;have adv:s1.dH a=st.dH a:=by simp only[St.dH,b7]
     have ht:∀ off u,off<A.t.size→vX G1 a (st.dH a) A.t.size i off u→u=G1.ψ (LC a (st.dH a) off):=fun off u ho hu=>O.abO A off u hA ho hu;obtain⟨m2,h⟩:=T9 h O.Gf (by rw[adv];exact ht)
     generalize hs2:({s1 with cp:=(p9 s1.cp []).map fun p=>(p.1,p.2.map (qU a (s1.dH a) A.t.size))}:St)=s2 at m2 h
     have hx1:aU G1 (.one (.mX (LC a (st.dH a) off))) vx:=by have:=O.val x vx hwx hx;rw[PL] at this;exact ht off vx UJ this
     obtain⟨av,v,st',G',w',k1,k2,k3,k4,k5⟩:=KC hE (ty:=ty) h m2 hx1 (O.val y vy hwy hy);refine⟨av,v,st',G',w',k1,k2,fun act ra=>k3 act ?_,k4,k5⟩;have r1:=O.eH act ra;rw[←hs2];exact⟨r1.1,r1.2.1,r1.2.2⟩
    ·cases m9
  ·exact KC hE h hm hx hy
theorem Jb{S:Du}:∀{t:Ty} {d:t.nM} {cs:List Value} {H:gz} {off:Nat} {n:Int},t.sy=true→gy S true t cs d H→C9 t d off=some n→∃ b k c,cs[off]? = some (.slice b k c)∧n=(k:Int)
 |.slice u,d,cs,H,off,n,_,h,hn=>by
  cases off with
  |succ k=>simp[C9] at hn
  |zero=>
   simp only[C9,Ob] at hn;rcases h with ⟨e1,_,e⟩|⟨b,cap,arr,elem,cells,rest,H',e,_⟩
   ·subst e;exact⟨none,0,0,rfl,by rw[←hn,e1];rfl⟩
   ·subst e;exact⟨_,_,_,rfl,hn.symm⟩
 |.dg a b,d,cs,H,off,n,hna,h,hn=>by
  simp only[Ty.sy,Q3] at hna;obtain⟨c1,c2,H1,H2,rfl,rfl,h1,h2⟩:=h;have hl:=gy.size h1;simp only[C9] at hn;cases hb:Nat.blt off a.size with
  |true=>simp only[hb,aja] at hn;rw[b5a] at hb;obtain⟨bb,k,c,g1,g2⟩:=Jb hna.1 h1 hn;exact⟨bb,k,c,by rw[aUa (by omega)];exact g1,g2⟩
  |false=>
   simp only[hb,aoa] at hn;have hb:¬ off<a.size:=fun h=>by
    have:Nat.blt off a.size=true:=by rw[b5a];exact h
    rw[this] at hb;cases hb
   obtain⟨bb,k,c,g1,g2⟩:=Jb hna.2 h2 hn;exact⟨bb,k,c,by rw[aSa (by omega),hl];exact g1,g2⟩
 |.one a,d,cs,H,off,n,hna,h,hn=>by exact Jb (t:=a) hna h hn
 |.int _,_,_,_,off,_,_,_,hn=>by cases off<;>simp[C9] at hn
 |.bool,_,_,_,off,_,_,_,hn=>by cases off<;>simp[C9] at hn
 |.str,_,_,_,off,_,_,_,hn=>by cases off<;>simp[C9] at hn
 |.arr _ _,_,_,_,_,_,hna,_,_=>by cases hna
end ops
end Go.Fx
namespace Go.Fx
def Kn(e:MapEntry)(p:ab×Int):Prop:=e.key=kz p.1∧e.val=.int .i64 p.2
theorem MN{S:Du}:∀{es:List MapEntry} {l:List (ab×Int)} {H:gz},RepL (gy S false mpT) (es.flatMap fun e=>[e.key,e.val]) l H→All2 Kn es l
 |[],[],_,_=>trivial
 |[],p::l,H,⟨c1,c2,H1,H2,e1,_,r,_⟩=>by have:=gy.size r;have e:c1=[]:=(bYa.1 e1.symm).1;rw[e] at this;cases this
 |e::es,[],H,h=>by cases h.1
 |e::es,p::l,H,⟨c1,c2,H1,H2,e1,_,r,rl⟩=>by obtain⟨d1,d2,K1,K2,rfl,_,r1,r2⟩:=r;have h1:d1=[kz p.1]:=r1.1;have h2:d2=[.int .i64 p.2]:=r2.1;subst h1 h2;simp only[bSa,a4a,aVa,aJa] at e1;obtain⟨g1,g2,rfl⟩:=e1;exact⟨⟨g1,g2⟩,MN rl⟩
theorem NY{S:Du}:∀{es:List MapEntry} {l:List (ab×Int)},All2 Kn es l→RepL (gy S false mpT) (es.flatMap fun e=>[e.key,e.val]) l []
 |[],[],_=>⟨rfl,rfl⟩
 |e::es,p::l,h=>by refine⟨[e.key,e.val],_,[],[],rfl,rfl,⟨[kz p.1],[.int .i64 p.2],[],[],?_,rfl,⟨rfl,rfl⟩,⟨rfl,rfl⟩⟩,NY h.2⟩;rw[h.1.1,h.1.2];rfl
 |[],_::_,h=>h.elim
 |_::_,[],h=>h.elim
theorem aaq{a b:ab}(h:kz a=kz b):a=b:=by simp only[kz,Value.string.injEq,ByteArray.mk.injEq] at h;exact List.toArray_inj h
theorem aah(a b:ab):Instr.sameNow .string (kz a) (kz b)=some (decide (b=a)):=by
 obtain⟨r,h1,h2⟩:=MapKept.sameNow_of_keys (d:=.string) (a:=kz a) (b:=kz b) trivial trivial;rw[h1];congr 1
 by_cases e:b=a
 ·subst e;simp[h2.2 rfl]
 ·have:r≠true:=fun hr=>e (aaq (h2.1 hr)).symm
  simp[e,this]
theorem JK{s:ab}:∀{es:List MapEntry} {l:List (ab×Int)} {i:Nat},All2 Kn es l→
  (Instr.findNow .string (kz s) es i=some none∧qL l s=0∧∀ v,ry l s v=l++[(s,v)])∨
  ∃ j v e,Instr.findNow .string (kz s) es i=some (some (i+j,.int .i64 v))∧qL l s=v∧es[j]? = some e∧e.key=kz s∧∀ u,ry l s u=l.set j (s,u)
 |[],[],i,_=>.inl ⟨rfl,rfl,fun _=>rfl⟩
 |e::es,p::l,i,h=>by
  obtain⟨⟨hk,hv⟩,ht⟩:=h;have hs:=aah s p.1;rw[←hk] at hs;by_cases hp:p.1=s
  ·simp only[hp,decide_true] at hs
   exact .inr ⟨0,p.2,e,by simp[Instr.findNow,hs,hv],by simp[qL,hp],rfl,by rw[hk,hp],fun u=>by simp[ry,hp]⟩
  ·simp only[hp,cja] at hs
   rcases JK (s:=s) (i:=i+1) ht with ⟨h1,h2,h3⟩|⟨j,v,e',h1,h2,h3,h4,h5⟩
   ·exact .inl ⟨by simp[Instr.findNow,hs,h1],by simp[qL,hp,h2],fun v=>by simp[ry,hp,h3]⟩
   ·exact .inr ⟨j+1,v,e',by simp[Instr.findNow,hs,h1];omega,by simp[qL,hp,h2],by simpa using h3,h4,fun u=>by simp[ry,hp,h5]⟩
 |[],_::_,_,h=>h.elim
 |_::_,[],_,h=>h.elim
theorem aaQ{es:List MapEntry}{l:List (ab×Int)}(h:All2 Kn es l){j:Nat}{e:MapEntry}{p:ab×Int}(he:Kn e p):All2 Kn (es.set j e) (l.set j p):=by
 induction es generalizing l j with
 |nil=>cases l with
  |nil=>simp[All2]
  |cons=>exact h.elim
 |cons x es ih=>cases l with
  |nil=>exact h.elim
  |cons y l=>
   cases j with
   |zero=>exact⟨he,h.2⟩
   |succ j=>exact⟨h.1,ih h.2⟩
section ops
variable {P:Program} {E:tr} (hE:iQ P E.iK) {X:mW} {st:St} {G:Gh} {w:World} {R:Type} {r:R}
include hE
theorem V0{T:TypeId}(h:KA E T=true):∃ k v j,P.underlying T=some (.map k v)∧P.underlying k=some .string∧P.underlying v=some (.int .i64)∧P.info? v=some j∧j.zero=some (.int .i64 0):=by
 unfold KA at h;split at h
 ·rename_i s b y k v z hT
  obtain⟨i,d,zz,i1,i2,i3,i4,i5,i6,i7,i8,i9,i10,i11⟩:=hE T _ hT;obtain⟨j1,j2,j,j3,j4⟩:=i11 k v rfl;cases d with
  |map k' v'=>obtain⟨rfl,rfl⟩:=i7;exact⟨k,v,j,i2,j1,j2,j3,j4⟩
  |_=>exact i7.elim
 ·cases h
theorem RG{T:TypeId}{dst:Nat}{K:af→St→Option R}(h:rB E T dst st K=some r)(hm:aB X st G w):
  ∃ av v st' G' w',(Instr.makeMap T none).run P w=.ok v w'∧aB X st' G' w'∧(∀ act,bQ G st act→bQ G' st' act)∧aU G' av v∧K av st' = some r:=by
 unfold rB at h;split at h
 ·rename_i ha
  cases hc:(KA E T&&!st.dj true dst) with
  |false=>rw[hc] at h;cases h
  |true=>
   rw[hc,aja] at h;simp only[Q3,aOa] at hc;obtain⟨G2,m2,r2,F6,_⟩:=hm.Nm (w':=w.alloc (.map #[] 0)) (dst:=dst) (C:=[]) (A':=⟨mpT,.mp,false,[]⟩) (hd:=.map (some w.heap.size)) (HH:=[(w.heap.size,.map #[] 0)])
    (st':=st.gW dst ⟨mpT,.mp,false,[]⟩) (fun c hc=>by cases hc) rfl (.inr (.inl ⟨_,rfl⟩)) (fun G' e1 e2 e3=>⟨w.heap.size,#[],0,e2,e3,rfl,rfl⟩) (by simp)
    (fun p hp=>by rw[Q7.1 hp];exact .inr (axa _)) (fun p hp=>by rw[Q7.1 hp];exact va w _)
    (fun b hb _=>ja w _ hb) (by rw[tu];omega) rfl rfl rfl ⟨rfl,fun _=>rfl,fun _=>rfl,fun o j l=>by simp,rfl,rfl,rfl⟩
    (fun q=>by rw[dM];by_cases e:dst=q<;>simp[e,cfa (a:=q)]) ha hc.2
   exact⟨_,_,_,G2,_,rfl,m2,r2,F6,h⟩
 ·cases h
theorem ZF{a:Nat}{A:jV}(hm:aB X st G w)(hA:st.arr a=some A)(hs:A.sh=false)(vm:A.md=.mp){l:List (ab×Int)}(hc:wc (.slice A.t) (.slice mpT) A.l=some l):
  ∃ b es yv,G.ψ a=.map (some b)∧G.HA a=[(b,Obj.map es yv)]∧w.heap[b]? = some (.map es yv)∧All2 Kn es.toList l:=by
 obtain⟨ety,hl⟩:=lX hc;obtain⟨At,Amd,Ash,Al⟩:=A;simp only[Ty.slice.injEq] at ety;subst ety;simp only at hl hs vm;subst hl hs vm;obtain⟨b,es,yv,e1,e2,e3⟩:=hm.ar a _ hA;have tY:=hm.ah a _ hA rfl (b,Obj.map es yv) (by rw[e2];simp)
 exact⟨b,es,yv,e1,e2,tY,MN e3⟩
theorem Tv{T:TypeId}{x k:af}{vx vk:Value}{K:af→St→Option R}(h:uz E T x k st K=some r)(hm:aB X st G w)(hx:aU G x vx)(hk:aU G k vk):
  ∃ av v,(Instr.lookup T vx vk false).run P w=.ok v w∧aU G av v∧K av st=some r:=by
 unfold uz at h;split at h
 ·rename_i a s hl hs
  have PL:x=.one (.mX a):=by cases x<;>simp[af.bR] at hl;rw[hl]
  rw[PL] at hx;have hx:vx=G.ψ a:=hx;cases Da hs hk;split at h
  ·rename_i A hA
   cases hc:(KA E T&&!A.sh&&Md.lK A.md .mp) with
   |false=>rw[hc] at h;cases h
   |true=>
    rw[hc,aja] at h;simp only[Q3,aOa] at hc;obtain⟨⟨hT,dz⟩,vm⟩:=hc;split at h
    ·rename_i l mH
     obtain⟨kt,vt,j,u1,u2,u3,u4,u5⟩:=V0 hE hT;obtain⟨b,es,yv,e1,e2,e3,e4⟩:=ZF hE hm hA dz (Md.xy vm) mH;have He:∀ em,(Instr.checkKey em 10000 kt (kz s)).run P w=.ok () w:=fun em=>MapKept.run_checkKey u2 (k:=kz s) trivial em 9999;rcases JK (s:=s) (i:=0) e4 with ⟨h1,h2,_⟩|⟨j',v,e,h1,h2,_⟩
     ·refine⟨_,.int .i64 (qL l s),?_,kX _ _,h⟩
      rw[hx,e1,h2];simp[Instr.lookup,aEa u1,b7a e3,He,cga u2 h1,zeroValue,typeInfo,u4,u5,Result.andThen]
     ·refine⟨_,.int .i64 (qL l s),?_,kX _ _,h⟩
      rw[hx,e1,h2];simp[Instr.lookup,aEa u1,b7a e3,He,cga u2 h1,Result.andThen]
    ·cases h
  ·cases h
 ·cases h
theorem NM{T:TypeId}{x k v:af}{vx vk vv:Value}{K:af→St→Option R}(h:oa E T x k v st K=some r)(hm:aB X st G w)(hx:aU G x vx)(hk:aU G k vk)(hv:aU G v vv):
  ∃ st' G' w',(Instr.mapUpdate T vx vk vv).run P w=.ok () w'∧aB X st' G' w'∧(∀ act,bQ G st act→bQ G' st' act)∧K (.one .vU) st' = some r:=by
 unfold oa at h;split at h
 ·rename_i a s n hl hs hn
  have PL:x=.one (.mX a):=by cases x<;>simp[af.bR] at hl;rw[hl]
  rw[PL] at hx;have hx:vx=G.ψ a:=hx;cases Da hs hk;cases qG hn hv;split at h
  ·rename_i A hA
   cases hc:(KA E T&&!A.sh&&Md.lK A.md .mp) with
   |false=>rw[hc] at h;cases h
   |true=>
    rw[hc,aja] at h;simp only[Q3,aOa] at hc;obtain⟨⟨hT,dz⟩,vm⟩:=hc;split at h
    ·rename_i l mH
     obtain⟨kt,vt,j,u1,u2,u3,u4,u5⟩:=V0 hE hT;have jW:=su hA;obtain⟨b,es,yv,e1,e2,e3,e4⟩:=ZF hE hm jW dz (Md.xy vm) mH;have He:∀ em,(Instr.checkKey em 10000 kt (kz s)).run P w=.ok () w:=fun em=>MapKept.run_checkKey u2 (k:=kz s) trivial em 9999;have agJ:∃ es' JF,(Instr.mapUpdate T (.map (some b)) (kz s) (.int .i64 n)).run P w=.ok () {w with heap:=w.heap.setIfInBounds b (.map es' JF)}∧All2 Kn es'.toList (ry l s n):=by
      rcases JK (s:=s) (i:=0) e4 with ⟨h1,_,h3⟩|⟨j',u,e,h1,_,h3,h4,h5⟩
      ·refine⟨es.push {key:=kz s,val:=.int .i64 n,born:=yv},yv+1,?_,?_⟩
       ·simp[Instr.mapUpdate,aEa u1,b7a e3,He,cga u2 h1,MapKept.run_setObj_map _ e3,Result.andThen]
       ·rw[h3,Array.toList_push]
        exact e4.append ⟨⟨rfl,rfl⟩,trivial⟩
      ·refine⟨es.modify j' fun e=>{e with key:=kz s,val:=.int .i64 n},yv,?_,?_⟩
       ·rw[aWa] at h1
        have ags:((es[j']?).map (·.key)).getD (kz s)=kz s:=by rw[←bza,h3];exact h4
        have xD:(Instr.keyThatStays (kz s) (kz s)).run P w=.ok (kz s) w:=MapKept.run_keyThatStays (d:=.string) (k:=kz s) trivial;simp only[Instr.mapUpdate,aNa,aEa u1,aFa,b7a e3,He,cga u2 h1,ags,xD,MapKept.run_setObj_map _ e3]
       ·rw[h5]
        have:(es.modify j' fun e=>{e with key:=kz s,val:=.int .i64 n}).toList=es.toList.set j' {e with key:=kz s,val:=.int .i64 n}:=by
         apply bKa;intro i;rw[bza,cwa,cMa];by_cases hi:j' = i
         ·subst hi
          have bf:=(ama.1 h3).1;rw[bza] at h3;simp only[ava,h3,bLa,bf]
         ·simp only[hi,aka,bza]
        rw[this];exact aaQ e4 ⟨rfl,rfl⟩
     obtain⟨es',JF,iM,agk⟩:=agJ;obtain⟨hs1,hs2⟩:=MapKept.heap_set (o':=.map es' JF) e3;let G1:Gh:={G with HA:=fun q=>if q=a then [(b,Obj.map es' JF)] else G.HA q}
     have OJ:fq G st (true,a) b:=⟨⟨A,jW,dz⟩,(b,Obj.map es yv),by rw[e2];simp,rfl⟩
     have Ol:wF X st (st.gW a ⟨mpT,.mp,false,ry l s n⟩) G G1 w {w with heap:=w.heap.setIfInBounds b (.map es' JF)} (fun y=>y=(true,a)) (fun y=>y=(true,a)) []:=by
      refine {
           n:=rfl,iz:=fun _=>rfl,bl:=rfl,pn:=rfl,S:=rfl,bR:=fun lf v _ hr=>aY.leF (G:=G) (G':=G1) (F:=[]) (fun _ _ h=>h) (fun _ _=>⟨rfl,rfl⟩) (fun q _=>⟨rfl,axa _,fun _ _=>rfl⟩) (by simp) hr,fm:=fun y hy=>(by cases hy),sl:=hm.sl,dT:=fun q ls hq=>.inr ⟨by simp,by simp,hq,rfl,rfl,rfl⟩,arr:=fun q B hq=>?_,
           gK:=fun y c hy hyo=>?_,qw:=fun y z c hy hz _ _=>hy.trans hz.symm,hv:=hm.hv,old:=fun c hc hn=>hs2 c fun e=>hn (true,a) rfl (by rw[e];exact OJ),sz:=by simp,os:=rfl,tp:=rfl,out:=rfl,U7:=fun q ls hq _=>⟨hq,by simp⟩,U6:=fun q B hp hq=>⟨?_,rfl⟩}
      ·rw[dM] at hq
       by_cases e:a=q
       ·subst e
        simp only[ava,Ob] at hq;subst hq;refine .inl ⟨rfl,⟨b,es',JF,e1,by simp[G1],NY agk⟩,fun _=>⟨fun p hp=>?_,by simp[G1],fun ik=>by simp[jV.nest] at ik⟩⟩
        simp only[G1,ava,Q7] at hp;rw[hp];exact hs1
       ·simp only[e,aka] at hq
        have ik:q≠a:=fun h=>e h.symm;exact .inr ⟨by simp[ik],hq,rfl,by simp[G1,ik],fun _=>by simp[ik],rfl,fun _ _ _=>⟨rfl,rfl,rfl⟩⟩
      ·subst hy
       obtain⟨_,p,hp,rfl⟩:=hyo;simp only[G1,ava,Q7] at hp;exact .inl ⟨(true,a),rfl,by rw[hp];exact OJ⟩
      ·rw[dM]
       by_cases e:a=q
       ·exact⟨_,by rw[a8a e]⟩
       ·exact⟨B,by rw[aBa e];exact hq⟩
     exact⟨_,G1,_,by rw[hx,e1];exact iM,Ol.ok hm,fun act=>Ol.eH,h⟩
    ·cases h
  ·cases h
 ·cases h
theorem SE{S:Du}{m:Bool}{t:Ty}:∀(n:Nat) {l r:List Value},MG (t8 t) n l=some r→∃ c,l=c++r∧RepL (gy S m t) c (List.replicate n (qe t)) []
 |0,l,r,h=>by simp only[MG,Ob] at h;subst h;exact⟨[],rfl,rfl,rfl⟩
 |n+1,l,r,h=>by
  simp only[MG] at h;cases h1:t8 t l with
  |none=>simp[h1] at h
  |some q=>simp only[h1] at h;obtain⟨c1,e1,g1⟩:=Fh (S:=S) (m:=m) h1;obtain⟨c2,e2,g2⟩:=SE n h;exact⟨c1++c2,by rw[e1,e2];simp,c1,c2,[],[],rfl,rfl,g1,g2⟩
theorem Tp{T:TypeId}{dst:Nat}{K:af→St→Option R}(h:sC E T dst st K=some r)(hm:aB X st G w){cs:Array Value}(hz:∀ ti,E.iK T=some ti→cs.toList=ti.zero):
  ∃ av st' G',aB X st' G' (w.alloc (.cells cs T))∧(∀ act,bQ G st act→bQ G' st' act)∧aU G' av (.pointer (some ⟨w.heap.size,0,none⟩))∧K av st' = some r:=by
 unfold sC at h;split at h
 ·rename_i ti hT ha
  split at h
  ·rename_i m e hd
   split at h
   ·rename_i t ht
    cases hc:(Nat.beq t.size 1&&!t.agg&&!st.dj true dst&&Zl (MG (t8 t) ti.size ti.zero)) with
    |false=>rw[hc] at h;cases h
    |true=>
     rw[hc,aja] at h;have M6:=hc;simp only[Q3,aOa] at M6;obtain⟨⟨⟨h1,h2⟩,h3⟩,h4⟩:=M6;have Ze:RepL (gy G.S false t) cs.toList (List.replicate ti.size (qe t)) []:=by
      cases hcz:MG (t8 t) ti.size ti.zero with
      |none=>rw[hcz] at h4;cases h4
      |some q=>
       cases q with
       |cons=>rw[hcz] at h4;cases h4
       |nil=>obtain⟨c,e1,g1⟩:=SE hE (S:=G.S) (m:=false) ti.size hcz;rw[bha] at e1;rw[hz ti hT,e1];exact g1
     obtain⟨G2,m2,r2,F6,_⟩:=hm.Nm (w':=w.alloc (.cells cs T)) (dst:=dst) (C:=[]) (A':=⟨t,.arr,false,List.replicate ti.size (qe t)⟩) (hd:=.pointer (some ⟨w.heap.size,0,none⟩)) (HH:=[(w.heap.size,.cells cs T)])
      (st':=st.gW dst ⟨t,.arr,false,List.replicate ti.size (qe t)⟩) (fun c hc=>by cases hc) rfl (.inr (.inr ⟨_,rfl⟩)) (fun G' e1 e2 e3=>⟨w.heap.size,cs,T,e2,e3,by rw[e1];exact Ze⟩) (by simp)
      (fun p hp=>by rw[Q7.1 hp];exact .inr (axa _)) (fun p hp=>by rw[Q7.1 hp];exact va w _)
      (fun b hb _=>ja w _ hb) (by rw[tu];omega) rfl rfl rfl ⟨rfl,fun _=>rfl,fun _=>rfl,fun o j l=>by simp,rfl,rfl,rfl⟩
      (fun q=>by rw[dM];by_cases e:dst=q<;>simp[e,cfa (a:=q)]) ha h3
     exact⟨_,_,G2,m2,r2,F6,h⟩
   ·cases h
  ·cases h
 ·cases h
end ops
end Go.Fx
namespace Go.Fx
theorem Kr{S:Du}{m:Bool}:∀{cs:List Value} {l:List Int} {H:gz},RepL (gy S m (.int .u8)) cs l H→cs=l.map (Value.int .u8)
 |cs,[],H,h=>h.1
 |cs,x::l,H,⟨c1,c2,H1,H2,e1,e2,r,rl⟩=>by rw[e1,Kr rl,show c1=[.int .u8 x] from r.1];rfl
theorem Xg(l:List Int):l.foldl (fun r n=>r.push (UInt8.ofNat n.toNat)) ByteArray.empty=⟨(l.map fun n=>UInt8.ofNat n.toNat).toArray⟩:=by
 have key:∀(l:List Int) (s:ByteArray),(l.foldl (fun r n=>r.push (UInt8.ofNat n.toNat)) s)=⟨(s.data.toList++l.map fun n=>UInt8.ofNat n.toNat).toArray⟩:=fun l=>by
  induction l with
  |nil=>intro s;simp
  |cons n l ih=>intro s;rw[b6a,ih];simp[ByteArray.push]
 rw[key];simp
theorem Qk{P:Program}{w:World}{S:Du}{b:Nat}{arr:Array Value}{elem:TypeId}{fz:Nat×Nat}{pre cells rest:List Value}{l:List Int}{m:Bool}{H:gz}(cap:Nat)
  (hb:w.heap[b]? = some (.cells arr elem fz)) (he:arr.toList=pre++(cells++rest)) (hr:RepL (gy S m (.int .u8)) cells l H):
  (Conv.bytesToString (.slice (some ⟨b,pre.length,none⟩) l.length cap)).run P w=.ok (kz (l.map fun n=>UInt8.ofNat n.toNat)) w:=by
 have hc:=Kr hr;subst hc;have hl:=run_loadCells_list (P:=P) w ⟨b,pre.length,none⟩ (l.map (Value.int .u8)) (fun j v hv=>by
  rw[bZa];simp only[World.cell?,hb];have hj:j<l.length:=by have:=(ama.1 hv).1;simpa using this
  have:arr[pre.length+j]? = some v:=by
   rw[←bza,he,aSa (by omega),bea,aUa (by simpa using hj)]
   exact hv
  simp[this])
 rw[List.length_map] at hl;rw[run_bytesToString w _ _ cap l (by simpa using hl),Xg];rfl
theorem Sv{P:Program}{w:World}{S:Du}(dz:∀ b o,S b=some o→w.heap[b]? = some o){v:Value}{l:List Int}(h:BV S (RepL (gy S false (.int .u8))) [v] l []):
  ∃ a n c,v=.slice a n c∧(Conv.bytesToString v).run P w=.ok (kz (l.map fun n=>UInt8.ofNat n.toNat)) w:=by
 rcases h with ⟨_,⟨rfl,iZ,cap,hb⟩|⟨b,cap,arr,elem,fz,pre,cells,rest,e1,e2,e3,e4,e5⟩⟩
 ·simp only[aJa,a7a] at hb
  subst hb;refine⟨_,_,_,rfl,?_⟩;cases iZ with
  |none=>simp[Conv.bytesToString,kz];rfl
  |some a=>
   have hl:=run_loadCells_list (P:=P) w a [] (by simp)
   rw[run_bytesToString w a 0 cap [] (by simpa using hl)]
   rfl
 ·simp only[aJa,a7a] at e1
  subst e1;exact⟨_,_,_,rfl,Qk cap (dz _ _ e2) e3 e4⟩
theorem W2{P:Program}{w:World}{S:Du}{m:Bool}{v:Value}{l:List Int}{H:gz}(hH:∀ p∈H,w.heap[p.1]? = some p.2)(h:kA (RepL (gy S m (.int .u8))) 1 [v] l H):
  ∃ a n c,v=.slice a n c∧(Conv.bytesToString v).run P w=.ok (kz (l.map fun n=>UInt8.ofNat n.toNat)) w:=by
 rcases h with ⟨rfl,rfl,hb⟩|⟨b,cap,arr,elem,cells,rest,H',e1,e2,e3,e4,e5,e6⟩
 ·simp only[aJa,a7a] at hb
  subst hb;exact⟨_,_,_,rfl,by simp[Conv.bytesToString,kz];rfl⟩
 ·simp only[aJa,a7a] at e1
  subst e1;subst e2;exact⟨_,_,_,rfl,Qk (pre:=[]) cap (hH _ (awa ..)) (by simpa using e3) e6⟩
section ops
variable {P:Program} {E:tr} (hE:iQ P E.iK) {X:mW} {st:St} {G:Gh} {w:World} {R:Type} {r:R}
include hE
theorem IV{S D:TypeId}{x:af}{vx:Value}{K:af→St→Option R}(h:p6 E S D x st K=some r)(hm:aB X st G w)(hx:aU G x vx):
  ∃ av v,(convert S D vx).run P w=.ok v w∧aU G av v∧K av st=some r:=by
 unfold p6 at h;cases hS:E.iK S with
 |none=>simp[hS] at h
 |some si=>
  cases hD:E.iK D with
  |none=>simp[hS,hD] at h
  |some di=>
   simp only[hS,hD] at h;obtain⟨d1,u1,t1⟩:=(hE S _ hS).vU;obtain⟨d2,u2,t2⟩:=(hE D _ hD).vU;split at h
   ·rename_i k k' n hd
    rw[hd] at t2;cases d2<;>simp[zn] at t2;subst t2;cases qG (v:=.one (.fy (.int k') n)) rfl hx;refine⟨_,_,?_,kX k _,h⟩;cases d1<;>simp[convert,aEa u1,aEa u2,Conv.intToInt]
   ·rename_i s hs hd
    rw[hd] at t2;rw[hs] at t1;cases d2<;>simp[zn] at t2;cases d1<;>simp[zn] at t1;cases Da (v:=.one (.fy .str s)) rfl hx;exact⟨_,_,by simp[convert,aEa u1,aEa u2,kz],Kh _,h⟩
   ·rename_i _ e lf hs hd
    rw[hd] at t2;rw[hs] at t1;cases d2<;>simp[zn] at t2;cases d1<;>simp[zn] at t1;subst t1;have sk:∀{l':List Int} {s b:Nat} {y:Option Ty} {z:List Value},E.iK e=some ⟨s,b,y,.int .u8,z⟩→(∃ a n c,vx=.slice a n c∧(Conv.bytesToString vx).run P w=.ok (kz (l'.map fun n=>UInt8.ofNat n.toNat)) w)→
      K (.one (.fy .str (l'.map fun n=>UInt8.ofNat n.toNat))) st=some r→∃ av v,(convert S D vx).run P w=.ok v w∧aU G av v∧K av st=some r:=fun {l' _ _ _ _} hT hb hK=>by
     obtain⟨d3,u3,t3⟩:=(hE _ _ hT).vU;cases d3<;>simp[zn] at t3;subst t3;obtain⟨a,n,c,rfl,iM⟩:=hb;exact⟨_,_,by rw[run_convert_bytes_string w S D e a n c u1 u3 u2];exact iM,Kh _,hK⟩
    split at h
    ·rename_i l' hT
     obtain⟨cs,e1,e2⟩:=hx;simp only[Ty.agg,asa,aka] at e1;subst e1;simp only[gy,asa,aka] at e2;exact sk hT (Sv hm.sh e2) h
    ·rename_i a hT
     cases hA:st.arr a with
     |none=>simp[hA] at h
     |some A=>
      simp only[hA] at h;cases hsw:(A.sh||A.gK) with
      |false=>simp[hsw] at h
      |true=>
      simp only[hsw,aja] at h;split at h
      ·rename_i l' hc
       obtain⟨ec,el⟩:=lX hc;have tJ:=hm.ar a _ hA;have hv:vx=G.ψ a:=hx;rw[hv] at sk ⊢;have hah:=hm.ah a _ hA;cases dz:A.sh with
       |true=>
        replace tJ:=(xQ dz).1 tJ
        obtain⟨t,dp,sh,ll⟩:=A;simp only[Ty.slice.injEq] at ec;subst ec;simp only at el;subst el;exact sk hT (Sv hm.sh tJ) h
       |false=>
        replace tJ:=(ig dz (by simpa[dz] using hsw)).1 tJ
        replace hah:=hah dz
        generalize A.bA=dp at tJ;obtain⟨t,_,sh,ll⟩:=A;simp only[Ty.slice.injEq] at ec;subst ec;simp only at el;subst el;exact sk hT (W2 hah tJ) h
      ·cases h
    ·cases h
   ·cases h
theorem Mb{t:TypeId}{ts:List TypeId}{ty:TypeId}{v:Value}{vs:List Value}{s b:Nat}{y:Option Ty}{z:List Value}{e:TypeId}(hT:E.iK t=some ⟨s,b,y,.slice e,z⟩){a:Option Addr}{n c:Nat}(hv:v=.slice a n c):
  (Builtin.len_ (t::ts).toArray ty (v::vs).toArray).run P w=.ok (.int .i64 (n:Int)) w:=by
 have:=(hE _ _ hT).slice;subst hv;simp[Builtin.len_,aEa this];rfl
theorem Tu{x:af}{n:Int}{v:Value}(h:lenOf st x.bR=some n)(hs:x.N6 = none)(hm:aB X st G w)(hx:aU G x v):∃ a m c,v=.slice a m c∧n=(m:Int):=by
 cases x with
 |one l=>
  cases l with
  |fy t d=>
   cases t<;>simp[af.bR,lenOf,af.N6] at h hs;subst h;obtain⟨cs,e1,e2⟩:=hx;simp only[Ty.agg,asa,aka] at e1;subst e1;simp only[gy,asa,aka] at e2;rcases e2 with ⟨_,⟨rfl,iZ,cap,hb⟩|⟨b,cap,arr,elem,fz,pre,cells,rest,e1,_⟩⟩
   ·simp only[aJa,a7a] at hb;exact⟨_,_,_,hb,by simp⟩
   ·simp only[aJa,a7a] at e1;exact⟨_,_,_,e1,rfl⟩
  |nil=>simp[af.bR,lenOf] at h;subst h;exact⟨_,_,_,hx,rfl⟩
  |mX a=>
   simp only[af.bR,lenOf] at h;cases hA:st.arr a with
   |none=>simp[hA] at h
   |some A=>
    cases hmp:A.UL with
    |true=>simp[hA,hmp] at h
    |false=>
    simp only[hA,hmp,aoa,Ob] at h;subst h;have tJ:=hm.ar a A hA;have hv:v=G.ψ a:=hx;cases hs:A.sh with
    |true=>
     rcases(xQ hs).1 tJ with ⟨_,⟨e0,iZ,cap,hb⟩|⟨b,cap,arr,elem,fz,pre,cells,rest,e1,_⟩⟩
     ·simp only[aJa,a7a] at hb;exact⟨_,_,_,hv.trans hb,by rw[e0];simp⟩
     ·simp only[aJa,a7a] at e1;exact⟨_,_,_,hv.trans e1,rfl⟩
    |false=>
     rcases H9 hs hmp tJ with ⟨e0,hb⟩|⟨b,cap,e1⟩
     ·exact⟨_,_,_,hv.trans hb,by rw[e0];simp⟩
     ·exact⟨_,_,_,hv.trans e1,rfl⟩
  |_=>simp[af.bR,lenOf] at h
 |_=>simp[af.bR,lenOf] at h
omit hE in
theorem MT{k:IntKind}:∀{vs:List af} {us:List Value} {a n:Int},xz k (fun x y=>bif decide (y<x) then y else x) a vs=some n→All2 (aU G) vs us→
  (us.foldlM Builtin.min2 (.int k a)).run P w=.ok (.int k n) w
 |[],[],a,n,h,_=>by simp[xz] at h;subst h;simp
 |v::vs,u::us,a,n,h,hr=>by
  simp only[xz] at h;cases hv:v.FK with
  |none=>simp[hv] at h
  |some p=>obtain⟨k',b⟩:=p;simp only[hv] at h;cases qG hv hr.1;have:=MT h hr.2;rw[List.foldlM_cons,aNa];simp only[Builtin.min2,baa,aFa];rw[←this];by_cases hb:b<a<;>simp[hb]
omit hE in
theorem MS{k:IntKind}:∀{vs:List af} {us:List Value} {a n:Int},xz k (fun x y=>bif decide (y > x) then y else x) a vs=some n→All2 (aU G) vs us→
  (us.foldlM Builtin.max2 (.int k a)).run P w=.ok (.int k n) w
 |[],[],a,n,h,_=>by simp[xz] at h;subst h;simp
 |v::vs,u::us,a,n,h,hr=>by
  simp only[xz] at h;cases hv:v.FK with
  |none=>simp[hv] at h
  |some p=>obtain⟨k',b⟩:=p;simp only[hv] at h;cases qG hv hr.1;have:=MS h hr.2;rw[List.foldlM_cons,aNa];simp only[Builtin.max2,baa,aFa];rw[←this];by_cases hb:b > a<;>simp[hb]
theorem P5{a vr sz i off:Nat}{A:jV}{u:Value}{x:A.t.nM}{n:Int}(hm:aB X st G w)(hr:aY G (.E5 a vr sz i off) u)(hA:st.arr a=some A)(hc:(A.sh||!Md.lK A.md .bA||!Nat.beq vr (st.dH a)||!Nat.beq sz A.t.size||!A.t.sy)=false)
  (hx:bL A.l (i:Int)=some x) (hn:C9 A.t x off=some n):∃ b m c,u=.slice b m c∧n=(m:Int):=by
 obtain⟨r1,⟨xb,xn,xc,hus⟩,⟨b0,afo,Ys,r3,r4⟩,r5⟩:=hr;simp only[aGa,bpa] at hc;obtain⟨⟨⟨⟨dz,vm⟩,hvr⟩,m9⟩,hna⟩:=hc;have vm:=Q0 vm;obtain rfl:=Q4 hvr;obtain rfl:=Q4 m9;have hi:A.l[i]? = some x:=by simpa[bL] using hx
 have tJ:=(ig dz (show A.gK=true by simp[jV.gK,vm])).1 (hm.ar a A hA)
 rw[show A.bA=true by simp[jV.bA,vm]] at tJ
 rcases tJ with ⟨e1,_⟩|⟨b',cap',arr,elem,cells,rest,H',e1,e2,e3,e4,e5,e6⟩
 ·rw[e1] at hi;simp at hi
 ·have hhd:=hm.hh a A hA dz (by simp[jV.nest,vm])
  rw[e2] at hhd;obtain⟨pre,cc,post,Hp,Hc,Hq,k1,k2,k3,k4,k5⟩:=RepL.at (fun c x H hr=>gy.size hr) e6 hi;obtain⟨bb,kk,cc0,g1,g2⟩:=Jb hE hna k4 hn;have bf:=(ama.1 g1).1;rw[←hm.hv,hhd] at r5;simp only[kI] at r5;rw[e3,k1,←k2,a5a,aSa (by omega),bea,a5a,aUa bf,g1] at r5
  simp only[Ob] at r5;exact⟨_,_,_,r5.symm,g2⟩
theorem RE{b:Builtin}{dst:Nat}{ts:List TypeId}{ty:TypeId}{vs:List af}{us:List Value}{cs:Array Bool}{K:af→St→Option R}(h:nQ E b dst ts vs st K=some r)(hm:aB X st G w)(hv:All2 (aU G) vs us)(hw:∀ x∈vs,GL st x):
  ∃ av v st' G' w',(builtin b ts.toArray ty cs us.toArray).run P w=.ok (.value v) w'∧aB X st' G' w'∧(∀ act,bQ G st act→bQ G' st' act)∧aU G' av v∧K av st' = some r:=by
 unfold nQ at h;split at h
 ·rename_i v
  obtain⟨u,rfl⟩:∃ u,us=[u]:=by
   cases us with
   |nil=>exact hv.elim
   |cons u us=>cases us with
    |nil=>exact⟨u,rfl⟩
    |cons _ _=>exact hv.2.elim
  cases ts with
  |nil=>simp at h
  |cons t ts=>
   simp only[bda,bFa] at h;split at h
   ·rename_i hT
    split at h
    ·rename_i s hs
     cases Da hs hv.1;have hu:=(hE _ _ hT).str;exact⟨_,_,st,G,w,by simp[builtin,Builtin.len_,aEa hu,kz,goInt];rfl,hm,fun _ h=>h,kX .i64 _,h⟩
    ·cases h
   ·rename_i hT
    split at h
    ·rename_i a vr sz i off hl
     have hr:=hv.1;rw[show v=.one (.E5 a vr sz i off) by cases v<;>simp[af.bR] at hl;rw[hl]] at hr
     split at h
     ·rename_i A hA
      cases hc:(A.sh||!Md.lK A.md .bA||!Nat.beq vr (st.dH a)||!Nat.beq sz A.t.size||!A.t.sy) with
      |true=>rw[hc] at h;cases h
      |false=>
       rw[hc,aoa] at h;obtain⟨x,hx,h⟩:=ata.1 h;split at h
       ·rename_i n hn
        obtain⟨b,m,c,hv',rfl⟩:=P5 hE hm hr hA hc hx hn;exact⟨_,_,st,G,w,by simp only[builtin,aNa,Mb hE hT hv',aFa,baa],hm,fun _ h=>h,kX .i64 _,h⟩
       ·cases h
     ·cases h
    ·split at h
     ·rename_i n hn hs
      obtain⟨a,m,c,hv',rfl⟩:=Tu hE hn hs hm hv.1;exact⟨_,_,st,G,w,by simp only[builtin,aNa,Mb hE hT hv',aFa,baa],hm,fun _ h=>h,kX .i64 _,h⟩
     ·cases h
   ·cases h
 ·rename_i s x
  split at h
  ·rename_i t u
   cases htu:Nat.beq t u with
   |false=>simp[htu] at h
   |true=>
    simp only[htu,aja] at h;obtain rfl:=Q4 htu;cases us with
    |nil=>exact hv.elim
    |cons u1 us=>
     cases us with
     |nil=>exact hv.2.elim
     |cons u2 us=>
      cases us with
      |cons _ _=>exact hv.2.2.elim
      |nil=>
       obtain⟨av,v,st',G',w',h1,h2,h3,h4,h5⟩:=RD hE (ty:=ty) h hm hv.1 hv.2.1 (hw _ (by simp)) (hw _ (by simp))
       exact⟨av,v,st',G',w',by simp only[builtin,aNa,h1,aFa,baa],h2,h3,h4,h5⟩
  ·cases h
 ·rename_i v vs
  cases us with
  |nil=>exact hv.elim
  |cons u us=>
   split at h
   ·rename_i k a hi
    split at h
    ·rename_i n hn
     cases qG hi hv.1;exact⟨_,_,st,G,w,by simp only[builtin,Builtin.min_,aNa,MT hn hv.2,aFa,baa],hm,fun _ h=>h,kX _ _,h⟩
    ·cases h
   ·cases h
 ·rename_i v vs
  cases us with
  |nil=>exact hv.elim
  |cons u us=>
   split at h
   ·rename_i k a hi
    split at h
    ·rename_i n hn
     cases qG hi hv.1;exact⟨_,_,st,G,w,by simp only[builtin,Builtin.max_,aNa,MS hn hv.2,aFa,baa],hm,fun _ h=>h,kX _ _,h⟩
    ·cases h
   ·cases h
 ·cases h
end ops
end Go.Fx
namespace Go.Fx
theorem UZ{G:Gh}(v:Value):aU G (L6 v) v:=by
 unfold L6;split
 ·exact kX _ _
 ·exact oN _
 ·rename_i s
  have:kz s.data.toList=.string s:=by simp[kz]
  rw[←this];exact Kh _
 ·rfl
 ·rfl
 ·trivial
def nL(gt:Nat→Option GA)(S:Du):Prop:=∀ g D,gt g=some D→∃ arr elem fz,S g=some (.cells arr elem fz)∧RepL (gy S false D.t) arr.toList D.l []
theorem nL.mono{gt:Nat→Option GA}{S S':Du}(h:nL gt S)(hS:∀ b o,S b=some o→S' b=some o):nL gt S':=fun g D hg=>by obtain⟨arr,elem,fz,h1,h3⟩:=h g D hg;exact⟨arr,elem,fz,hS _ _ h1,h3.El hS⟩
theorem fN{E:tr}{G:Gh}{st:St}{act:Act}(hg:nL E.gt G.S)(hr:bQ G st act)(o:Operand):aU G (ev E st o) (act.eval o):=by
 cases o with
 |tmp t=>
  simp only[ev,Act.eval];cases h:st.iz t with
  |none=>trivial
  |some v=>exact hr.2.2 t v h
 |const v=>exact UZ v
 |global g=>
  simp only[ev,Act.eval];cases h:E.gt g with
  |none=>trivial
  |some D=>obtain⟨arr,elem,fz,h1,h3⟩:=hg g D h;exact⟨g,arr,elem,fz,arr.toList,[],h1,by simp,h3,rfl⟩
 |func f=>rfl
theorem Pt{E:tr}{st:St}(o:Operand):GL st (ev E st o):=fun k y h=>by
 cases o with
 |tmp t=>
  simp only[ev];cases hr:st.iz t with
  |none=>rfl
  |some v=>exact BA h hr
 |const v=>simp only[ev,L6];split<;>rfl
 |global g=>simp only[ev];cases E.gt g<;>rfl
 |func f=>rfl
def AZ(P:Program)(gt:Nat→Option GA)(f:FuncId)(s:iL):Prop:=
 ∀{R:Type} {r:R} {X:mW} {st:St} {G:Gh} {w:World} {dst:Nat} {args:List af} {vs:List Value} {K KP:af→St→Option R},
  s.run dst args st K KP=some r→nL gt X.S0→aB X st G w→(∃ act,bQ G st act)→All2 (aU G) args vs→
  (callFunc f vs.toArray).run P w=.ok (.enter f vs.toArray) w∧Calls P f vs.toArray w fun e w'=>match e with
   |.returned v=>∃ av st' G',aB X st' G' w'∧(∀ act,bQ G st act→bQ G' st' act)∧aU G' av v∧K av st' = some r
   |.panicked If=>∃ v,If=[{v,recovered:=false}]∧∃ av st' G',aB X st' G' w'∧aU G' av v∧KP av st' = some r
   |.outgrown=>False
theorem Rx{E:tr}{G:Gh}{st:St}{act:Act}(hg:nL E.gt G.S)(hr:bQ G st act):∀ l:List Operand,All2 (aU G) (l.map (ev E st)) (l.map act.eval)
 |[]=>trivial
 |x::l=>⟨fN hg hr x,Rx hg hr l⟩
theorem IN{E:tr}{G:Gh}{st:St}{act:Act}(hg:nL E.gt G.S)(hr:bQ G st act):∀ l:List (Nat×Operand),All2 (fun(p:Nat×af) (q:Nat×Value)=>p.1=q.1∧aU G p.2 q.2) (l.map fun p=>(p.1,ev E st p.2)) (l.map fun p=>(p.1,act.eval p.2))
 |[]=>trivial
 |x::l=>⟨⟨rfl,fN hg hr x.2⟩,IN hg hr l⟩
section ops
variable {P:Program} {E:tr} (hE:iQ P E.iK) (hS:∀ f s,E.BG f=some s→AZ P E.gt f s) {X:mW} {st:St} {G:Gh} {w:World} {R:Type} {r:R}
include hE hS
set_option maxHeartbeats 2000000 in
theorem Ik{o:Oper}{act:Act}{K KP:af→St→Option R}(h:mw E o st K KP=some r)(zt:nL E.gt X.S0)(hm:aB X st G w)(hr:bQ G st act){next:Act→World→Prop}{Q:Exit→Act→World→Prop}
  (hK:∀ av v st' G' w',aB X st' G' w'→bQ G' st' act→aU G' av v→K av st' = some r→next (act.put o.dst v) w')
  (hP:∀ av v st' G' w',aB X st' G' w'→aU G' av v→KP av st' = some r→Q (.panic [{v,recovered:=false}]) act w'):o.wp P act w next Q:=by
 have hg:nL E.gt G.S:=zt.mono hm.s0;have lE:∀{s:Sem Value},(∃ av v,s.run P w=.ok v w∧aU G av v∧K av st=some r)→(execOp act.eval o=do pure (.value (←s)))→o.wp P act w next Q:=fun {s} ⟨av,v,h1,h2,h3⟩ he=>by unfold Oper.wp;rw[he,aNa,h1];exact hK av v st G w hm hr h2 h3
 have full:∀{s:Sem Value},(∃ av v st' G' w',s.run P w=.ok v w'∧aB X st' G' w'∧(∀ act,bQ G st act→bQ G' st' act)∧aU G' av v∧K av st' = some r)→(execOp act.eval o=do pure (.value (←s)))→o.wp P act w next Q:=
  fun {s} ⟨av,v,st',G',w',h1,h2,h3,h4,h5⟩ he=>by
  unfold Oper.wp;rw[he,aNa,h1];exact hK av v st' G' w' h2 (h3 _ hr) h4 h5
 unfold mw at h;split at h
 ·rename_i x ho
  exact lE (s:=pure (act.eval x)) ⟨_,_,rfl,fN hg hr x,h⟩ (by simp[execOp,ho])
 ·rename_i x ho
  exact lE (s:=pure (act.eval x)) ⟨_,_,rfl,fN hg hr x,h⟩ (by simp[execOp,ho])
 ·rename_i c a b ho
  cases hc:(ev E st c).FX with
  |none=>simp[hc] at h
  |some b'=>
   simp only[hc] at h;have hb:=wH hc (fN hg hr c);unfold Oper.wp;simp only[execOp,ho,hb];cases b' with
   |true=>simp only[aja] at h;exact hK _ _ st G w hm hr (fN hg hr a) h
   |false=>simp only[aoa] at h;exact hK _ _ st G w hm hr (fN hg hr b) h
 ·rename_i x ho
  have hx:=fN hg hr x;have key:(∃ a,act.eval x=.pointer (some a))→K (ev E st x) st=some r→o.wp P act w next Q:=fun⟨a,ha⟩ hk=>by unfold Oper.wp;simp only[execOp,ho,ha];exact hK _ _ st G w hm hr (by rw[←ha];exact hx) hk
  cases hv:ev E st x with
  |one l=>
   rw[hv] at h hx key;cases l with
   |lB ob off=>exact key ⟨_,hx⟩ (by simpa[af.bR] using h)
   |DX a sz i off=>obtain⟨b,len,cap,h1,h2,h3⟩:=hx;exact key ⟨_,h3⟩ (by simpa[af.bR] using h)
   |Pa t d off=>obtain⟨b,arr,elem,fz,pre,cs,post,h1,h2,h3,h4⟩:=hx;exact key ⟨_,h4⟩ (by simpa[af.bR] using h)
   |_=>simp[af.bR] at h
  |_=>rw[hv] at h;simp[af.bR] at h
 ·rename_i T ho
  cases hdp:E.Ks (Ii o.dst) with
  |true=>
   rw[hdp,aja] at h;have hT:∃ ti,E.iK T=some ti:=by
    cases hT:E.iK T with
    |none=>simp[sC,hT] at h
    |some ti=>exact⟨ti,rfl⟩
   obtain⟨ti,hT⟩:=hT;obtain⟨i,d,z,h1,h2,h3,h4,h5,h6,h7,h8,h9⟩:=hE T ti hT;obtain⟨av,st',G',m,rr,rv,hk⟩:=Tp hE (w:=w) (cs:=z.cells) h hm (fun ti' hT'=>by rw[hT] at hT';cases hT';exact h6)
   refine full (s:=Instr.alloc T true (.tuple #[])) ⟨av,_,st',G',_,?_,m,rr,rv,hk⟩ (by simp only[execOp,ho])
   simp[Instr.alloc,zeroValue,typeInfo,h1,h5,newVar,newRow]
  |false=>
  rw[hdp,aoa] at h;cases hT:E.iK T with
  |none=>simp[hT] at h
  |some ti=>
   simp only[hT] at h;obtain⟨i,d,z,h1,h2,h3,h4,h5,h6,h7,h8,h9⟩:=hE T ti hT;obtain⟨av,st',G',m,rr,rv,hk⟩:=Tw (w:=w) (cs:=z.cells) h hm (by rw[h6];exact R9 ti.zero)
   refine full (s:=Instr.alloc T true (.tuple #[])) ⟨av,_,st',G',_,?_,m,rr,rv,hk⟩ (by simp only[execOp,ho])
   simp[Instr.alloc,zeroValue,typeInfo,h1,h5,newVar,newRow]
 ·rename_i T x ho
  cases hl:(ev E st x).qc with
  |none=>simp[hl] at h
  |some ls=>
   simp only[hl] at h;obtain⟨av,st',G',m,rr,rv,hk⟩:=Tw (w:=w) (cs:=(act.eval x).cells) h hm (mU hm hl (fN hg hr x));refine full (s:=Instr.box T (act.eval x)) ⟨av,_,st',G',_,?_,m,rr,rv,hk⟩ (by simp only[execOp,ho])
   simp[Instr.box,newVar,newRow]
 ·rename_i T iy ho
  refine lE (NF hE h hm (IN hg hr _)) ?_;have:(List.map (fun p=>(p.1,act.eval p.2)) iy.toList).toArray=iy.map fun(i,x)=>(i,act.eval x):=by rw[←bVa]
  rw[this];simp only[execOp,ho]
 ·rename_i T len iy ho
  have h':∃ av v st' G' w',(Instr.buildSlice T len ((iy.toList.map fun p=>(p.1,act.eval p.2)).toArray)).run P w=.ok v w'∧aB X st' G' w'∧(∀ act,bQ G st act→bQ G' st' act)∧aU G' av v∧K av st' = some r:=by
   cases hd:E.Ks (Ii o.dst) with
   |true=>rw[hd,aja] at h;exact J8 hE h hm (IN hg hr _)
   |false=>rw[hd,aoa] at h;exact LD hE h hm (IN hg hr _)
  refine full h' ?_;have:(List.map (fun p=>(p.1,act.eval p.2)) iy.toList).toArray=iy.map fun(i,x)=>(i,act.eval x):=by rw[←bVa]
  rw[this];simp only[execOp,ho]
 ·rename_i T x ho
  exact lE (Ka hE h hm (fN hg hr x)) (by simp only[execOp,ho])
 ·rename_i T x v ho
  obtain⟨st',G',w',h1,h2,h3,h4⟩:=TB hE h hm (fN hg hr x) (fN hg hr v) (Pt v);unfold Oper.wp;simp only[execOp,ho,aNa,h1,aFa];exact hK _ _ st' G' w' h2 (h3 _ hr) (show aU G' (.one .vU) undef from rfl) h4
 ·rename_i op T x y u ho
  exact lE (Tq hE h hm (fN hg hr x) (fN hg hr y)) (by simp only[execOp,ho];rfl)
 ·rename_i op T x ho
  exact lE (Wh h (fN hg hr x)) (by simp only[execOp,ho])
 ·rename_i S D x ho
  exact lE (IV hE h hm (fN hg hr x)) (by simp only[execOp,ho])
 ·rename_i T l c ho
  exact full (NL hE h hm (fN hg hr l) (fN hg hr c)) (by simp only[execOp,ho])
 ·rename_i T x lo hi mx ho
  have opt:∀(q:Option Operand),(∀ a,q.map (ev E st)=some a→∃ v,q.map act.eval=some v∧aU G a v)∧(q.map (ev E st)=none→q.map act.eval=none):=fun q=>by
   cases q with
   |none=>simp
   |some x=>simp;exact fN hg hr x
  obtain⟨av,v,st',G',h1,h2,h3,h4,h5⟩:=NO hE h hm (fN hg hr x) (opt lo).1 (opt lo).2 (opt hi).1 (opt hi).2 (opt mx).2;exact full ⟨av,v,st',G',w,h1,h2,h3,h4,h5⟩ (by simp only[execOp,ho])
 ·rename_i T x f ho
  exact lE (Eu hE h (fN hg hr x)) (by simp only[execOp,ho])
 ·rename_i T x f ho
  cases ha:(ev E st x).isAgg with
  |false=>simp[ha] at h
  |true=>simp only[ha,aja] at h;exact lE (NI hE h hm (fN hg hr x) (Ec ha (fN hg hr x))) (by simp only[execOp,ho])
 ·rename_i T x i ho
  exact lE (Ew hE h hm (fN hg hr x) (fN hg hr i)) (by simp only[execOp,ho])
 ·rename_i T x i ho
  exact lE (NJ hE h (fN hg hr x) (fN hg hr i)) (by simp only[execOp,ho])
 ·rename_i x n ho
  have hx:=fN hg hr x;split at h
  ·rename_i vs hv
   rw[hv] at hx;obtain⟨us,hu,ha⟩:=hx;cases hn:vs[n]? with
   |none=>simp[hn] at h
   |some p=>
    simp only[hn] at h;obtain⟨u,hu2,hp⟩:=ha.vJ hn;refine lE (s:=Instr.extract (act.eval x) n) ⟨_,u,by simp[Instr.extract,hu,hu2],?_,h⟩ (by simp only[execOp,ho])
    unfold Ex;split at hp
    ·rename_i hc;simp only[hc,aja];exact hp
    ·rename_i hc
     obtain⟨l,e,hl⟩:=hp;simp only[bCa] at hc;simp only[hc,aoa,e];exact hl
  ·cases h
 ·rename_i c ho
  split at h
  ·rename_i b hb
   have yA:=Rx hg hr c.args.toList;obtain⟨cs0,Dr⟩:∃ cs0,(execOp act.eval o).run P w=(builtin b c.argTypes o.type cs0 (c.args.map act.eval)).run P w:=
    ⟨_,by simp only[execOp,ho,resolve,hb,aNa,baa,aFa,invoke];rfl⟩
   obtain⟨av,v,st',G',w',h1,h2,h3,h4,h5⟩:=RE hE (ty:=o.type) (cs:=cs0) h hm yA (fun x hx=>by obtain⟨y,_,rfl⟩:=a0a.1 hx;exact Pt y)
   have e1:(List.map act.eval c.args.toList).toArray=c.args.map act.eval:=by rw[←bVa]
   rw[e1] at h1;have e2:c.argTypes.toList.toArray=c.argTypes:=by simp
   rw[e2] at h1;unfold Oper.wp;rw[Dr,h1];exact hK _ _ st' G' w' h2 (h3 _ hr) h4 h5
  ·rename_i f hb
   cases hs:E.BG f with
   |none=>simp[hs] at h
   |some s=>
    simp only[hs] at h;obtain⟨h1,h2⟩:=hS f s hs h zt hm ⟨act,hr⟩ (Rx hg hr c.args.toList);have e1:(List.map act.eval c.args.toList).toArray=c.args.map act.eval:=by rw[←bVa]
    rw[e1] at h1 h2;unfold Oper.wp;simp only[execOp,ho,resolve,hb,aNa,baa,aFa,invoke,Act.eval,Deferred.ofValue,Array.append_empty,Array.empty_append,h1,Oper.upon];refine Calls.mono h2 fun e w'' he=>?_;cases e with
    |returned v=>obtain⟨av,st',G',g1,g2,g3,g4⟩:=he;exact hK _ _ st' G' _ g1 (g2 _ hr) g3 g4
    |panicked If=>obtain⟨v,rfl,av,st',G',g1,g3,g4⟩:=he;exact hP _ _ st' G' _ g1 g3 g4
    |outgrown=>exact he.elim
  ·cases h
 ·rename_i T x ho
  cases hT:E.iK T with
  |none=>simp[hT] at h
  |some ti=>
   simp only[hT] at h;obtain⟨d,u1,u2⟩:=(hE T ti hT).vU;split at h
   ·cases h
   ·rename_i ls hl hd
    refine lE (s:=Instr.makeInterface T (act.eval x)) ⟨.Au T ls,.iface T (act.eval x),?_,⟨_,_,rfl,rfl,mU hm hl (fN hg hr x)⟩,h⟩ (by simp only[execOp,ho])
    simp only[Instr.makeInterface,aNa,aEa u1,aFa];generalize ti.iS=q at u2 hd;cases d with
    |interface _=>cases q<;>first|exact u2.elim|exact(hd rfl).elim
    |_=>rfl
   ·cases h
 ·rename_i x ho
  have hx:=fN hg hr x;split at h
  ·rename_i t ls hv
   rw[hv] at hx;obtain⟨u,cs,h1,h2,h3⟩:=hx;unfold Oper.wp;simp only[execOp,ho,h1,Instr.panic,goPanic,aNa];exact hP (.Au t ls) (.iface t u) st G w hm ⟨u,cs,rfl,h2,h3⟩ h
  ·cases h
 ·rename_i T ho
  exact full (RG hE h hm) (by simp only[execOp,ho,Option.map_none])
 ·rename_i T x k ho
  exact lE (Tv hE h hm (fN hg hr x) (fN hg hr k)) (by simp only[execOp,ho])
 ·rename_i T x k v ho
  obtain⟨st',G',w',h1,h2,h3,h4⟩:=NM hE h hm (fN hg hr x) (fN hg hr k) (fN hg hr v);unfold Oper.wp;simp only[execOp,ho,aNa,h1,aFa];exact hK _ _ st' G' w' h2 (h3 _ hr) (show aU G' (.one .vU) undef from rfl) h4
 ·cases h
end ops
end Go.Fx
namespace Go.Fx
structure Out where
 v:af
 s:St
 ok:Bool
def oD(v:af)(s:St):Option Out:=some ⟨v,s,true⟩
def O5(v:af)(s:St):Option Out:=some ⟨v,s,false⟩
def sk{R:Type}(K KP:af→St→Option R)(o:Out):Option R:=bif o.ok then K o.v o.s else KP o.v o.s
theorem dm{α β:Type}{c:Bool}{a b:Option β}{a' b':Option α}{f:α→Option β}(h:a=a'.bind f)(k:b=b'.bind f):cond c a b=(cond c a' b').bind f:=by cases c<;>simpa
theorem fW{α β γ:Type}{x:Option γ}{g:γ→Option β}{g':γ→Option α}{f:α→Option β}(h:∀ y,g y=(g' y).bind f):x.bind g=(x.bind g').bind f:=by
 cases x with
 |none=>rfl
 |some y=>exact h y
def pt(s:iL):Prop:=∀{R:Type} (dst:Nat) (args:List af) (st:St) (K KP:af→St→Option R),
 s.run dst args st K KP=(s.run dst args st oD O5).bind (sk K KP)
def afZ(L:lM):Prop:=True
section
variable {E:tr} {R:Type} {st:St} {T:TypeId} {x y v:af} {dst:Nat} {K KP:af→St→Option R}
theorem U2:y5 E T x st K=(y5 E T x st oD).bind (sk K KP):=by
 unfold y5
 repeat' (first|rfl|apply dm|apply fW|intro _|split)
theorem LE{f:Nat}:n8 E T x f st K=(n8 E T x f st oD).bind (sk K KP):=by
 unfold n8
 repeat' (first|rfl|apply dm|apply fW|intro _|split)
theorem Ts{f:Nat}:xI E T x f st K=(xI E T x f st oD).bind (sk K KP):=by
 unfold xI
 repeat' (first|rfl|apply dm|apply fW|intro _|split)
theorem LF:mM E T x y st K=(mM E T x y st oD).bind (sk K KP):=by
 unfold mM
 repeat' (first|rfl|apply dm|apply fW|intro _|split)
theorem Tt:xJ E T x y st K=(xJ E T x y st oD).bind (sk K KP):=by
 unfold xJ
 repeat' (first|rfl|apply dm|apply fW|intro _|split)
theorem TC:xK E T x v st (fun st'=>K (.one .vU) st')=(xK E T x v st (fun st'=>oD (.one .vU) st')).bind (sk K KP):=by
 unfold xK
 repeat' (first|rfl|apply dm|apply fW|intro _|split)
theorem Tx{lo hi mx:Option af}:uA E T dst x lo hi mx st K=(uA E T dst x lo hi mx st oD).bind (sk K KP):=by
 unfold uA
 repeat' (first|rfl|apply dm|apply fW|intro _|split)
theorem Xy{op:BinOp}:KD E op T x y (fun v=>K v st)=(KD E op T x y (fun v=>oD v st)).bind (sk K KP):=by
 unfold KD
 repeat' (first|rfl|apply dm|apply fW|intro _|split)
theorem ZP{op:UnOp}:TE op x (fun v=>K v st)=(TE op x (fun v=>oD v st)).bind (sk K KP):=by
 unfold TE
 repeat' (first|rfl|apply dm|apply fW|intro _|split)
theorem OU{S D:TypeId}:p6 E S D x st K=(p6 E S D x st oD).bind (sk K KP):=by
 unfold p6
 repeat' (first|rfl|apply dm|apply fW|intro _|split)
theorem Tr{ps:List (Nat×af)}:xH E T ps st K=(xH E T ps st oD).bind (sk K KP):=by
 unfold xH
 repeat' (first|rfl|apply dm|apply fW|intro _|split)
theorem J9{len:Nat}{ps:List (Nat×af)}:mJ E T dst len ps st K=(mJ E T dst len ps st oD).bind (sk K KP):=by
 unfold mJ
 repeat' (first|rfl|apply dm|apply fW|intro _|split)
theorem LG:n9 E T dst x y st K=(n9 E T dst x y st oD).bind (sk K KP):=by
 unfold n9
 repeat' (first|rfl|apply dm|apply fW|intro _|split)
theorem P7{o:Nat}{ls:List ai}:Gb E T o ls st K=(Gb E T o ls st oD).bind (sk K KP):=by
 unfold Gb
 repeat' (first|rfl|apply dm|apply fW|intro _|split)
theorem IQ:sD E T dst x y st K=(sD E T dst x y st oD).bind (sk K KP):=by
 unfold sD
 repeat' (first|rfl|apply dm|apply fW|intro _|split)
theorem IR{len:Nat}{ps:List (Nat×af)}:li E T dst len ps st K=(li E T dst len ps st oD).bind (sk K KP):=by
 unfold li
 repeat' (first|rfl|apply dm|apply fW|intro _|split)
theorem OR{b:Nat}:rz E T dst x b st K=(rz E T dst x b st oD).bind (sk K KP):=by
 unfold rz
 repeat' (first|rfl|apply dm|apply fW|intro _|split)
theorem IY{α β:Type}{a i o:Nat}{K:St→Option β}{K':St→Option α}{f:α→Option β}(h:∀ s,K s=(K' s).bind f):FP st a i o K=(FP st a i o K').bind f:=by
 unfold FP
 repeat' (first|rfl|exact h _|apply dm|apply fW|intro _|split)
theorem Qx{α β:Type}{a sz i:Nat}{K:St→Option β}{K':St→Option α}{f:α→Option β}(h:∀ s,K s=(K' s).bind f):BK st a sz i K=(BK st a sz i K').bind f:=by unfold BK;exact dm (h _) rfl
theorem SG{α β:Type}{a o:Nat}{K:St→Option β}{K':St→Option α}{f:α→Option β}(h:∀ s,K s=(K' s).bind f):A7 st a o K=(A7 st a o K').bind f:=by
 unfold A7
 repeat' (first|rfl|exact h _|apply dm|apply fW|intro _|split)
theorem OS:rA E T dst x y st K=(rA E T dst x y st oD).bind (sk K KP):=by
 unfold rA;split
 ·exact OR
 ·split
  ·exact dm (IY fun s=>Qx fun s=>IQ) rfl
  ·exact IQ
theorem RI{a sz i off:Nat}{K:St→Option R}{K':St→Option Out}{f:Out→Option R}(h:∀ s,K s=(K' s).bind f):uB E T a sz i off v st K=(uB E T a sz i off v st K').bind f:=by
 unfold uB
 repeat' (first|rfl|exact SG h|(apply IY)|(apply Qx)|apply dm|apply fW|intro _|split)
theorem RJ{a k:Nat}{K:St→Option R}{K':St→Option Out}{f:Out→Option R}(h:∀ s,K s=(K' s).bind f):uC E T a k v st K=(uC E T a k v st K').bind f:=by
 unfold uC
 repeat' (first|rfl|exact h _|apply dm|apply fW|intro _|split)
theorem RK:uD E T x v st (fun st'=>K (.one .vU) st')=(uD E T x v st (fun st'=>oD (.one .vU) st')).bind (sk K KP):=by
 unfold uD;split
 ·exact RI fun s=>rfl
 ·split
  ·exact RJ fun s=>rfl
  ·exact TC
theorem OT{b:Builtin}{ts:List TypeId}{vs:List af}:nQ E b dst ts vs st K=(nQ E b dst ts vs st oD).bind (sk K KP):=by
 unfold nQ
 repeat' (first|rfl|exact OS|apply dm|apply fW|intro _|split)
theorem RB:sC E T dst st K=(sC E T dst st oD).bind (sk K KP):=by
 unfold sC
 repeat' (first|rfl|apply dm|apply fW|intro _|split)
theorem OW:rB E T dst st K=(rB E T dst st oD).bind (sk K KP):=by
 unfold rB
 repeat' (first|rfl|apply dm|apply fW|intro _|split)
theorem RF:uz E T x y st K=(uz E T x y st oD).bind (sk K KP):=by
 unfold uz
 repeat' (first|rfl|apply dm|apply fW|intro _|split)
theorem LH:oa E T x y v st K=(oa E T x y v st oD).bind (sk K KP):=by
 unfold oa
 repeat' (first|rfl|apply dm|apply fW|intro _|split)
theorem Pu(hS:∀ f s,E.BG f=some s→pt s){o:Oper}:mw E o st K KP=(mw E o st oD O5).bind (sk K KP):=by
 unfold mw;split
 ·rfl
 ·rfl
 ·split
  ·exact dm rfl rfl
  ·rfl
 ·split<;>rfl
 ·refine dm RB ?_
  split
  ·exact P7
  ·rfl
 ·split
  ·exact P7
  ·rfl
 ·exact Tr
 ·exact dm IR J9
 ·exact U2
 ·exact RK
 ·exact Xy
 ·exact ZP
 ·exact OU
 ·exact LG
 ·exact Tx
 ·exact LE
 ·exact dm Ts rfl
 ·exact LF
 ·exact Tt
 ·split
  ·split
   ·rfl
   ·rfl
  ·rfl
 ·split
  ·exact OT
  ·split
   ·rename_i s hs;exact hS _ s hs _ _ _ _ _
   ·rfl
  ·rfl
 ·split
  ·split<;>rfl
  ·rfl
 ·split<;>rfl
 ·exact OW
 ·exact RF
 ·exact LH
 ·rfl
end
def Hs(E:tr)(o:Oper)(st:St):Option Out:=mw E o st oD O5
theorem A8{E:tr}(hS:∀ f s,E.BG f=some s→pt s){o:Oper}{st:St}{R:Type}{K KP:af→St→Option R}{r:R}(h:mw E o st K KP=some r):
  ∃ u,Hs E o st=some u∧sk K KP u=some r:=by
 rw[Pu hS] at h;exact ata.1 h
theorem B5{E:tr}(hS:∀ f s,E.BG f=some s→pt s){o:Oper}{st:St}{R:Type}{K KP:af→St→Option R}{u:Out}(h:Hs E o st=some u):mw E o st K KP=sk K KP u:=by rw[Pu hS];unfold Hs at h;rw[h];rfl
end Go.Fx
namespace Go.Fx
def ky(st s:St):Prop:=s.n=st.n∧s.jw=st.jw∧s.cK=st.cK∧(s.gc,s.pin)=(st.gc,st.pin)
theorem ky.refl(st:St):ky st st:=⟨rfl,rfl,rfl,rfl⟩
theorem ky.trans{a b c:St}(h:ky a b)(k:ky b c):ky a c:=⟨k.1.trans h.1,k.2.1.trans h.2.1,k.2.2.1.trans h.2.2.1,k.2.2.2.trans h.2.2.2⟩
def qj.agr(p:qj)(o j:Nat):Prop:=match p with | .o ob off n=>ob=o∧off≤j∧j<off+n|_=>False
structure rk(W:List qj)(st s:St):Prop where
 iZ:ky st s
 eH:s.eH=st.eH
 dT:∀ o ls,st.dT o=some ls→qj.k o∉W→qj.all∉W→∃ xG,s.dT o=some xG∧xG.length=ls.length∧∀ j,(∀ q∈W,¬ q.agr o j)→xG[j]? = ls[j]?
 arr:∀ a A,st.arr a=some A→qj.a a∉W→qj.all∉W→s.arr a=some A
 EM:∀ a,qj.a a∉W→qj.all∉W→s.dH a=st.dH a
theorem rk.refl(W:List qj)(st:St):rk W st st:=⟨.refl _,rfl,fun o ls h _ _=>⟨ls,h,rfl,fun _ _=>rfl⟩,fun _ _ h _ _=>h,fun _ _ _=>rfl⟩
theorem rk.any{st s:St}(h:ky st s)(hr:s.eH=st.eH):rk [.all] st s:=
 ⟨h,hr,fun _ _ _ _ h=>absurd (Q7.2 rfl) h,fun _ _ _ _ h=>absurd (Q7.2 rfl) h,fun _ _ h=>absurd (Q7.2 rfl) h⟩
theorem rk.trans{W:List qj}{a b c:St}(h:rk W a b)(k:rk W b c):rk W a c:=
 ⟨h.iZ.trans k.iZ,k.eH.trans h.eH,fun o ls hl hk ha=>by
  obtain⟨l1,h1,h2,h3⟩:=h.dT o ls hl hk ha;obtain⟨l2,k1,k2,k3⟩:=k.dT o l1 h1 hk ha;exact⟨l2,k1,k2.trans h2,fun j hj=>(k3 j hj).trans (h3 j hj)⟩,fun x A hA hn ha=>k.arr x A (h.arr x A hA hn ha) hn ha,fun x hn ha=>(k.EM x hn ha).trans (h.EM x hn ha)⟩
theorem rk.mono{W W':List qj}{a b:St}(h:rk W a b)(hs:∀ q∈W,q∈W'):rk W' a b:=
 ⟨h.iZ,h.eH,fun o ls hl hk ha=>by
  obtain⟨l1,h1,h2,h3⟩:=h.dT o ls hl (fun hq=>hk (hs _ hq)) (fun hq=>ha (hs _ hq));exact⟨l1,h1,h2,fun j hj=>h3 j fun q hq=>hj q (hs q hq)⟩,fun x A hA hn ha=>h.arr x A hA (fun hq=>hn (hs _ hq)) (fun hq=>ha (hs _ hq)),fun x hn ha=>h.EM x (fun hq=>hn (hs _ hq)) (fun hq=>ha (hs _ hq))⟩
theorem rk.UX{W:List qj}{st s:St}{o:Nat}{ls:List ai}(h:rk W st s)(ho:s.dT o=none):rk W st (s.qP o ls):=
 h.trans ⟨⟨rfl,rfl,rfl,rfl⟩,rfl,fun q l hl _ _=>⟨l,by rw[kW,aBa (fun e=>by subst e;rw[ho] at hl;cases hl)];exact hl,rfl,fun _ _=>rfl⟩,fun a A hA _ _=>hA,fun _ _ _=>rfl⟩
theorem rk.Ax{W:List qj}{st s:St}{a:Nat}{A:jV}(h:rk W st s)(ha:s.arr a=none):rk W st (s.gW a A):=
 h.trans ⟨⟨rfl,rfl,rfl,rfl⟩,rfl,fun q l hl _ _=>⟨l,hl,rfl,fun _ _=>rfl⟩,fun x B hB _ _=>by rw[dM,aBa (fun e=>by subst e;rw[ha] at hB;cases hB)];exact hB,fun _ _ _=>rfl⟩
theorem rk.gW{W:List qj}{st s:St}{a:Nat}{A:jV}(h:rk W st s)(ha:qj.a a∈W):rk W st (s.gW a A):=
 h.trans ⟨⟨rfl,rfl,rfl,rfl⟩,rfl,fun q l hl _ _=>⟨l,hl,rfl,fun _ _=>rfl⟩,fun x B hB hn _=>by rw[dM,aBa (fun e=>by subst e;exact hn ha)];exact hB,fun _ _ _=>rfl⟩
theorem rk.NV{W:List qj}{st s:St}{a dst:Nat}{A:jV}(h:rk W st s)(ha:qj.a a∈W)(hd:s.arr dst=none):rk W st {s with cT:=(dst,A)::FZ s.cT a}:=
 h.trans ⟨⟨rfl,rfl,rfl,rfl⟩,rfl,fun q l hl _ _=>⟨l,hl,rfl,fun _ _=>rfl⟩,fun x B hB hn _=>by
  have e1:x≠a:=fun e=>by subst e;exact hn ha
  have e2:x≠dst:=fun e=>by subst e;rw[hd] at hB;cases hB
  simp only[St.arr,aw,qJ,aBa (bDa e1),aBa (bDa e2)];exact hB,fun _ _ _=>rfl⟩
theorem aX{α:Type}{c:Bool}{a a' b b':α}(h:a=a')(k:b=b'):cond c a b=cond c a' b':=by rw[h,k]
theorem vf{α:Type}{c:Bool}{a a' b b':α}(h:c=true→a=a')(k:c=false→b=b'):cond c a b=cond c a' b':=by
 cases c
 ·exact k rfl
 ·exact h rfl
theorem eg{α β:Type}{x:Option α}{f g:α→Option β}(h:∀ y,f y=g y):x.bind f=x.bind g:=by rw[funext h]
section
variable {E:tr} {R:Type} {st:St} {T:TypeId} {x y v:af} {dst:Nat}
theorem KE{K K':af→St→Option R}(h:∀ v,K v st=K' v st):y5 E T x st K=y5 E T x st K':=by
 unfold y5
 repeat' (first|rfl|exact h _|apply aX|apply eg|intro _|split)
theorem BC{f:Nat}{K K':af→St→Option R}(h:∀ v,K v st=K' v st):n8 E T x f st K=n8 E T x f st K':=by
 unfold n8
 repeat' (first|rfl|exact h _|apply aX|apply eg|intro _|split)
theorem IW{f:Nat}{K K':af→St→Option R}(h:∀ v,K v st=K' v st):xI E T x f st K=xI E T x f st K':=by
 unfold xI
 repeat' (first|rfl|exact h _|apply aX|apply eg|intro _|split)
theorem BD{K K':af→St→Option R}(h:∀ v,K v st=K' v st):mM E T x y st K=mM E T x y st K':=by
 unfold mM
 repeat' (first|rfl|exact h _|apply aX|apply eg|intro _|split)
theorem IX{K K':af→St→Option R}(h:∀ v,K v st=K' v st):xJ E T x y st K=xJ E T x y st K':=by
 unfold xJ
 repeat' (first|rfl|exact h _|apply aX|apply eg|intro _|split)
theorem PG{a:Nat}:∀{ls:List ai},ai.mX a∈ls→qj.a a∈fZ ls
 |l::r,h=>by
  rcases ala.1 h with rfl|h
  ·exact awa ..
  ·have:=PG h
   cases l<;>first|exact this|exact Q8 _ this
theorem Hy{l:ai}{s:St}(h:st.zd l=some s):rk (fZ [l]) st s:=by
 unfold St.zd at h;split at h
 ·split at h
  ·rename_i A _
   cases hs:A.sh with
   |true=>simp only[hs,aja,Ob] at h;subst h;exact .refl _ _
   |false=>
    cases hw:A.gK with
    |false=>simp[hs,hw] at h
    |true=>simp only[hs,hw,aoa,aja,Ob] at h;subst h;exact(rk.refl _ _).gW (by simp[fZ])
  ·split at h
   ·rename_i A _
    cases hs:A.sh<;>simp[hs] at h;subst h;exact .refl _ _
   ·cases h
 ·cases h;exact .refl _ _
theorem UG{l:ai}{ls:List ai}:fZ (l::ls)=fZ [l]++fZ ls:=by cases l<;>rfl
theorem ze:∀{ls:List ai} {st s:St},st.vF ls=some s→rk (fZ ls) st s
 |[],st,s,h=>by cases h;exact .refl _ _
 |l::r,st,s,h=>by
  simp only[St.vF] at h;split at h
  ·rename_i q hq
   rw[UG];exact((Hy hq).mono fun q hq=>aya _ hq).trans ((ze h).mono fun q hq=>ara _ hq)
  ·cases h
theorem vG{s:St}(h:v.qR st=some s):rk v.uk st s:=by
 unfold af.qR at h;split at h
 ·exact Hy h
 ·exact ze h
 ·cases h
 ·exact ze h
theorem acG{l:ai}{s:St}(h:st.zd l=some s):ky st s:=(Hy h).iZ
theorem acH{ls:List ai}{st s:St}(h:st.vF ls=some s):ky st s:=(ze h).iZ
theorem KL{s:St}(h:v.qR st=some s):ky st s:=(vG h).iZ
theorem EI{t:Ty}:∀{ps:List (Nat×af)} {i:Nat} {st s:St} {l:List t.nM},nt t i ps st=some (l,s)→rk (nJ (ps.map (·.2))) st s
 |[],i,st,s,l,h=>by simp only[nt,Ob,aia] at h;obtain⟨_,rfl⟩:=h;exact .refl _ _
 |(j,v)::r,i,st,s,l,h=>by
  simp only[nt] at h;cases hb:Nat.beq i j with
  |false=>simp[hb] at h
  |true=>
   simp only[hb,aja] at h;split at h
   ·rename_i q hq
    split at h
    ·split at h
     ·rename_i l' s' hp
      simp only[Ob,aia] at h;obtain⟨_,rfl⟩:=h;exact((vG hq).mono fun q hq=>aya _ hq).trans ((EI hp).mono fun q hq=>ara _ hq)
     ·cases h
    ·cases h
   ·cases h
theorem D8{v:af}{ls:List ai}(h:v.qc=some ls):∀ q∈fZ ls,q∈v.uk:=by
 have ex:∀(t:Ty) (d:t.nM),fZ (ka t d)=[]:=by
  have bE:∀ l m:List ai,fZ (l++m)=fZ l++fZ m:=by
   intro l m;induction l with
   |nil=>rfl
   |cons x l ih=>cases x<;>simp[fZ,ih]
  intro t;induction t with
  |dg a b Nj ihb=>intro d;simp only[ka,bE,Nj,ihb];rfl
  |one a ih=>intro d;exact ih d
  |arr n t ih=>
   intro d;simp only[ka];induction (show List t.nM from d) with
   |nil=>rfl
   |cons x l ihl=>rw[bSa,bE,ih,ihl];rfl
  |_=>intro d;rfl
 unfold af.qc at h;split at h
 ·simp only[Ob] at h;subst h;simp[ex]
 ·simp only[Ob] at h;subst h;simp[ex]
 ·simp only[Ob] at h;subst h;simp[ex]
 ·rename_i l _ _ _
  cases hc:l.cell<;>simp[hc] at h;subst h;exact fun q hq=>hq
 ·simp only[Ob] at h;subst h;exact fun q hq=>hq
 ·cases h
theorem XH{α:Type}{l v:List α}{off:Nat}(h:off+v.length≤l.length){j:Nat}(hj:¬ (off≤j∧j<off+v.length)):(mN l off v)[j]? = l[j]?:=by
 unfold mN;by_cases h1:j<off
 ·rw[aUa (by simp;omega),bra h1]
 ·rw[aSa (by simp;omega),aSa (by simp;omega),bQa]
  congr 1
  simp only[cPa];omega
theorem RS{α:Type}{l v:List α}{off:Nat}(h:off+v.length≤l.length):(mN l off v).length=l.length:=by unfold mN;simp;omega
theorem RM{K K':St→Option R}(h:∀ s,rk (match x.bR with | .lB ob off=>[.o ob off (xN E T)] | .DX a _ _ _=>.a a::v.uk|_=>[]) st s→K s=K' s):xK E T x v st K=xK E T x v st K':=by
 unfold xK;split
 ·rename_i ti vs hT hv
  cases hc:(Nat.beq vs.length ti.size&&vs.all ai.cell) with
  |false=>rfl
  |true=>
   simp only[aja];simp only[Q3] at hc;have jB:=Q4 hc.1;split
   ·rename_i ob off hx
    rw[hx] at h;split
    ·rename_i ls ho
     split
     ·rename_i c hs
      refine aX rfl (h _ ⟨⟨rfl,rfl,rfl,rfl⟩,rfl,fun o l hl _ _=>?_,fun a A hA _ _=>hA,fun _ _ _=>rfl⟩);have xB:off+vs.length≤ls.length:=by
       unfold qS at hs;cases hb:Nat.ble (off+ti.size) ls.length with
       |false=>simp[hb] at hs
       |true=>rw[jB];exact aZa hb
      by_cases e:ob=o
      ·subst e
       rw[ho] at hl;cases hl;refine⟨mN ls off vs,by rw[kW,a8a rfl],RS xB,fun j hj=>XH xB fun hh=>hj _ (Q7.2 rfl) ⟨rfl,hh.1,?_⟩⟩
       rw[show xN E T=vs.length by simp only[xN,hT];exact jB.symm];exact hh.2
      ·exact⟨l,by rw[kW,aBa e];exact hl,rfl,fun _ _=>rfl⟩
     ·rfl
    ·rfl
   ·rename_i a sz i off hx
    rw[hx] at h;split
    ·rfl
    ·rename_i st' hs
     split
     ·refine aX rfl (eg fun d=>aX ?_ rfl)
      split
      ·exact h _ (((ze hs).mono fun q hq=>Q8 _ (D8 hv q hq)).gW (awa ..))
      ·rfl
     ·rfl
   ·rfl
 ·rfl
theorem RH{lo hi mx:Option af}{K K':af→St→Option R}(h:∀ v s,rk (fZ [x.bR]) st s→K v s=K' v s):uA E T dst x lo hi mx st K=uA E T dst x lo hi mx st K':=by
 unfold uA
 repeat' (first|rfl|exact h _ _ (.refl _ _)|apply vf|apply eg|intro _|split)
 all_goals
  rename_i hc _;refine h _ _ ((rk.refl _ _).NV (by rw[‹x.bR=ai.mX _›];simp[fZ]) ?_)
  simp only[aGa] at hc;simpa using hc.1.1.2
theorem NE{op:BinOp}{K K':af→Option R}(h:∀ v,K v=K' v):KD E op T x y K=KD E op T x y K':=by rw[funext h]
theorem P9{op:UnOp}{K K':af→Option R}(h:∀ v,K v=K' v):TE op x K=TE op x K':=by rw[funext h]
theorem Et{S D:TypeId}{K K':af→St→Option R}(h:∀ v,K v st=K' v st):p6 E S D x st K=p6 E S D x st K':=by
 unfold p6
 repeat' (first|rfl|exact h _|apply aX|apply eg|intro _|split)
theorem IU{ps:List (Nat×af)}{K K':af→St→Option R}(h:∀ v,K v st=K' v st):xH E T ps st K=xH E T ps st K':=by
 unfold xH
 repeat' (first|rfl|exact h _|apply aX|apply eg|intro _|split)
theorem IS{len:Nat}{ps:List (Nat×af)}{K K':af→St→Option R}(h:∀ v s,rk (nJ (ps.map (·.2))) st s→K v s=K' v s):mJ E T dst len ps st K=mJ E T dst len ps st K':=by
 unfold mJ
 repeat' (first|rfl|exact h _ _ ((EI ‹nt _ _ _ _=some _›).Ax ‹St.arr _ _=none›)|apply aX|apply eg|intro _|split)
theorem Kb{K K':af→St→Option R}(h:∀ v s,rk [] st s→K v s=K' v s):n9 E T dst x y st K=n9 E T dst x y st K':=by
 unfold n9
 repeat' (first|rfl|exact h _ _ ((rk.refl _ _).Ax ‹St.arr _ _=none›)|apply aX|apply eg|intro _|split)
theorem NN{o:Nat}{ls:List ai}{K K':af→St→Option R}(h:∀ v s,rk [] st s→K v s=K' v s):Gb E T o ls st K=Gb E T o ls st K':=by
 unfold Gb
 repeat' (first|rfl|exact h _ _ ((rk.refl _ _).UX ‹St.dT _ _=none›)|apply aX|apply eg|intro _|split)
theorem Ga{K K':af→St→Option R}(h:∀ v s,rk (nJ [x,y]) st s→K v s=K' v s):sD E T dst x y st K=sD E T dst x y st K':=by
 unfold sD
 repeat' (first|rfl|(have hb:=vG ‹af.qR _ _=some _›;exact h _ _ ((hb.mono fun q hq=>by simp[nJ,hq]).Ax ‹St.arr _ _=none›))|apply aX|apply eg|intro _|split)
 all_goals
  have hb:=vG ‹af.qR _ _=some _›;refine h _ _ ((hb.mono fun q hq=>by simp[nJ,hq]).NV ?_ ‹St.arr _ _=none›)
  have hx:=‹x.bR=ai.mX _›;cases x<;>simp[af.bR] at hx;subst hx;simp[nJ,af.uk,fZ]
theorem XD{u:Ty}{l:ai}{d:List u.nM}{c:List Nat}(h:TH st u l=some (d,c)):∀ q∈c,l=.mX q:=by
 unfold TH at h;split at h
 ·simp only[Ob,aia] at h;obtain⟨_,rfl⟩:=h;intro q hq;cases hq
 ·split at h
  ·rename_i A _
   cases hc:(A.sh||!A.md.lK (Ry u)||fk _ st.pin ||(look st.gc _).isSome) with
   |true=>rw[hc] at h;cases h
   |false=>
    rw[hc,aoa] at h;split at h
    ·simp only[Ob,aia] at h;obtain⟨_,rfl⟩:=h;intro q hq;rw[Q7.1 hq]
    ·cases h
  ·cases h
 ·cases h
theorem ZU:∀{t:Ty} {ls r:List ai} {d:t.nM} {c:List Nat},Ht st t ls=some (d,r,c)→(∀ q∈c,ai.mX q∈ls)∧∀ l∈r,l∈ls:=by
 have bR:∀{t:Ty} {ls r:List ai} {d:t.nM} {c:List Nat},(match ls with|[]=>none|l::r=>(l.vJ st t).map fun d=>(d,r,([]:List Nat)))=some (d,r,c)→(∀ q∈c,ai.mX q∈ls)∧∀ l∈r,l∈ls:=by
  intro t ls r d c h
  match ls,h with
  |l::ls,h=>simp only[aKa,aia] at h;obtain⟨_,_,_,rfl,rfl⟩:=h;exact⟨fun q hq=>(by cases hq),fun l hl=>Q8 _ hl⟩
 intro t;induction t with
 |int k=>exact fun h=>bR h
 |bool=>exact fun h=>bR h
 |str=>exact fun h=>bR h
 |slice u _=>
  intro ls r d c h
  match ls,h with
  |[],h=>simp[Ht] at h
  |l::ls,h=>simp only[Ht,aKa,aia] at h;obtain⟨⟨d',c'⟩,hd,_,rfl,rfl⟩:=h;exact⟨fun q hq=>(by rw[←XD hd q hq];exact awa ..),fun l hl=>Q8 _ hl⟩
 |dg a b Nj ihb=>
  intro ls r d c h;simp only[Ht] at h;split at h
  ·rename_i x r1 cc h1
   split at h
   ·rename_i y r2 cc2 h2
    simp only[Ob,aia] at h;obtain⟨_,rfl,rfl⟩:=h;obtain⟨p1,p2⟩:=Nj h1;obtain⟨p3,p4⟩:=ihb h2;refine⟨fun q hq=>?_,fun l hl=>p2 l (p4 l hl)⟩;rcases ana.1 hq with hq|hq
    ·exact p1 q hq
    ·exact p2 _ (p3 q hq)
   ·cases h
  ·cases h
 |one a ih=>exact fun h=>ih h
 |arr n t _=>intro ls r d c h;cases h
theorem IZ{t:Ty}:∀{ps:List (Nat×af)} {i:Nat} {l:List t.nM} {c:List Nat},uE t i ps st=some (l,c)→∀ q∈c,qj.a q∈nJ (ps.map (·.2))
 |[],i,l,c,h=>by simp only[uE,Ob,aia] at h;obtain⟨_,rfl⟩:=h;intro q hq;cases hq
 |(j,v)::ps,i,l,c,h=>by
  simp only[uE] at h;cases hb:Nat.beq i j with
  |false=>rw[hb] at h;cases h
  |true=>
   rw[hb,aja] at h;split at h
   ·rename_i ls hl
    split at h
    ·rename_i d c0 hT
     split at h
     ·rename_i l' c' hr
      simp only[Ob,aia] at h;obtain⟨_,rfl⟩:=h;intro q hq;simp only[aHa,nJ];rcases ana.1 hq with hq|hq
      ·exact aya _ (D8 hl _ (PG ((ZU hT).1 q hq)))
      ·exact ara _ (IZ hr q hq)
     ·cases h
    ·cases h
   ·cases h
theorem rk.uo{W:List qj}{C:List Nat}{A:jV}(hC:∀ c∈C,qj.a c∈W)(hd:st.arr dst=none):rk W st {st with cT:=(dst,A)::lu C st.cT}:=
 ⟨⟨rfl,rfl,rfl,rfl⟩,rfl,fun q l hl _ _=>⟨l,hl,rfl,fun _ _=>rfl⟩,fun x B hB hn _=>by
  have e1:x∉C:=fun e=>hn (hC x e);have e2:x≠dst:=fun e=>by subst e;rw[hd] at hB;cases hB
  simp only[St.arr,aw,zI,aBa (bDa e2),aBa e1];exact hB,fun _ _ _=>rfl⟩
theorem Ho{len:Nat}{ps:List (Nat×af)}{K K':af→St→Option R}(h:∀ v s,rk (nJ (ps.map (·.2))) st s→K v s=K' v s):li E T dst len ps st K=li E T dst len ps st K':=by
 unfold li
 repeat' (first|rfl|exact h _ _ (rk.uo (IZ ‹uE _ _ _ _=some _›) ‹St.arr _ _=none›)|apply aX|apply eg|intro _|split)
theorem NC{b:Nat}{K K':af→St→Option R}(hy:y.bR=.mX b)(h:∀ v s,rk (nJ [x,y]) st s→K v s=K' v s):rz E T dst x b st K=rz E T dst x b st K':=by
 have hb:qj.a b∈nJ [x,y]:=by cases y<;>simp[af.bR] at hy;subst hy;simp[nJ,af.uk,fZ]
 unfold rz
 repeat' (first|rfl|exact h _ _ (rk.uo (fun c hc=>by rw[Q7.1 hc];exact hb) ‹St.arr _ _=none›)|apply aX|apply eg|intro _|split)
 all_goals
  refine h _ _ (rk.uo (fun c hc=>?_) ‹St.arr _ _=none›);simp only[ala,bXa,bca] at hc;rcases hc with rfl|rfl
  ·have hx:=‹x.bR=ai.mX _›
   cases x<;>simp[af.bR] at hx;subst hx;simp[nJ,af.uk,fZ]
  ·exact hb
theorem Ke{a i o:Nat}{K K':St→Option R}(h:∀ s,ky st s→s.eH=st.eH→K s=K' s):FP st a i o K=FP st a i o K':=by
 unfold FP
 repeat' (first|rfl|exact h _ ⟨rfl,rfl,rfl,rfl⟩ rfl|apply aX|apply eg|intro _|split)
theorem Vp{a sz i:Nat}{K K':St→Option R}(h:∀ s,ky st s→s.eH=st.eH→K s=K' s):BK st a sz i K=BK st a sz i K':=by unfold BK;exact aX (h _ ⟨rfl,rfl,rfl,rfl⟩ rfl) rfl
theorem JG{a o:Nat}{K K':St→Option R}(h:∀ s,ky st s→s.eH=st.eH→K s=K' s):A7 st a o K=A7 st a o K':=by
 unfold A7
 repeat' (first|rfl|exact h _ ⟨rfl,rfl,rfl,rfl⟩ rfl|apply aX|apply eg|intro _|split)
theorem OX{a sz i off:Nat}{K K':St→Option R}(h:∀ s,ky st s→s.eH=st.eH→K s=K' s):uB E T a sz i off v st K=uB E T a sz i off v st K':=by
 unfold uB;split
 ·refine aX ?_ rfl
  split
  ·refine Ke fun s1 b1 r1=>Vp fun s2 b2 r2=>aX ?_ rfl
   split
   ·split
    ·refine aX rfl (JG fun s b r=>h s (b1.trans (b2.trans (ky.trans ⟨rfl,rfl,rfl,rfl⟩ b))) (r.trans (r2.trans r1)))
    ·rfl
   ·rfl
  ·refine aX ?_ rfl
   split
   ·split
    ·refine aX rfl (JG fun s b r=>h s (ky.trans ⟨rfl,rfl,rfl,rfl⟩ b) r)
    ·rfl
   ·rfl
  ·rfl
 ·rfl
theorem OQ{K K':af→St→Option R}(h:∀ v s,rk [] st s→K v s=K' v s):sC E T dst st K=sC E T dst st K':=by
 unfold sC
 repeat' (first|rfl|exact h _ _ ((rk.refl _ _).Ax ‹St.arr _ _=none›)|apply aX|apply eg|intro _|split)
theorem OY{a k:Nat}{K K':St→Option R}(h:∀ s,rk [.a a] st s→K s=K' s):uC E T a k v st K=uC E T a k v st K':=by
 unfold uC
 repeat' (first|rfl|exact h _ ((rk.refl _ _).gW (Q7.2 rfl))|apply aX|apply eg|intro _|split)
theorem OZ{K K':St→Option R}(h:∀ s,rk (match We st x with|some _=>[.all]|none=>match x.bR with | .lB ob off=>[.o ob off (xN E T)] | .DX a _ _ _=>.a a::v.uk | .LP a _ _=>[.a a]|_=>[]) st s→K s=K' s):uD E T x v st K=uD E T x v st K':=by
 unfold uD;split
 ·rename_i hn;rw[hn] at h;exact OX fun s b r=>h s (rk.any b r)
 ·rename_i hn
  rw[hn] at h;split
  ·rename_i a k ha
   unfold acT at ha;split at ha
   ·rename_i a' k' n' hl
    cases ha;rw[hl] at h;exact OY h
   ·cases ha
  ·refine RM fun s hs=>h s (hs.mono fun q hq=>?_)
   split at hq
   ·rename_i hx;simpa only[hx] using hq
   ·rename_i hx;simpa only[hx] using hq
   ·cases hq
theorem O0{a sz i o:Nat}{W:List qj}{K K':St→Option R}(ha:qj.a a∈W)(hk:∀ p∈st.cp,p.2.any (ai.Ny a)=true→qj.k p.1∈W)(h:∀ s,rk W st s→K s=K' s):
  FP st a i o (fun s1=>BK s1 a sz i K)=FP st a i o (fun s1=>BK s1 a sz i K'):=by
 unfold FP;cases hA:look st.cT a with
 |none=>rfl
 |some A=>
  simp only;split
  ·rename_i vm
   refine vf (fun _=>rfl) (fun hc=>eg fun x=>vf (fun xS=>?_) (fun _=>rfl));unfold BK;refine aX (h _ ?_) rfl;simp only[aGa] at hc;have OJ:st.dT o=none:=by simpa using hc.1.1.2
   simp only[Q3,aqa] at xS;refine⟨⟨rfl,rfl,rfl,rfl⟩,rfl,fun q ls hq hkq _=>⟨ls,?_,rfl,fun _ _=>rfl⟩,fun q B hB hn _=>?_,fun _ _ _=>rfl⟩
   ·have hoq:o≠q:=fun e=>by rw[e,hq] at OJ;cases OJ
    have wK:ls.any (ai.Ny a)=false:=by
     cases hm:ls.any (ai.Ny a) with
     |false=>rfl
     |true=>exact absurd (hk (q,ls) (ep hq) hm) hkq
    have key:∀{v:Nat} {ls:List ai},ls.any (ai.Ny a)=false→ls.map (qU a v sz)=ls:=by
     intro v ls;induction ls with
     |nil=>intro _;rfl
     |cons l r ih=>
      intro hm;simp only[cLa,aGa] at hm;rw[aHa,ih hm.2]
      congr 1
      cases l with
      |E5 a' v' sz' i' off=>
       have:Nat.beq a' a=false:=by simpa[ai.Ny] using hm.1
       simp[qU,this]
      |_=>rfl
    have afq:∀(v:Nat) (l:List (Nat×List ai)),look (l.map fun p=>(p.1,p.2.map (qU a v sz))) q=(look l q).map (·.map (qU a v sz)):=by
     intro v l;induction l with
     |nil=>rfl
     |cons p r ih=>
      obtain⟨k,m⟩:=p;rw[aHa,aw,aw];by_cases e:k=q
      ·simp[e]
      ·simp only[e,aka];exact ih
    simp only[St.dT,afq,zK (show q∉([]:List Nat) by simp),aw,aBa hoq]
    have Ix:look st.cp q=some ls:=hq;rw[Ix,bLa,key wK]
   ·have ik:a≠q:=fun e=>hn (by rw[←e];exact ha)
    have ado:look (zu (LC a (st.dH a)) A.t x 0) q=none:=by
     cases hl:look (zu (LC a (st.dH a)) A.t x 0) q with
     |none=>rfl
     |some C=>have:=(xS.2 _ (ep hl));simp only[Q3] at this;rw[hB] at this;simp at this
    simp only[St.arr,aw,aBa ik,Ns,ado];exact hB
  ·rfl
theorem ND{K K':af→St→Option R}(h:∀ v s,rk (nJ [x,y]++Xv st [x,y]) st s→K v s=K' v s):rA E T dst x y st K=rA E T dst x y st K':=by
 unfold rA;split
 ·rename_i b hb
  have hy:y.bR=.mX b:=by
   unfold Yz at hb;split at hb
   ·rename_i b' hl
    split at hb
    ·rename_i B _
     cases hc:(!B.sh&&Md.lK B.md .bA) with
     |false=>rw[hc] at hb;cases hb
     |true=>rw[hc,aja,Ob] at hb;rw[hl,hb]
    ·cases hb
   ·cases hb
  exact NC hy fun v s hs=>h v s (hs.mono fun q hq=>aya _ hq)
 ·split
  ·rename_i a v sz i off hl
   refine aX ?_ rfl;have hW:Xv st [x,y]=.a (LC a v off)::(st.cp.filter fun p=>p.2.any (ai.Ny a)).map fun p=>.k p.1:=by simp only[Xv,hl]
   have hx:x=.one (.E5 a v sz i off):=by cases x<;>simp[af.bR] at hl;rw[hl]
   refine O0 (W:=nJ [x,y]++Xv st [x,y]) ?_ ?_ fun s hs=>?_
   ·rw[hx];simp[nJ,af.uk,fZ]
   ·intro p hp hm
    rw[hW];exact ara _ (Q8 _ (a0a.2 ⟨p,bRa.2 ⟨hp,hm⟩,rfl⟩))
   ·refine Ga fun v' s' Ca=>h v' s' (hs.trans (Ca.mono fun q hq=>?_))
    simp only[nJ,af.uk,fZ,bha,ana,Q7] at hq;rcases hq with rfl|hq
    ·rw[hW];exact ara _ (awa ..)
    ·refine aya _ ?_
     simp only[nJ,bha,ana];exact .inr hq
  ·exact Ga fun v s hs=>h v s (hs.mono fun q hq=>aya _ hq)
theorem NG{b:Builtin}{ts:List TypeId}{vs:List af}{K K':af→St→Option R}(h:∀ v s,rk (nJ vs++Xv st vs) st s→K v s=K' v s):nQ E b dst ts vs st K=nQ E b dst ts vs st K':=by
 unfold nQ
 repeat' (first|rfl|exact h _ _ (.refl _ _)|exact ND h|apply aX|apply eg|intro _|split)
theorem NK{K K':af→St→Option R}(h:∀ v s,rk [] st s→K v s=K' v s):rB E T dst st K=rB E T dst st K':=by
 unfold rB
 repeat' (first|rfl|exact h _ _ ((rk.refl _ _).Ax ‹St.arr _ _=none›)|apply aX|apply eg|intro _|split)
theorem OV{K K':af→St→Option R}(h:∀ v,K v st=K' v st):uz E T x y st K=uz E T x y st K':=by
 unfold uz
 repeat' (first|rfl|exact h _|apply aX|apply eg|intro _|split)
theorem Kc{K K':af→St→Option R}(h:∀ v s,rk (fZ [x.bR]) st s→K v s=K' v s):oa E T x y v st K=oa E T x y v st K':=by
 unfold oa
 repeat' (first|rfl|exact h _ _ ((rk.refl _ _).gW (by rw[‹x.bR=ai.mX _›];simp[fZ]))|apply aX|apply eg|intro _|split)
def nE(s:iL):Prop:=∀{R:Type} {dst:Nat} {args:List af} {st:St} {K K' KP KP':af→St→Option R},
 (∀ v q,rk (s.Lh args st) st q→K v q=K' v q)→(∀ v q,ky st q→KP v q=KP' v q)→s.run dst args st K KP=s.run dst args st K' KP'
def AT(L:lM):Prop:=∀{R:Type} {st:St} {K K':Exit→St→Option R} {KP KP':af→St→Option R},
 (∀ e q,ky st q→K e q=K' e q)→(∀ v q,ky st q→KP v q=KP' v q)→L.run st K KP=L.run st K' KP'
theorem Kv(hS:∀ f s,E.BG f=some s→nE s){o:Oper}{K K' KP KP':af→St→Option R}(h:∀ v s,rk (uL E o st) st s→K v s=K' v s)(hp:∀ v s,ky st s→KP v s=KP' v s):
  mw E o st K KP=mw E o st K' KP':=by
 have h0:∀ v,K v st=K' v st:=fun v=>h v st (.refl _ _);have p0:∀ v,KP v st=KP' v st:=fun v=>hp v st (.refl _);unfold mw;split
 ·exact h0 _
 ·exact h0 _
 ·split
  ·exact aX (h0 _) (h0 _)
  ·rfl
 ·split<;>first|exact h0 _|rfl
 ·refine aX (OQ fun v s hs=>h v s (hs.mono fun q hq=>by cases hq)) ?_
  split
  ·exact NN fun v s hs=>h v s (hs.mono fun q hq=>by cases hq)
  ·rfl
 ·split
  ·exact NN fun v s hs=>h v s (hs.mono fun q hq=>by cases hq)
  ·rfl
 ·exact IU h0
 ·rename_i T len iy ho
  exact aX (Ho fun v s hs=>h v s (hs.mono fun q hq=>by rw[cza] at hq;simp only[uL,ho];exact hq)) (IS fun v s hs=>h v s (hs.mono fun q hq=>by rw[cza] at hq;simp only[uL,ho];exact hq))
 ·exact KE h0
 ·rename_i T x v ho
  exact OZ (fun s hs=>h _ s (hs.mono fun q hq=>by simp only[uL,ho];exact hq))
 ·exact NE h0
 ·exact P9 h0
 ·exact Et h0
 ·exact Kb fun v s hs=>h v s (hs.mono fun q hq=>by cases hq)
 ·rename_i T x lo hi mx ho
  exact RH fun v s hs=>h v s (hs.mono fun q hq=>by simpa only[uL,ho] using hq)
 ·exact BC h0
 ·exact aX (IW h0) rfl
 ·exact BD h0
 ·exact IX h0
 ·split
  ·split
   ·exact h0 _
   ·rfl
  ·rfl
 ·rename_i c ho
  split
  ·rename_i b hb
   exact NG fun v s hs=>h v s (hs.mono fun q hq=>by simpa only[uL,ho,hb] using hq)
  ·rename_i f hf
   split
   ·rename_i s hs;exact hS _ s hs (fun v q hq=>h v q (hq.mono fun p hp=>by simpa only[uL,ho,hf,hs] using hp)) hp
   ·rfl
  ·rfl
 ·split
  ·split
   ·rfl
   ·exact h0 _
   ·rfl
  ·rfl
 ·split
  ·exact p0 _
  ·rfl
 ·exact NK fun v s hs=>h v s (hs.mono fun q hq=>by cases hq)
 ·exact OV h0
 ·rename_i T x k v ho
  exact Kc fun v s hs=>h v s (hs.mono fun q hq=>by simpa only[uL,ho] using hq)
 ·rfl
theorem GU(hS:∀ f s,E.BG f=some s→nE s){o:Oper}{K K' KP KP':af→St→Option R}(h:∀ v s,ky st s→K v s=K' v s)(hp:∀ v s,ky st s→KP v s=KP' v s):
 mw E o st K KP=mw E o st K' KP':=Kv hS (fun v s hs=>h v s hs.iZ) hp
theorem SP{o:Oper}(ho:vM o.op=true)(hd:yw E o st=true){K K' KP KP':af→St→Option R}(h0:∀ v,K v st=K' v st):
  mw E o st K KP=mw E o st K' KP':=by
 unfold mw;split<;>rename_i mL<;>simp only[mL,vM,asa] at ho
 ·exact h0 _
 ·exact h0 _
 ·split
  ·exact aX (h0 _) (h0 _)
  ·rfl
 ·split<;>first|exact h0 _|rfl
 ·exact IU h0
 ·exact KE h0
 ·exact NE h0
 ·exact P9 h0
 ·exact Et h0
 ·simp only[yw,mL] at hd
  unfold uA
  repeat' (first|rfl|exact h0 _|apply vf|apply eg|intro _|split)
  all_goals simp_all
 ·exact BC h0
 ·exact aX (IW h0) rfl
 ·exact BD h0
 ·exact IX h0
 ·split
  ·split
   ·exact h0 _
   ·rfl
  ·rfl
 ·split
  ·rename_i b hb
   simp only[hb] at ho;unfold nQ;split
   ·repeat' (first|rfl|exact h0 _|apply aX|apply eg|intro _|split)
   ·simp at ho
   ·repeat' (first|rfl|exact h0 _|apply aX|apply eg|intro _|split)
   ·repeat' (first|rfl|exact h0 _|apply aX|apply eg|intro _|split)
   ·rfl
  ·rename_i f hf;simp only[hf,asa] at ho
  ·rfl
 ·split
  ·split
   ·rfl
   ·exact h0 _
   ·rfl
  ·rfl
theorem BE{d:Option Tmp}{v:af}{K K':St→Option R}(h:∀ s,ky st s→K s=K' s):pe d v st K=pe d v st K':=by
 cases d with
 |none=>exact h _ (.refl _)
 |some d=>exact aX rfl (h _ ⟨rfl,rfl,rfl,rfl⟩)
theorem ED(hS:∀ f s,E.BG f=some s→nE s){all:List Oper}:∀{l:List Oper} {st:St} {K K':St→Option R} {KP KP':af→St→Option R},(∀ s,ky st s→K s=K' s)→(∀ v s,ky st s→KP v s=KP' v s)→
  qd E all l st K KP=qd E all l st K' KP'
 |[],st,K,K',KP,KP',h,hp=>h _ (.refl _)
 |o::rest,st,K,K',KP,KP',h,hp=>by
  have Dt:∀ q,ky st q→mw E o q (fun v st'=>pe o.dst v st' fun s=>qd E all rest s K KP) KP=mw E o q (fun v st'=>pe o.dst v st' fun s=>qd E all rest s K' KP') KP':=fun q hq=>
   GU hS (fun v s hs=>BE fun s' Ca=>ED hS (fun s'' Nf=>h _ (hq.trans (hs.trans (Ca.trans Nf)))) (fun v s'' Nf=>hp _ _ (hq.trans (hs.trans (Ca.trans Nf))))) (fun v s hs=>hp _ _ (hq.trans hs))
  have skip:∀ q,ky st q→pe o.dst (.one .vU) q (fun s=>qd E all rest s K KP)=pe o.dst (.one .vU) q (fun s=>qd E all rest s K' KP'):=fun q hq=>
   BE fun s hs=>ED hS (fun s'' Nf=>h _ (hq.trans (hs.trans Nf))) (fun v s'' Nf=>hp _ _ (hq.trans (hs.trans Nf)))
  simp only[qd];split
  ·exact Dt _ (.refl _)
  ·split
   ·rfl
   ·split
    ·exact aX (aX (Dt _ ⟨rfl,rfl,rfl,rfl⟩) (skip _ ⟨rfl,rfl,rfl,rfl⟩)) (aX (skip _ ⟨rfl,rfl,rfl,rfl⟩) (Dt _ ⟨rfl,rfl,rfl,rfl⟩))
    ·exact skip _ (.refl _)
    ·rfl
theorem Vj(hS:∀ f s,E.BG f=some s→nE s){all:List Oper}{A:List (List Nat)}{i:Nat}{o:Oper}{log:List (Nat×List qj)}{K K':List (Nat×List qj)→St→Option R}{KP KP':af→St→Option R}
  (h:∀ lg s,ky st s→K lg s=K' lg s) (hp:∀ v s,ky st s→KP v s=KP' v s):Gm E all A i o log st K KP=Gm E all A i o log st K' KP':=by
 unfold Gm;refine aX (aX (GU hS (fun v s hs=>BE fun s' Ca=>h _ _ (hs.trans Ca)) fun v s hs=>hp _ _ hs) rfl) (aX (GU hS (fun v s hs=>BE fun s' Ca=>h _ _ (hs.trans Ca)) fun v s hs=>rfl) rfl)
theorem E9(hS:∀ f s,E.BG f=some s→nE s){all:List Oper}{A:List (List Nat)}:∀{l:List Nat} {log:List (Nat×List qj)} {st:St} {K K':St→Option R} {KP KP':af→St→Option R},(∀ s,ky st s→K s=K' s)→(∀ v s,ky st s→KP v s=KP' v s)→
  Hw E all A l log st K KP=Hw E all A l log st K' KP'
 |[],log,st,K,K',KP,KP',h,hp=>h _ (.refl _)
 |i::rest,log,st,K,K',KP,KP',h,hp=>by
  have Dt:∀ o q,ky st q→Gm E all A i o log q (fun lg s=>Hw E all A rest lg s K KP) KP=Gm E all A i o log q (fun lg s=>Hw E all A rest lg s K' KP') KP':=fun o q hq=>
   Vj hS (fun lg s hs=>E9 hS (fun s' Ca=>h _ (hq.trans (hs.trans Ca))) (fun v s' Ca=>hp _ _ (hq.trans (hs.trans Ca)))) (fun v s hs=>hp _ _ (hq.trans hs))
  have skip:∀(o:Oper) q,ky st q→pe o.dst (.one .vU) q (fun s=>Hw E all A rest log s K KP)=pe o.dst (.one .vU) q (fun s=>Hw E all A rest log s K' KP'):=fun o q hq=>
   BE fun s hs=>E9 hS (fun s'' Nf=>h _ (hq.trans (hs.trans Nf))) (fun v s'' Nf=>hp _ _ (hq.trans (hs.trans Nf)))
  simp only[Hw,WA];split
  ·rfl
  ·split
   ·exact Dt _ _ (.refl _)
   ·split
    ·rfl
    ·split
     ·exact aX (aX (Dt _ _ ⟨rfl,rfl,rfl,rfl⟩) (skip _ _ ⟨rfl,rfl,rfl,rfl⟩)) (aX (skip _ _ ⟨rfl,rfl,rfl,rfl⟩) (Dt _ _ ⟨rfl,rfl,rfl,rfl⟩))
     ·exact skip _ _ (.refl _)
     ·rfl
theorem XR(hS:∀ f s,E.BG f=some s→nE s){ops:List Oper}{K K':St→Option R}{KP KP':af→St→Option R}(h:∀ s,ky st s→K s=K' s)(hp:∀ v s,ky st s→KP v s=KP' v s):
  Ve E ops st K KP=Ve E ops st K' KP':=by
 unfold Ve;refine aX ?_ rfl;split
 ·exact aX (E9 hS h hp) rfl
 ·rfl
theorem Qj(hS:∀ f s,E.BG f=some s→nE s)(hL:∀ i L,E.oE i=some L→AT L)(c:Code):∀{st:St} {K K':Exit→St→Option R} {KP KP':af→St→Option R},
  (∀ e s,ky st s→K e s=K' e s)→(∀ v s,ky st s→KP v s=KP' v s)→tB E c st K KP=tB E c st K' KP':=by
 induction c with
 |skip=>intro st K K' KP KP' h hp;exact h _ _ (.refl _)
 |region id ops draw=>
  intro st K K' KP KP' h hp;refine aX ?_ (ED hS (fun s hs=>h _ s hs) hp);cases hl:E.oE (id+1000000) with
  |some L=>exact hL _ _ hl h hp
  |none=>exact XR hS (fun s hs=>h _ s hs) hp
 |seq a b Nj ihb=>
  intro st K K' KP KP' h hp;refine Nj (fun e s hs=>?_) hp;cases e with
  |normal=>exact ihb (fun e s' Ca=>h e s' (hs.trans Ca)) (fun v s' Ca=>hp v s' (hs.trans Ca))
  |_=>exact h _ s hs
 |cond c t e iht ihe=>
  intro st K K' KP KP' h hp;show(match (ev E st c).FX with|some b=>bif b then tB E t st K KP else tB E e st K KP|none=>none)=(match (ev E st c).FX with|some b=>bif b then tB E t st K' KP' else tB E e st K' KP' | none=>none)
  split
  ·exact aX (iht h hp) (ihe h hp)
  ·rfl
 |block id b ih=>
  intro st K K' KP KP' h hp;show(match E.oE id with
   |some L=>L.run st K KP
   |none=>tB E b st (fun e s=>match e with | .exit i=>(bif Nat.beq i id then K .normal s else K (.exit i) s)|e=>K e s) KP)=(match E.oE id with
   |some L=>L.run st K' KP'
   |none=>tB E b st (fun e s=>match e with | .exit i=>(bif Nat.beq i id then K' .normal s else K' (.exit i) s)|e=>K' e s) KP')
  split
  ·rename_i L hl;exact hL _ _ hl h hp
  ·refine ih (fun e s hs=>?_) hp
   cases e with
   |exit i=>exact aX (h _ s hs) (h _ s hs)
   |_=>exact h _ s hs
 |exit id=>intro st K K' KP KP' h hp;exact h _ _ (.refl _)
 |ret=>intro st K K' KP KP' h hp;exact h _ _ (.refl _)
 |_=>intros;rfl
end
end Go.Fx
namespace Go.Fx
section
variable {E:tr} {st s:St} {o:Oper}
theorem NP(hD:∀ f s,E.BG f=some s→pt s)(ho:vM o.op=true)(hd:yw E o st=true){u:Out}(h:Hs E o st=some u):u=⟨u.v,st,true⟩:=by
 have h1:mw E o st (fun v _=>oD v st) (fun _ _=>none)=some u:=by exact(SP (E:=E) (st:=st) ho hd (K:=oD) (K':=fun v _=>oD v st) (KP:=O5) (KP':=fun _ _=>none) (fun v=>rfl)).symm.trans h
 rw[B5 hD h] at h1;obtain⟨v,q,b⟩:=u;cases b with
 |false=>cases h1
 |true=>simp only[sk,aja,oD,Ob,Out.mk.injEq] at h1;rw[←h1.2.1]
theorem ZR(hD:∀ f s,E.BG f=some s→pt s)(hS:∀ f s,E.BG f=some s→nE s){u:Out}(h:Hs E o st=some u):ky st u.s∧(u.ok=true→rk (uL E o st) st u.s):=by
 classical
 have h1:mw E o st (fun v q=>if rk (uL E o st) st q then oD v q else none) (fun v q=>if ky st q then O5 v q else none)=some u:=by rw[←h];exact(Kv hS (fun v q hq=>(a8a hq).symm) (fun v q hq=>(a8a hq).symm)).symm
 rw[B5 hD h] at h1;obtain⟨v,q,b⟩:=u;cases b with
 |false=>
  simp only[sk,aoa] at h1;split at h1
  ·rename_i hb;exact⟨hb,fun e=>by cases e⟩
  ·cases h1
 |true=>
  simp only[sk,aja] at h1;split at h1
  ·rename_i hb;exact⟨hb.iZ,fun _=>hb⟩
  ·cases h1
def tD(st s:St):qj→Prop
 |.o ob off n=>∀ ls,st.dT ob=some ls→∃ xG,s.dT ob=some xG∧xG.length=ls.length∧∀ j,off≤j→j<off+n→xG[j]? = ls[j]?
 |.a a=>(∀ A,st.arr a=some A→s.arr a=some A)∧s.dH a=st.dH a
 |.k _=>True
 |.all=>True
theorem tD.refl(st:St):∀ p,tD st st p
 |.o _ _ _=>fun ls h=>⟨ls,h,rfl,fun _ _ _=>rfl⟩
 |.a _=>⟨fun _ h=>h,rfl⟩
 |.k _=>trivial
 |.all=>trivial
theorem tD.trans{a b c:St}:∀{p:qj},tD a b p→tD b c p→tD a c p
 |.o _ _ _,h,k=>fun ls hl=>by obtain⟨l1,h1,h2,h3⟩:=h ls hl;obtain⟨l2,k1,k2,k3⟩:=k l1 h1;exact⟨l2,k1,k2.trans h2,fun j a b=>(k3 j a b).trans (h3 j a b)⟩
 |.a _,h,k=>⟨fun A hA=>k.1 A (h.1 A hA),k.2.trans h.2⟩
 |.k _,_,_=>trivial
 |.all,_,_=>trivial
theorem rk.lJ{W:List qj}(h:rk W st s){p:qj}(hp:∀ q∈W,UA p q=true):tD st s p:=by
 cases p with
 |o ob off n=>
  intro ls hl;obtain⟨l1,h1,h2,h3⟩:=h.dT ob ls hl (fun hk=>by have:=hp _ hk;simp[UA] at this) (fun hk=>by have:=hp _ hk;simp[UA] at this)
  refine⟨l1,h1,h2,fun j a b=>h3 j fun q hq hh=>?_⟩;have:=hp q hq;cases q with
  |a x=>exact hh
  |k x=>exact hh
  |all=>exact hh
  |o ob' adQ n'=>obtain⟨rfl,h4,h5⟩:=hh;simp only[UA,b_a,cKa,Bool.false_or,a6a] at this;rcases this with e|e<;>have:=aZa e<;>omega
 |a x=>
  have hn:qj.a x∉W:=fun hx=>by have:=hp _ hx;simp[UA] at this
  have ha:qj.all∉W:=fun hk=>by have:=hp _ hk;simp[UA] at this
  exact⟨fun A hA=>h.arr x A hA hn ha,h.EM x hn ha⟩
 |k x=>trivial
 |all=>trivial
theorem Bn{st s:St}(h1:s.cp=st.cp)(h2:s.cT=st.cT)(h3:s.gc=st.gc)(h4:s.EM=st.EM)(p:qj):tD st s p:=by
 cases p with
 |o ob off n=>exact fun ls hl=>⟨ls,by simpa only[St.dT,h1] using hl,rfl,fun _ _ _=>rfl⟩
 |a x=>exact⟨fun A hA=>(by simpa only[St.arr,h2,h3] using hA),by simp only[St.dH,h4]⟩
 |k x=>trivial
 |all=>trivial
theorem Vc{st s:St}{o off n:Nat}{ls xG:List ai}{c:List ai}(hb:s.cK=st.cK)(hl:xG.length=ls.length)(hj:∀ j,off≤j→j<off+n→xG[j]? = ls[j]?)(h:qS (st.kg o 0 ls) off n=some c):qS (s.kg o 0 xG) off n=some c:=by
 have vJ:∀(q:St) (l:List ai) (i j:Nat),(q.kg o i l)[j]? = (l[j]?).map (q.res o (i+j)):=by
  intro q l;induction l with
  |nil=>intro i j;simp[St.kg]
  |cons x l ih=>
   intro i j;cases j with
   |zero=>simp[St.kg]
   |succ j=>simp only[St.kg,bua];rw[ih,show i+1+j=i+(j+1) by omega]
 have Bj:∀ j l,s.res o j l=st.res o j l:=fun j l=>by cases l<;>simp[St.res,hb]
 unfold qS at h ⊢;rw[iX] at h ⊢;rw[hl];cases hc:Nat.ble (off+n) ls.length with
 |false=>simp[hc] at h
 |true=>
  simp only[hc,aja,Ob] at h ⊢;rw[←h];apply bKa;intro k;by_cases hk:k<n
  ·rw[bra hk,bra hk,bQa,bQa,vJ,vJ,hj _ (by omega) (by omega)]
   congr 1
   funext l;exact Bj _ l
  ·rw[bEa (by simp;omega),bEa (by simp;omega)]
theorem Vm(ho:vM o.op=true)(hd:yw E o st=true)(hb:ky st s)(he:∀ x∈o.op.operands,ev E s x=ev E st x)(hk:∀ p∈wx E o st,tD st s p):
  yw E o s=true∧∀{R:Type} {r:R} {K:af→Option R},mw E o st (fun v _=>K v) (fun _ _=>none)=some r→mw E o s (fun v _=>K v) (fun _ _=>none)=some r:=by
 have hbl:s.cK=st.cK:=hb.2.2.1;have mX:∀{x:Operand} {a:Nat},(ev E st x).bR=.mX a→(∀ p∈fZ [(ev E st x).bR],tD st s p)→∀ A,st.arr a=some A→s.arr a=some A:=fun {x a} hx hh A hA=>(hh (.a a) (by rw[hx];simp[fZ])).1 A hA
 constructor
 ·unfold yw at hd ⊢
  split
  ·rename_i T x lo hi mx mL
   simp only[mL] at hd;rw[he x (by simp[mL,Op.operands])]
   split
   ·rename_i a ha
    rw[ha] at hd;simp only at hd;cases hA:st.arr a with
    |none=>simp[hA] at hd
    |some A=>rw[mX ha (fun p hp=>hk p (by simp only[wx,mL];exact hp)) A hA];simpa[hA] using hd
   ·rfl
  ·rfl
 ·intro R r K h
  unfold mw at h ⊢;split at h<;>rename_i mL<;>simp only[mL,vM,asa] at ho
  ·rw[he _ (by simp[mL,Op.operands])];exact h
  ·rw[he _ (by simp[mL,Op.operands])];exact h
  ·rename_i c a b
   rw[he c (by simp[mL,Op.operands]),he a (by simp[mL,Op.operands]),he b (by simp[mL,Op.operands])];exact h
  ·rw[he _ (by simp[mL,Op.operands])];exact h
  ·rename_i T iy
   have:(iy.toList.map fun p=>(p.1,ev E s p.2))=iy.toList.map fun p=>(p.1,ev E st p.2):=b4a fun p hp=>by rw[he p.2 (by simp[mL,Op.operands];exact⟨p.1,by simpa using hp⟩)]
   rw[this];exact h
  ·rename_i T x
   rw[he x (by simp[mL,Op.operands])]
   have hk:∀ p∈(match (ev E st x).bR with | .lB ob off=>[qj.o ob off (xN E T)] | .DX a _ _ _=>[.a a] | .LP a _ _=>[.a a]|_=>[]),tD st s p:=fun p hp=>hk p (by simp only[wx,mL];exact hp)
   unfold y5 at h ⊢;split at h
   ·cases h
   ·rename_i ti hT
    simp only[hT];split at h
    ·rename_i ob off hx
     rw[hx] at hk;split at h
     ·rename_i ls hl
      obtain⟨xG,h1,h2,h3⟩:=hk _ (Q7.2 rfl) ls hl;split at h
      ·rename_i c hc
       have m9:xN E T=ti.size:=by simp[xN,hT]
       rw[m9] at h3;simp only[h1,Vc hbl h2 h3 hc];exact h
      ·cases h
     ·cases h
    ·exact h
    ·exact h
    ·rename_i a sz i off hx
     rw[hx] at hk;split at h
     ·rename_i A hA
      have hv:=(hk _ (Q7.2 rfl)).2;simp only[(hk _ (Q7.2 rfl)).1 A hA,hv];exact h
     ·cases h
    ·rename_i a k n hx
     rw[hx] at hk;split at h
     ·rename_i A hA
      simp only[(hk _ (Q7.2 rfl)).1 A hA];exact h
     ·cases h
    ·cases h
  ·rename_i op T x y ty
   rw[he x (by simp[mL,Op.operands]),he y (by simp[mL,Op.operands])];exact h
  ·rename_i op T x
   rw[he x (by simp[mL,Op.operands])];exact h
  ·rename_i S D x
   rw[he x (by simp[mL,Op.operands])]
   have hk:∀ p∈fZ [(ev E st x).bR],tD st s p:=fun p hp=>hk p (by simp only[wx,mL];exact hp)
   have hA:∀ a,(ev E st x).bR=.mX a→∀ A,st.arr a=some A→s.arr a=some A:=fun a hx=>mX hx hk;revert h hA;generalize ev E st x=X;intro h hA;unfold p6 at h ⊢;split at h
   ·rename_i si di hS hD
    split at h
    ·exact h
    ·exact h
    ·rename_i l
     split at h
     ·exact h
     ·rename_i a _
      split at h
      ·rename_i A hA'
       have:=hA a rfl A hA';simp only[this];exact h
      ·cases h
     ·cases h
    ·cases h
   ·cases h
  ·rename_i T x lo hi mx
   have hk:∀ p∈fZ [(ev E st x).bR],tD st s p:=fun p hp=>hk p (by simp only[wx,mL];exact hp)
   rw[he x (by simp[mL,Op.operands])]
   have e1:lo.map (ev E s)=lo.map (ev E st):=by cases lo<;>simp;exact he _ (by simp[mL,Op.operands])
   have e2:hi.map (ev E s)=hi.map (ev E st):=by cases hi<;>simp;exact he _ (by simp[mL,Op.operands])
   have e3:mx.map (ev E s)=mx.map (ev E st):=by cases mx<;>simp;exact he _ (by simp[mL,Op.operands])
   rw[e1,e2,e3];simp only[yw,mL] at hd;have hA:∀ a,(ev E st x).bR=.mX a→∀ A,st.arr a=some A→s.arr a=some A:=fun a hx=>mX hx hk;revert hd h hA;generalize (ev E st x)=X;generalize lo.map (ev E st)=LO;generalize hi.map (ev E st)=HI;generalize mx.map (ev E st)=MX;intro h hd hA;unfold uA at h ⊢;split at h
   ·exact h
   ·split at h
    ·split at h
     ·rename_i hX;simp only[hX];exact h
     ·rename_i a hX
      rw[hX] at hd;split at h
      ·rename_i A hA'
       have:=hA a hX A hA';simp only[hA'] at hd;simp only[hX,this];simp only[hd,aja] at h ⊢;exact h
      ·cases h
     ·cases h
    ·cases h
   ·cases h
  ·rename_i T x f
   rw[he x (by simp[mL,Op.operands])];exact h
  ·rename_i T x f
   rw[he x (by simp[mL,Op.operands])];exact h
  ·rename_i T x i
   have hk:∀ p∈fZ [(ev E st x).bR],tD st s p:=fun p hp=>hk p (by simp only[wx,mL];exact hp)
   rw[he x (by simp[mL,Op.operands]),he i (by simp[mL,Op.operands])]
   have hA:∀ a,(ev E st x).bR=.mX a→∀ A,st.arr a=some A→s.arr a=some A:=fun a hx=>mX hx hk;revert h hA;generalize ev E st x=X;generalize ev E st i=Y;intro h hA;unfold mM at h ⊢;split at h
   ·split at h
    ·split at h
     ·rename_i hX;simp only[hX];exact h
     ·rename_i a hX
      split at h
      ·rename_i A hA'
       simp only[hX,hA a hX A hA'];exact h
      ·cases h
     ·cases h
    ·cases h
   ·split at h
    ·split at h
     ·rename_i a hX
      split at h
      ·rename_i A hA'
       simp only[hX,hA a hX A hA'];exact h
      ·cases h
     ·rename_i hX;simp only[hX];exact h
     ·cases h
    ·cases h
   ·cases h
  ·rename_i T x i
   rw[he x (by simp[mL,Op.operands]),he i (by simp[mL,Op.operands])];exact h
  ·rename_i x n
   rw[he x (by simp[mL,Op.operands])];exact h
  ·rename_i c
   have hk:∀ p∈nJ (c.args.toList.map (ev E st)),tD st s p:=fun p hp=>hk p (by simp only[wx,mL];exact hp)
   have ea:c.args.toList.map (ev E s)=c.args.toList.map (ev E st):=b4a fun x hx=>he x (by simp[mL,Op.operands,Call.operands];exact .inr (by simpa using hx))
   rw[ea];split at h
   ·rename_i b hb
    simp only[hb] at ho ⊢;have agH:∀{v:af} {n:Int},(∀ p∈v.uk,tD st s p)→lenOf st v.bR=some n→lenOf s v.bR=some n:=fun {v n} hv hn=>by
     cases v with
     |one l=>
      cases l with
      |mX a=>
       simp only[af.bR,lenOf] at hn ⊢;cases hA:st.arr a with
       |none=>simp[hA] at hn
       |some A=>rw[(hv (.a a) (by simp[af.uk,fZ])).1 A hA];simpa[hA] using hn
      |fy t d=>cases t<;>exact hn
      |_=>exact hn
     |_=>exact hn
    revert hk h;generalize c.args.toList.map (ev E st)=vs;intro hk h;unfold nQ at h ⊢;split at h
    ·rename_i v
     split at h
     ·exact h
     ·split at h
      ·rename_i a vr sz i off hl
       have hve:v=.one (.E5 a vr sz i off):=by cases v<;>simp[af.bR] at hl;rw[hl]
       have hka:=hk (.a a) (by rw[hve];simp[nJ,af.uk,fZ])
       split at h
       ·rename_i A hA
        simp only[hka.1 A hA,hka.2];exact h
       ·cases h
      ·split at h
       ·rename_i n h2 h3
        simp only[agH (fun p hp=>hk p (by simp[nJ,hp])) h2,h3];exact h
       ·cases h
     ·cases h
    ·simp at ho
    ·exact h
    ·exact h
    ·cases h
   ·rename_i f hf;simp only[hf,asa] at ho
   ·cases h
  ·rename_i T x
   rw[he x (by simp[mL,Op.operands])];exact h
end
end Go.Fx
namespace Go.Fx
section
variable {P:Program} {E:tr} (hE:iQ P E.iK) {X:mW} {st:St} {G:Gh} {w:World}
include hE
theorem T5{o:Oper}{act:Act}{v:af}(hs:vM o.op=true)(hd:yw E o st=true)(h:Hs E o st=some ⟨v,st,true⟩)(zt:nL E.gt X.S0)(hm:aB X st G w)(hr:bQ G st act):
  ∃ u G',(execOp act.eval o).run P w=.ok (.value u) w∧aB X st G' w∧(∀ a,bQ G st a→bQ G' st a)∧aU G' v u:=by
 have hg:nL E.gt G.S:=zt.mono hm.s0;have lE:∀{s:Sem Value},(∃ av u,s.run P w=.ok u w∧aU G av u∧oD av st=some ⟨v,st,true⟩)→(execOp act.eval o=do pure (.value (←s)))→
   ∃ u G',(execOp act.eval o).run P w=.ok (.value u) w∧aB X st G' w∧(∀ a,bQ G st a→bQ G' st a)∧aU G' v u:=fun {s} ⟨av,u,h1,h2,h3⟩ he=>by
  simp only[oD,Ob,Out.mk.injEq] at h3;exact⟨u,G,by rw[he,aNa,h1];rfl,hm,fun _ h=>h,by rw[←h3.1];exact h2⟩
 have OH:∀{av:af} {u:Value},oD av st=some ⟨v,st,true⟩→aU G av u→(execOp act.eval o).run P w=.ok (.value u) w→
   ∃ u G',(execOp act.eval o).run P w=.ok (.value u) w∧aB X st G' w∧(∀ a,bQ G st a→bQ G' st a)∧aU G' v u:=fun {av u} h3 h2 he=>by
  simp only[oD,Ob,Out.mk.injEq] at h3;exact⟨u,G,he,hm,fun _ h=>h,by rw[←h3.1];exact h2⟩
 unfold Hs mw at h;split at h<;>rename_i ho<;>simp only[ho,vM,asa] at hs
 ·rename_i x
  exact OH h (fN hg hr x) (by simp[execOp,ho])
 ·rename_i x
  exact OH h (fN hg hr x) (by simp[execOp,ho])
 ·rename_i c a b
  cases hc:(ev E st c).FX with
  |none=>simp[hc] at h
  |some b'=>
   simp only[hc] at h;have hb:=wH hc (fN hg hr c);cases b' with
   |true=>simp only[aja] at h;exact OH h (fN hg hr a) (by simp only[execOp,ho,hb];rfl)
   |false=>simp only[aoa] at h;exact OH h (fN hg hr b) (by simp only[execOp,ho,hb];rfl)
 ·rename_i x
  have hx:=fN hg hr x;have key:(∃ a,act.eval x=.pointer (some a))→oD (ev E st x) st=some ⟨v,st,true⟩→∃ u G',(execOp act.eval o).run P w=.ok (.value u) w∧aB X st G' w∧(∀ a,bQ G st a→bQ G' st a)∧aU G' v u:=fun⟨a,ha⟩ hk=>
   OH hk hx (by simp only[execOp,ho,ha];rfl)
  cases hv:ev E st x with
  |one l=>
   rw[hv] at h hx key;cases l with
   |lB ob off=>exact key ⟨_,hx⟩ (by simpa[af.bR] using h)
   |DX a sz i off=>obtain⟨b,len,cap,h1,h2,h3⟩:=hx;exact key ⟨_,h3⟩ (by simpa[af.bR] using h)
   |Pa t d off=>obtain⟨b,arr,elem,fz,pre,cs,post,h1,h2,h3,h4⟩:=hx;exact key ⟨_,h4⟩ (by simpa[af.bR] using h)
   |_=>simp[af.bR] at h
  |_=>rw[hv] at h;simp[af.bR] at h
 ·rename_i T iy
  refine lE (NF hE h hm (IN hg hr _)) ?_;have:(List.map (fun p=>(p.1,act.eval p.2)) iy.toList).toArray=iy.map fun(i,x)=>(i,act.eval x):=by rw[←bVa]
  rw[this];simp only[execOp,ho]
 ·rename_i T x
  exact lE (Ka hE h hm (fN hg hr x)) (by simp only[execOp,ho])
 ·rename_i op T x y u
  exact lE (Tq hE h hm (fN hg hr x) (fN hg hr y)) (by simp only[execOp,ho];rfl)
 ·rename_i op T x
  exact lE (Wh h (fN hg hr x)) (by simp only[execOp,ho])
 ·rename_i S D x
  exact lE (IV hE h hm (fN hg hr x)) (by simp only[execOp,ho])
 ·rename_i T x lo hi mx
  have opt:∀(q:Option Operand),(∀ a,q.map (ev E st)=some a→∃ v,q.map act.eval=some v∧aU G a v)∧(q.map (ev E st)=none→q.map act.eval=none):=fun q=>by
   cases q with
   |none=>simp
   |some x=>simp;exact fN hg hr x
  obtain⟨av,u,st',G',h1,h2,h3,h4,h5⟩:=NO hE h hm (fN hg hr x) (opt lo).1 (opt lo).2 (opt hi).1 (opt hi).2 (opt mx).2;simp only[oD,Ob,Out.mk.injEq,a7a] at h5;obtain⟨rfl,rfl⟩:=h5;exact⟨u,G',by simp only[execOp,ho,aNa,h1];rfl,h2,h3,h4⟩
 ·rename_i T x f
  exact lE (Eu hE h (fN hg hr x)) (by simp only[execOp,ho])
 ·rename_i T x f
  cases ha:(ev E st x).isAgg with
  |false=>simp[ha] at h
  |true=>simp only[ha,aja] at h;exact lE (NI hE h hm (fN hg hr x) (Ec ha (fN hg hr x))) (by simp only[execOp,ho])
 ·rename_i T x i
  exact lE (Ew hE h hm (fN hg hr x) (fN hg hr i)) (by simp only[execOp,ho])
 ·rename_i T x i
  exact lE (NJ hE h (fN hg hr x) (fN hg hr i)) (by simp only[execOp,ho])
 ·rename_i x n
  have hx:=fN hg hr x;split at h
  ·rename_i vs hv
   rw[hv] at hx;obtain⟨us,hu,ha⟩:=hx;cases hn:vs[n]? with
   |none=>simp[hn] at h
   |some p=>
    simp only[hn] at h;obtain⟨u,hu2,hp⟩:=ha.vJ hn;refine lE (s:=Instr.extract (act.eval x) n) ⟨_,u,by simp[Instr.extract,hu,hu2],?_,h⟩ (by simp only[execOp,ho])
    unfold Ex;split at hp
    ·rename_i hc;simp only[hc,aja];exact hp
    ·rename_i hc
     obtain⟨l,e,hl⟩:=hp;simp only[bCa] at hc;simp only[hc,aoa,e];exact hl
  ·cases h
 ·rename_i c
  split at h
  ·rename_i b hb
   simp only[hb] at hs;have yA:=Rx hg hr c.args.toList;obtain⟨cs0,Dr⟩:∃ cs0,(execOp act.eval o).run P w=(builtin b c.argTypes o.type cs0 (c.args.map act.eval)).run P w:=
    ⟨_,by simp only[execOp,ho,resolve,hb,aNa,baa,aFa,invoke];rfl⟩
   have e1:(List.map act.eval c.args.toList).toArray=c.args.map act.eval:=by rw[←bVa]
   have e2:c.argTypes.toList.toArray=c.argTypes:=by simp
   rw[←e1,←e2] at Dr;revert h Dr yA;generalize c.args.toList.map (ev E st)=vs;generalize c.args.toList.map act.eval=us;generalize c.argTypes.toList=ts;intro h yA Dr;unfold nQ at h;split at h
   ·rename_i v'
    obtain⟨u,rfl⟩:∃ u,us=[u]:=by
     cases us with
     |nil=>exact yA.elim
     |cons u us=>cases us with
      |nil=>exact⟨u,rfl⟩
      |cons _ _=>exact yA.2.elim
    cases ts with
    |nil=>simp at h
    |cons t ts=>
     simp only[bda,bFa] at h;split at h
     ·rename_i hT
      split at h
      ·rename_i s hs
       cases Da hs yA.1;have hu:=(hE _ _ hT).str;exact OH h (kX .i64 _) (by rw[Dr];simp[builtin,Builtin.len_,aEa hu,kz,goInt];rfl)
      ·cases h
     ·rename_i hT
      split at h
      ·rename_i a vr sz i off hl
       have hr:=yA.1;rw[show v' = .one (.E5 a vr sz i off) by cases v'<;>simp[af.bR] at hl;rw[hl]] at hr
       split at h
       ·rename_i A hA
        cases hc:(A.sh||!Md.lK A.md .bA||!Nat.beq vr (st.dH a)||!Nat.beq sz A.t.size||!A.t.sy) with
        |true=>rw[hc] at h;cases h
        |false=>
         rw[hc,aoa] at h;obtain⟨x,hx,h⟩:=ata.1 h;split at h
         ·rename_i n hn
          obtain⟨b,m,c,hv',rfl⟩:=P5 hE hm hr hA hc hx hn;exact OH h (kX .i64 _) (by rw[Dr];simp only[builtin,aNa,Mb hE hT hv',aFa,baa])
         ·cases h
       ·cases h
      ·split at h
       ·rename_i n hn hs
        obtain⟨a,m,c,hv',rfl⟩:=Tu hE hn hs hm yA.1;exact OH h (kX .i64 _) (by rw[Dr];simp only[builtin,aNa,Mb hE hT hv',aFa,baa])
       ·cases h
     ·cases h
   ·simp at hs
   ·rename_i v' vs
    cases us with
    |nil=>exact yA.elim
    |cons u us=>
     split at h
     ·rename_i k a hi
      split at h
      ·rename_i n hn
       cases qG hi yA.1;exact OH h (kX _ _) (by rw[Dr];simp only[builtin,Builtin.min_,aNa,MT hn yA.2,aFa,baa])
      ·cases h
     ·cases h
   ·rename_i v' vs
    cases us with
    |nil=>exact yA.elim
    |cons u us=>
     split at h
     ·rename_i k a hi
      split at h
      ·rename_i n hn
       cases qG hi yA.1;exact OH h (kX _ _) (by rw[Dr];simp only[builtin,Builtin.max_,aNa,MS hn yA.2,aFa,baa])
      ·cases h
     ·cases h
   ·cases h
  ·rename_i f hf;simp only[hf,asa] at hs
  ·cases h
 ·rename_i T x
  cases hT:E.iK T with
  |none=>simp[hT] at h
  |some ti=>
   simp only[hT] at h;obtain⟨d,u1,u2⟩:=(hE T ti hT).vU;split at h
   ·cases h
   ·rename_i ls hl hd
    refine lE (s:=Instr.makeInterface T (act.eval x)) ⟨.Au T ls,.iface T (act.eval x),?_,⟨_,_,rfl,rfl,mU hm hl (fN hg hr x)⟩,h⟩ (by simp only[execOp,ho])
    simp only[Instr.makeInterface,aNa,aEa u1,aFa];generalize ti.iS=q at u2 hd;cases d with
    |interface _=>cases q<;>first|exact u2.elim|exact(hd rfl).elim
    |_=>rfl
   ·cases h
end
end Go.Fx
namespace Go.Fx
theorem gV:∀{x:Nat} {l:List Nat},fk x l=true↔x∈l
 |x,[]=>by simp[fk]
 |x,y::r=>by
  simp only[fk,a6a,ala,gV (l:=r)];constructor
  ·rintro(h|h)
   ·exact .inl (Q4 h)
   ·exact .inr h
  ·rintro(h|h)
   ·left;subst h;simp
   ·exact .inr h
theorem MM(e:Edge):eb e=Region.binds .any e:=by unfold eb Region.binds;cases e.ground<;>rfl
def Pb(all:List Oper)(i k:Nat):Prop:=∃ o,all[i]? = some o∧∃ e∈o.after,eb e=true∧e.on=k
def Clo(all:List Oper)(L:Nat→Prop):Prop:=∀ i k,L i→Pb all i k→L k
inductive Reach(all:List Oper):Nat→Nat→Prop where
 |one {i k:Nat}:Pb all i k→Reach all i k
 |adG {i j k:Nat}:Pb all i j→Reach all j k→Reach all i k
theorem Clo.TR{all:List Oper}{L:Nat→Prop}(h:Clo all L){i k:Nat}(r:Reach all i k):L i→L k:=by
 induction r with
 |one a=>exact fun hi=>h _ _ hi a
 |adG a _ ih=>exact fun hi=>ih (h _ _ hi a)
theorem Clo.ready{all:List Oper}{L:Nat→Prop}(h:Clo all L){i k:Nat}(hi:∀ k,Pb all i k→L k)(r:Reach all i k):L k:=by
 cases r with
 |one a=>exact hi _ a
 |adG a r=>exact h.TR r (hi _ a)
theorem Od{k:Nat}:∀{l m:List Nat},k∈X1 l m→k∈l∨k∈m
 |[],m,h=>.inr h
 |x::r,m,h=>by
  simp only[X1] at h;cases hb:fk x m with
  |true=>
   simp only[hb,aja] at h;rcases Od h with h|h
   ·exact .inl (Q8 _ h)
   ·exact .inr h
  |false=>
   simp only[hb,aoa] at h;rcases Od h with h|h
   ·exact .inl (Q8 _ h)
   ·rcases ala.1 h with rfl|h
    ·exact .inl (awa ..)
    ·exact .inr h
theorem Py{acc:List (List Nat)}{k:Nat}:∀{l:List Edge} {m:List Nat},k∈l.foldl (fun m e=>bif eb e then X1 (e.on::acc.getD e.on []) m else m) m→
  k∈m∨∃ e∈l,eb e=true∧(k=e.on∨k∈acc.getD e.on [])
 |[],m,h=>.inl h
 |e::l,m,h=>by
  rw[b6a] at h;rcases Py h with h|⟨e',h1,h2,h3⟩
  ·cases hb:eb e with
   |false=>simp only[hb,aoa] at h;exact .inl h
   |true=>
    simp only[hb,aja] at h;rcases Od h with h|h
    ·refine .inr ⟨e,awa ..,hb,?_⟩
     rcases ala.1 h with h|h
     ·exact .inl h
     ·exact .inr h
    ·exact .inl h
  ·exact .inr ⟨e',Q8 _ h1,h2,h3⟩
theorem VB{all:List Oper}:∀(rest pre:List Oper) (acc:List (List Nat)),all=pre++rest→acc.length=pre.length→(∀ i k,k∈acc.getD i []→Reach all i k)→
  ∀ i k,k∈(iY rest acc).getD i []→Reach all i k
 |[],pre,acc,_,_,h,i,k,hk=>h i k hk
 |o::r,pre,acc,fG,jB,h,i,k,hk=>by
  simp only[iY] at hk;refine VB r (pre++[o]) _ (by rw[fG];simp) (by simp[jB]) (fun i k hk=>?_) i k hk
  rcases Nat.lt_trichotomy i acc.length with hi|hi|hi
  ·rw[a9a,aUa hi,←a9a] at hk
   exact h i k hk
  ·subst hi
   simp only[a9a,List.getElem?_concat_length,cca] at hk;rcases Py hk with hk|⟨e,h1,h2,h3⟩
   ·cases hk
   ·have ha:Pb all acc.length e.on:=⟨o,by rw[fG,jB];simp,e,by simpa using h1,h2,rfl⟩
    rcases h3 with rfl|h3
    ·exact .one ha
    ·exact .adG ha (h _ _ (by rw[a9a];simpa[a9a] using h3))
  ·rw[a9a,bEa (by simp;omega)] at hk
   cases hk
theorem EP{all:List Oper}{i k:Nat}(h:k∈(iY all []).getD i []):Reach all i k:=
 VB all [] [] rfl rfl (fun i k h=>by simp at h) i k h
theorem Ma{all:List Oper}{done:List Nat}{i:Nat}:rdy all done i=true↔i∉done∧∃ o,all[i]? = some o∧∀ e∈o.after,eb e=true→e.on∈done:=by
 unfold rdy;cases ho:all[i]? with
 |none=>simp
 |some o=>
  simp only[Q3,aOa,aqa,a6a,Ob,exists_eq_left'];constructor
  ·rintro⟨h1,h2⟩
   refine⟨(fun h=>(by rw[gV.2 h] at h1;cases h1)),fun e he hb=>?_⟩
   rcases h2 e (by simpa using he) with h|h
   ·rw[hb] at h;cases h
   ·exact gV.1 h
  ·rintro⟨h1,h2⟩
   refine⟨(by
    cases hm:fk i done with
    |false=>rfl
    |true=>exact absurd (gV.1 hm) h1),fun e he=>?_⟩
   cases hb:eb e with
   |false=>exact .inl rfl
   |true=>exact .inr (gV.2 (h2 e (by simpa using he) hb))
theorem L4{all:List Oper}{done:List Nat}{k:Nat}:k∈(List.range all.length).filter (rdy all done)↔rdy all done k=true:=by rw[bRa,b9a];refine⟨fun h=>h.2,fun h=>⟨?_,h⟩⟩;obtain⟨_,o,ho,_⟩:=Ma.1 h;exact(ama.1 ho).1
theorem JE{all:List Oper}{A:List (List Nat)}:∀{n:Nat} {done:List Nat},∃ l,l∈jd all A n done
 |0,_=>⟨[],Q7.2 rfl⟩
 |n+1,done=>by
  simp only[jd];split
  ·exact⟨[],Q7.2 rfl⟩
  ·rename_i i r _
   split
   ·rename_i k _
    obtain⟨l,hl⟩:=JE (all:=all) (A:=A) (n:=n) (done:=k::done);exact⟨k::l,aIa hl⟩
   ·obtain⟨l,hl⟩:=JE (all:=all) (A:=A) (n:=n) (done:=i::done)
    exact⟨i::l,bma.2 ⟨i,awa ..,aIa hl⟩⟩
theorem N4{all:List Oper}{A:List (List Nat)}{k:Nat}:KM all A k=true↔∃ o,all[k]? = some o∧qb all A k o=false:=by
 unfold KM;cases h:all[k]? with
 |none=>simp
 |some o=>simp
end Go.Fx
namespace Go.Fx
theorem bQ.put{G:Gh}{st:St}{act:Act}{d:Tmp}{av:af}{v:Value}(hr:bQ G st act)(hd:d<st.n)(hv:aU G av v):bQ G (st.kj d av) (act.put (some d) v):=by
 obtain⟨h1,h2,h3⟩:=hr;refine⟨h1,by simp[Act.put,h2,St.kj],fun i x hx=>?_⟩
 rw[qO] at hx;simp only[Act.put];by_cases e:d=i
 ·subst e
  simp only[ava,Ob] at hx;subst hx;have:d<act.tmps.size:=by rw[h2];exact hd
  simpa[Array.getD,this] using hv
 ·simp only[e,aka] at hx
  have:=h3 i x hx;simpa[aCa,Array.getElem?_setIfInBounds,e] using this
theorem bQ.refine{G:Gh}{st:St}{act:Act}{d:Nat}{av:af}(hr:bQ G st act)(hv:aU G av (act.tmps.getD d undef)):bQ G (st.kj d av) act:=by
 obtain⟨h1,h2,h3⟩:=hr;refine⟨h1,h2,fun i x hx=>?_⟩;rw[qO] at hx;by_cases e:d=i
 ·subst e;simp only[ava,Ob] at hx;subst hx;exact hv
 ·simp only[e,aka] at hx;exact h3 i x hx
theorem aB.kj{X:mW}{st:St}{G:Gh}{w:World}(hm:aB X st G w)(d:Nat)(av:af):aB X (st.kj d av) G w:=
 {
  sl:=hm.sl,sh:=hm.sh,ob:=fun o ls h=>by obtain⟨arr,elem,mid,g1,g2,g3⟩:=hm.ob o ls h;refine⟨arr,elem,mid,g1,g2,?_⟩;unfold ix at g3 ⊢;rw[kh (st:=st) (fun j l=>by simp)];exact g3
  ar:=hm.ar,ah:=hm.ah,nd:=hm.nd,qw:=hm.qw,dS:=hm.dS,ua:=hm.ua,s0:=hm.s0,sn:=hm.sn,fr:=hm.fr,sz:=hm.sz,os:=hm.os,tp:=hm.tp,out:=hm.out,pin:=hm.pin,bv:=hm.bv,ap:=hm.ap,hv:=hm.hv,ds:=hm.ds,hh:=hm.hh}
def y7(d:Option Tmp)(v:af)(st:St):Option St:=pe d v st some
theorem Qd{d:Option Tmp}{v:af}{st:St}{R:Type}{r:R}{K:St→Option R}(h:pe d v st K=some r):∃ s,y7 d v st=some s∧K s=some r:=by
 cases d with
 |none=>exact⟨st,rfl,h⟩
 |some d=>
  simp only[y7,pe] at h ⊢;cases hc:((look st.jw d).isSome||Nat.ble st.n d) with
  |true=>simp[hc] at h
  |false=>simp only[hc,aoa] at h ⊢;exact⟨_,rfl,h⟩
theorem BF{d:Option Tmp}{v:af}{st s:St}(h:y7 d v st=some s):
  ky st s∧s.cp=st.cp∧s.cT=st.cT∧(∀ t,(∀ e,d=some e→e≠t)→s.iz t=st.iz t)∧(∀ e,d=some e→s.iz e=some v∧e<st.n):=by
 cases d with
 |none=>simp only[y7,pe,Ob] at h;subst h;exact⟨.refl _,rfl,rfl,fun _ _=>rfl,fun _ h=>by cases h⟩
 |some d=>
  simp only[y7,pe] at h;cases hc:((look st.jw d).isSome||Nat.ble st.n d) with
  |true=>simp[hc] at h
  |false=>
   simp only[hc,aoa,Ob] at h;subst h;simp only[aGa] at hc;refine⟨⟨rfl,rfl,rfl,rfl⟩,rfl,rfl,fun t ht=>by rw[qO,aBa (ht d rfl)],fun e he=>?_⟩
   cases he;refine⟨by rw[qO,a8a rfl],?_⟩
   rcases cQa d st.n with h|h
   ·exact h
   ·have:=Nat.ble_eq_true_of_le h;rw[this] at hc;cases hc.2
theorem NT{d:Option Tmp}{v:af}{st s:St}(h:y7 d v st=some s):s.EM=st.EM:=by
 cases d with
 |none=>simp only[y7,pe,Ob] at h;subst h;rfl
 |some d=>
  simp only[y7,pe] at h;cases hc:((look st.jw d).isSome||Nat.ble st.n d) with
  |true=>simp[hc] at h
  |false=>simp only[hc,aoa,Ob] at h;subst h;rfl
theorem TO{d:Option Tmp}{v:af}{st s:St}(h:y7 d v st=some s){X:mW}{G:Gh}{w:World}(hm:aB X st G w):aB X s G w:=by
 cases d with
 |none=>simp only[y7,pe,Ob] at h;subst h;exact hm
 |some d=>
  simp only[y7,pe] at h;cases hc:((look st.jw d).isSome||Nat.ble st.n d) with
  |true=>simp[hc] at h
  |false=>simp only[hc,aoa,Ob] at h;subst h;exact hm.kj d v
theorem TN{d:Option Tmp}{v:af}{u:Value}{st s:St}(h:y7 d v st=some s){G:Gh}{act:Act}(hr:bQ G st act)(hv:aU G v u):bQ G s (act.put d u):=by
 cases d with
 |none=>simp only[y7,pe,Ob] at h;subst h;exact hr
 |some d=>
  obtain⟨_,_,_,_,h5⟩:=BF h;have hd:=(h5 d rfl).2;simp only[y7,pe] at h;cases hc:((look st.jw d).isSome||Nat.ble st.n d) with
  |true=>simp[hc] at h
  |false=>simp only[hc,aoa,Ob] at h;subst h;exact hr.put hd hv
end Go.Fx
namespace Go.Fx
def vZ(st s:St):Prop:=ky st s∧s.cp=st.cp∧(s.cT=st.cT∧s.EM=st.EM)∧∀ t,s.iz t=st.iz t
theorem vZ.refl(st:St):vZ st st:=⟨.refl _,rfl,⟨rfl,rfl⟩,fun _=>rfl⟩
theorem I7{st:St}{g:Nat}{v:af}(h:st.iz g=some v):vZ st (st.kj g v):=
 ⟨⟨rfl,rfl,rfl,rfl⟩,rfl,⟨rfl,rfl⟩,fun t=>by
  rw[qO];by_cases e:g=t
  ·subst e;rw[a8a rfl,h]
  ·rw[aBa e]⟩
theorem vZ.Gf{st s:St}(h:vZ st s){X:mW}{G:Gh}{w:World}(hm:aB X st G w):aB X s G w:=by
 obtain⟨⟨h1,h2,h3,h4⟩,h5,⟨h6,h8⟩,h7⟩:=h;have ho:∀ o,s.dT o=st.dT o:=fun o=>by simp only[St.dT,h5]
 have ha:∀ a,s.arr a=st.arr a:=fun a=>by simp only[St.arr,h6,(bla h4).1]
 have Bj:∀ o j l,s.res o j l=st.res o j l:=fun o j l=>by cases l<;>simp[St.res,h3]
 have jK:∀ x b,fq G s x b→fq G st x b:=fun x b hx=>by
  obtain⟨k,n⟩:=x;cases k with
  |false=>obtain⟨⟨ls,e⟩,e2⟩:=hx;exact⟨⟨ls,by rw[←ho];exact e⟩,e2⟩
  |true=>obtain⟨⟨A,e,e2⟩,e3⟩:=hx;exact⟨⟨A,by rw[←ha];exact e,e2⟩,e3⟩
 exact {
   sl:=hm.sl,sh:=hm.sh,ob:=fun o ls h=>(by
    obtain⟨arr,elem,mid,g1,g2,g3⟩:=hm.ob o ls (by rw[←ho];exact h)
    refine⟨arr,elem,mid,g1,g2,?_⟩;unfold ix at g3 ⊢;rw[kh (st:=st) (fun j l=>Bj o j l)];exact g3)
   ar:=fun a A h=>hm.ar a A (by rw[←ha];exact h),ah:=fun a A h=>hm.ah a A (by rw[←ha];exact h),nd:=fun a A h=>hm.nd a A (by rw[←ha];exact h)
   qw:=fun x y b hx hy=>hm.qw x y b (jK x b hx) (jK y b hy),dS:=fun x b hx=>hm.dS x b (jK x b hx),ua:=fun x b hx=>hm.ua x b (jK x b hx)
   s0:=hm.s0,sn:=hm.sn,fr:=hm.fr,sz:=hm.sz,os:=hm.os,tp:=hm.tp,out:=hm.out
   pin:=fun o p h=>(by obtain⟨⟨ls,e⟩,e2⟩:=hm.pin o p h;exact⟨⟨ls,by rw[ho];exact e⟩,e2⟩)
   bv:=fun o j u h=>(by obtain⟨e1,⟨ls,e2,e3⟩,e4⟩:=hm.bv o j u h;exact⟨by rw[h3];exact e1,⟨ls,by rw[ho];exact e2,e3⟩,e4⟩),ap:=fun a u h=>(by obtain⟨e1,⟨A,e2⟩,e3⟩:=hm.ap a u h;exact⟨by rw[(bla h4).2];exact e1,⟨A,by rw[ha];exact e2⟩,e3⟩),hv:=fun a=>(by rw[hm.hv a];simp only[St.dH,h8]),ds:=hm.ds,hh:=fun a A h=>hm.hh a A (by rw[←ha];exact h)}
theorem vZ.eH{st s:St}(h:vZ st s){G:Gh}{act:Act}(hr:bQ G st act):bQ G s act:=
 ⟨hr.1,hr.2.1.trans h.1.1.symm,fun i v hv=>hr.2.2 i v (by rw[←h.2.2.2];exact hv)⟩
section
variable (E:tr) (all:List Oper)
def Wnt(o:Oper)(s:St):Prop:=o.guard=none∨∃ j tC g,o.guard=some (j,tC)∧qD all j=some g∧s.iz g=some (.one (.fy .bool tC))
def Unw(o:Oper)(s:St):Prop:=∃ j tC g,o.guard=some (j,tC)∧qD all j=some g∧(s.iz g=some (.one .vU)∨s.iz g=some (.one (.fy .bool (!tC))))
def DH(i:Nat)(log:List (Nat×List qj))(st:St)(next:List (Nat×List qj)→St→Prop)(KPok:af→St→Prop):Prop:=
 ∃ o,all[i]? = some o∧∃ AA,vZ st AA∧
  ((Unw all o AA∧∃ s,y7 o.dst (.one .vU) AA=some s∧next log s)∨
   (Wnt all o AA∧
    (qb all (iY all []) i o=true→log.all (fun p=>fk p.1 ((iY all []).getD i [])||H7 p.2 (uL E o AA))=true∧
     ∃ u,Hs E o AA=some u∧(u.ok=true→∃ s,y7 o.dst u.v u.s=some s∧next log s)∧(u.ok=false→KPok u.v u.s))∧
    (qb all (iY all []) i o=false→yw E o AA=true∧∃ v,Hs E o AA=some ⟨v,AA,true⟩∧∃ s,y7 o.dst v AA=some s∧next ((i,wx E o AA)::log) s)))
def vV(Kok:St→Prop)(KPok:af→St→Prop):Nat→List Nat→List (Nat×List qj)→St→Prop
 |0,_,_,st=>Kok st
 |n+1,done,log,st=>(match (List.range all.length).filter (rdy all done) with
  |[]=>Kok st
  |i::r=>(match (i::r).find? (KM all (iY all [])) with
   |some k=>DH E all k log st (vV Kok KPok n (k::done)) KPok
   |none=>∀ k∈i::r,DH E all k log st (vV Kok KPok n (k::done)) KPok))
theorem DH.mono{i:Nat}{log:List (Nat×List qj)}{st:St}{next acC:List (Nat×List qj)→St→Prop}{KPok Sh:af→St→Prop}(h:DH E all i log st next KPok)(hn:∀ lg s,next lg s→acC lg s)(hp:∀ v s,KPok v s→Sh v s):DH E all i log st acC Sh:=by
 obtain⟨o,h1,AA,h2,h3⟩:=h;refine⟨o,h1,AA,h2,?_⟩;rcases h3 with ⟨h3,s1,h4,h5⟩|⟨h3,h4,h5⟩
 ·exact .inl ⟨h3,s1,h4,hn _ _ h5⟩
 ·refine .inr ⟨h3,fun ht=>?_,fun ht=>?_⟩
  ·obtain⟨g1,u,g2,g3,g4⟩:=h4 ht
   exact⟨g1,u,g2,fun hu=>(by obtain⟨s1,g5,g6⟩:=g3 hu;exact⟨s1,g5,hn _ _ g6⟩),fun hu=>hp _ _ (g4 hu)⟩
  ·obtain⟨g1,v,g2,s1,g3,g4⟩:=h5 ht
   exact⟨g1,v,g2,s1,g3,hn _ _ g4⟩
theorem vV.mono{Kok aej:St→Prop}{KPok Sh:af→St→Prop}(hk:∀ s,Kok s→aej s)(hp:∀ v s,KPok v s→Sh v s):∀{n:Nat} {done:List Nat} {log:List (Nat×List qj)} {st:St},vV E all Kok KPok n done log st→vV E all aej Sh n done log st
 |0,_,_,_,h=>hk _ h
 |n+1,done,log,st,h=>by
  unfold vV at h ⊢;split
  ·rename_i hf;rw[hf] at h;exact hk _ h
  ·rename_i i r hf
   rw[hf] at h;simp only at h;split
   ·rename_i k PI;rw[PI] at h;exact h.mono E all (fun lg s=>vV.mono hk hp) hp
   ·rename_i PI;rw[PI] at h;exact fun k hkm=>(h k hkm).mono E all (fun lg s=>vV.mono hk hp) hp
inductive aaJ(n:Nat)(done:List Nat):Prop where
 |sk:jd all (iY all []) n done=[[]]→(∀ Kok KPok log st,vV E all Kok KPok n done log st→Kok st)→((∀ i,rdy all done i=false)∨n=0)→aaJ n done
 |KM (m k:Nat):n=m+1→rdy all done k=true→(∀ o,all[k]? = some o→qb all (iY all []) k o=false)→(∀ r∈jd all (iY all []) m (k::done),k::r∈jd all (iY all []) n done)→
  (∀ Kok KPok log st,vV E all Kok KPok n done log st→DH E all k log st (vV E all Kok KPok m (k::done)) KPok)→aaJ n done
 |afV (m:Nat):n=m+1→(∃ k,rdy all done k=true)→(∀ k,rdy all done k=true→(∀ o,all[k]? = some o→qb all (iY all []) k o=true)∧(∀ r∈jd all (iY all []) m (k::done),k::r∈jd all (iY all []) n done)∧
  (∀ Kok KPok log st,vV E all Kok KPok n done log st→DH E all k log st (vV E all Kok KPok m (k::done)) KPok))→aaJ n done
def lG(n:Nat)(done:List Nat):Prop:=(jd all (iY all []) n done=[[]]∧∀ Kok KPok log st,vV E all Kok KPok n done log st→Kok st)∨
 ∃ m,n=m+1∧(∃ k,rdy all done k=true)∧∀ k,rdy all done k=true→(∀ o,all[k]? = some o→qb all (iY all []) k o=true)∧(∀ r∈jd all (iY all []) m (k::done),k::r∈jd all (iY all []) n done)∧
  (∀ Kok KPok log st,vV E all Kok KPok n done log st→DH E all k log st (vV E all Kok KPok m (k::done)) KPok)
theorem abT(n:Nat)(done:List Nat):aaJ E all n done:=by
 cases n with
 |zero=>exact .sk rfl (fun _ _ _ _ h=>h) (.inr rfl)
 |succ n=>
  cases hf:(List.range all.length).filter (rdy all done) with
  |nil=>
   refine .sk (by simp only[jd,hf]) (fun _ _ _ _ h=>by unfold vV at h;rw[hf] at h;exact h) (.inl fun i=>?_)
   cases hr:rdy all done i with
   |false=>rfl
   |true=>have:=L4.2 hr;rw[hf] at this;cases this
  |cons i r=>
   cases hs:(i::r).find? (Go.Fx.KM all (iY all [])) with
   |some k=>
    have hm:=b1a hs;rw[←hf] at hm;obtain⟨o,h1,h2⟩:=N4.1 (cxa hs);refine .KM n k rfl (L4.1 hm) (fun o' ho'=>by rw[h1] at ho';cases ho';exact h2) (fun r' hr'=>?_) (fun _ _ _ _ h=>?_)
    ·simp only[jd,hf,hs];exact aIa hr'
    ·unfold vV at h;rw[hf] at h;simp only[hs] at h;exact h
   |none=>
    refine .afV n rfl ⟨i,L4.1 (by rw[hf];exact awa ..)⟩ fun k hk=>?_
    have hm:=L4.2 hk;rw[hf] at hm;refine⟨fun o ho=>?_,fun r' hr'=>?_,fun _ _ _ _ h=>?_⟩
    ·cases ht:qb all (iY all []) k o with
     |true=>rfl
     |false=>exact absurd (N4.2 ⟨o,ho,ht⟩) (by have:=List.find?_eq_none.1 hs k hm;simpa using this)
    ·simp only[jd,hf,hs];exact bma.2 ⟨k,hm,aIa hr'⟩
    ·unfold vV at h;rw[hf] at h;simp only[hs] at h;exact h k hm
end
section
variable {E:tr} {all:List Oper}
theorem un{A:List (List Nat)}{i:Nat}{o:Oper}(h:qb all A i o=false):vM o.op=true:=by unfold qb at h;simp only[aGa,bpa] at h;exact h.1
variable (hD:∀ f s,E.BG f=some s→pt s)
include hD
omit hD in
theorem NS{ι:Type}(x0:ι){R:Type}{r:R}{d:Option Tmp}{v:af}{st:St}{K:ι→St→Option R}(h:∀ x,pe d v st (K x)=some r):∃ s,y7 d v st=some s∧∀ x,K x s=some r:=by obtain⟨s,h1,_⟩:=Qd (h x0);refine⟨s,h1,fun x=>?_⟩;obtain⟨s',h3,h4⟩:=Qd (h x);rw[h1] at h3;cases h3;exact h4
theorem aao{ι:Type}(x0:ι){R:Type}{r:R}{i:Nat}{log:List (Nat×List qj)}{st:St}{K:ι→List (Nat×List qj)→St→Option R}{KP:af→St→Option R}(h:∀ x,WA E all (iY all []) i log st (K x) KP=some r):
  DH E all i log st (fun lg s=>∀ x,K x lg s=some r) (fun v s=>KP v s=some r):=by
 simp only[WA] at h;split at h
 ·cases h x0
 ·rename_i o ho
  refine⟨o,ho,?_⟩;have Dt:∀{AA:St},(∀ x,Gm E all (iY all []) i o log AA (K x) KP=some r)→
    (qb all (iY all []) i o=true→log.all (fun p=>fk p.1 ((iY all []).getD i [])||H7 p.2 (uL E o AA))=true∧
     ∃ u,Hs E o AA=some u∧(u.ok=true→∃ s,y7 o.dst u.v u.s=some s∧∀ x,K x log s=some r)∧(u.ok=false→KP u.v u.s=some r))∧
    (qb all (iY all []) i o=false→yw E o AA=true∧∃ v,Hs E o AA=some ⟨v,AA,true⟩∧∃ s,y7 o.dst v AA=some s∧∀ x,K x ((i,wx E o AA)::log) s=some r):=fun {AA} h=>by
   unfold Gm at h;constructor
   ·intro ht
    simp only[ht,aja] at h;cases hl:(log.all fun p=>fk p.1 ((iY all []).getD i [])||H7 p.2 (uL E o AA)) with
    |false=>simp only[hl,aoa] at h;cases h x0
    |true=>
     simp only[hl,aja] at h;obtain⟨u,h1,_⟩:=A8 hD (h x0);have h2:∀ x,sk (fun v st'=>pe o.dst v st' (K x log)) KP u=some r:=fun x=>by obtain⟨u',h3,h4⟩:=A8 hD (h x);rw[h1] at h3;cases h3;exact h4
     refine⟨rfl,u,h1,fun hu=>?_,fun hu=>?_⟩
     ·exact NS x0 (K:=fun x=>K x log) fun x=>by simpa only[sk,hu,aja] using h2 x
     ·simpa only[sk,hu,aoa] using h2 x0
   ·intro ht
    simp only[ht,aoa] at h;cases hd:yw E o AA with
    |false=>simp only[hd,aoa] at h;cases h x0
    |true=>
     simp only[hd,aja] at h;obtain⟨u,h1,_⟩:=A8 hD (h x0);have hu:=NP hD (un ht) hd h1;have h2:∀ x,pe o.dst u.v AA (K x ((i,wx E o AA)::log))=some r:=fun x=>by obtain⟨u',h3,h4⟩:=A8 hD (h x);rw[h1] at h3;cases h3;rw[hu] at h4;simpa only[sk,aja] using h4
     rw[hu] at h1;exact⟨rfl,u.v,h1,NS x0 (K:=fun x=>K x ((i,wx E o AA)::log)) h2⟩
  have skip:∀{AA:St},(∀ x,pe o.dst (.one .vU) AA (K x log)=some r)→∃ s,y7 o.dst (.one .vU) AA=some s∧∀ x,K x log s=some r:=fun {AA} h=>NS x0 (K:=fun x=>K x log) h;split at h
  ·rename_i hg
   exact⟨st,.refl _,.inr ⟨.inl hg,Dt h⟩⟩
  ·rename_i j tC hg
   split at h
   ·cases h x0
   ·rename_i g hgd
    split at h
    ·rename_i c xC
     cases c with
     |true=>
      simp only[aja] at h;have hs:=I7 xC;have hre:(st.kj g (.one (.fy .bool true))).iz g=some (.one (.fy .bool true)):=by rw[qO,a8a rfl]
      cases tC with
      |true=>simp only[aja] at h;exact⟨_,hs,.inr ⟨.inr ⟨j,_,g,hg,hgd,hre⟩,Dt h⟩⟩
      |false=>simp only[aoa] at h;exact⟨_,hs,.inl ⟨⟨j,_,g,hg,hgd,.inr hre⟩,skip h⟩⟩
     |false=>
      simp only[aoa] at h;have hs:=I7 xC;have hre:(st.kj g (.one (.fy .bool false))).iz g=some (.one (.fy .bool false)):=by rw[qO,a8a rfl]
      cases tC with
      |true=>simp only[aja] at h;exact⟨_,hs,.inl ⟨⟨j,_,g,hg,hgd,.inr hre⟩,skip h⟩⟩
      |false=>simp only[aoa] at h;exact⟨_,hs,.inr ⟨.inr ⟨j,_,g,hg,hgd,hre⟩,Dt h⟩⟩
    ·rename_i xC
     exact⟨st,.refl _,.inl ⟨⟨j,_,g,hg,hgd,.inl xC⟩,skip h⟩⟩
    ·cases h x0
theorem TW{R:Type}{r:R}{K:St→Option R}{KP:af→St→Option R}:∀{n:Nat} {done:List Nat} {log:List (Nat×List qj)} {st:St},(∀ l∈jd all (iY all []) n done,Hw E all (iY all []) l log st K KP=some r)→
  vV E all (fun s=>K s=some r) (fun v s=>KP v s=some r) n done log st
 |0,done,log,st,h=>h [] (Q7.2 rfl)
 |n+1,done,log,st,h=>by
  have one:∀ k,(∀ l∈jd all (iY all []) n (k::done),k::l∈jd all (iY all []) (n+1) done)→DH E all k log st (vV E all (fun s=>K s=some r) (fun v s=>KP v s=some r) n (k::done)) (fun v s=>KP v s=some r):=fun k hk=>by obtain⟨l0,hl0⟩:=JE (all:=all) (A:=iY all []) (n:=n) (done:=k::done);refine(aao hD (ι:={l // l∈jd all (iY all []) n (k::done)}) ⟨l0,hl0⟩ (K:=fun x lg s=>Hw E all (iY all []) x.1 lg s K KP) (fun x=>h (k::x.1) (hk x.1 x.2))).mono E all (fun lg s hn=>TW fun l hl=>hn ⟨l,hl⟩) (fun _ _ h=>h)
  unfold vV;split
  ·rename_i hf
   exact h [] (by simp only[jd,hf];exact Q7.2 rfl)
  ·rename_i i r hf
   split
   ·rename_i k hs
    exact one k fun l hl=>by simp only[jd,hf,hs];exact aIa hl
   ·rename_i hs
    exact fun k hkm=>one k fun l hl=>by simp only[jd,hf,hs];exact bma.2 ⟨k,hkm,aIa hl⟩
end
end Go.Fx
namespace Go.Fx
theorem wN{all:List Oper}{o:Oper}{j g:Nat}{tC:Bool}(h:o.guard=some (j,tC))(hg:qD all j=some g):g∈tV all o:=by simp[tV,h,hg]
theorem Tj{t:Nat}:∀{l:List Operand},Operand.tmp t∈l→t∈R4 l
 |x::r,h=>by
  rcases ala.1 h with rfl|h
  ·exact awa ..
  ·have:=Tj h
   cases x<;>first|exact Q8 _ this|exact this
theorem F9{all:List Oper}{o:Oper}{t:Nat}(h:Operand.tmp t∈o.op.operands):t∈tV all o:=
 ara _ (Tj (by simpa using h))
theorem JI{o:Oper}{l:List Nat}:SM o l=true↔∃ d,o.dst=some d∧d∈l:=by
 unfold SM;cases o.dst with
 |none=>simp
 |some d=>simp[gV]
structure Yj(all:List Oper):Prop where
 dst:∀(i j:Nat) (a b:Oper) (d:Nat),all[i]? = some a→all[j]? = some b→a.dst=some d→b.dst=some d→i=j
 afW:∀(i j:Nat) (a b:Oper) (d:Nat),all[i]? = some a→all[j]? = some b→b.dst=some d→d∈tV all a→i≠j→j∈(iY all []).getD i []∨i∈(iY all []).getD j []
 self:∀(i:Nat) (a:Oper) (d:Nat),all[i]? = some a→a.dst=some d→d∉tV all a
 sel:∀(i:Nat) (a:Oper) cs b,all[i]? = some a→a.op≠.select cs b
 low:∀(i:Nat) (a:Oper) (e:Edge),all[i]? = some a→e∈a.after→eb e=true→e.on<i
theorem Pr{all:List Oper}:Rb all=true→∀(i j:Nat) (a b:Oper) (d:Nat),i<j→all[i]? = some a→all[j]? = some b→a.dst=some d→b.dst≠some d:=by
 induction all with
 |nil=>intro _ i j a b d _ ha;simp at ha
 |cons o r ih=>
  intro h i j a b d hij ha hb hd hbd;simp only[Rb,Q3,aOa] at h;obtain⟨j,rfl⟩:∃ m,j=m+1:=⟨j - 1,by omega⟩
  rw[bua] at hb;cases i with
  |zero=>rw[bda,Ob] at ha;subst ha;have h1:=h.1;rw[hd] at h1;have h2:=aTa.1 h1 b (a2a hb);simp[hbd] at h2
  |succ i=>rw[bua] at ha;exact ih h.2 i j a b d (by omega) ha hb hd hbd
theorem sw{all:List Oper}{i:Nat}{a:Oper}(h:all[i]? = some a):(a,i)∈all.zipIdx:=by rw[List.mem_zipIdx_iff_getElem?];simpa using h
theorem abK{all:List Oper}(h:DW all (iY all [])=true):Yj all:=by
 simp only[DW,Q3] at h;obtain⟨⟨⟨h1,h2⟩,h3⟩,h4⟩:=h;refine⟨fun i j a b d ha hb hd hd'=>?_,fun i j a b d ha hb hd hl ik=>?_,fun i a d ha hd hl=>?_,fun i a cs b ha=>?_,fun i a e ha he hb=>?_⟩
 ·rcases Nat.lt_trichotomy i j with hij|hij|hij
  ·exact absurd hd' (Pr h1 i j a b d hij ha hb hd)
  ·exact hij
  ·exact absurd hd (Pr h1 j i b a d hij hb ha hd')
 ·have:=aqa.1 (aqa.1 h2 _ (sw ha)) _ (sw hb)
  simp only[a6a,aOa] at this;rcases this with ((e|e)|e)|e
  ·exact absurd (Q4 e) ik
  ·rw[JI.2 ⟨d,hd,hl⟩] at e;cases e
  ·exact .inl (gV.1 e)
  ·exact .inr (gV.1 e)
 ·have:=aqa.1 h4 _ (sw ha)
  simp only[Q3,aOa] at this;rw[JI.2 ⟨d,hd,hl⟩] at this;cases this.1
 ·have:=aqa.1 h3 a (a2a ha)
  intro e;simp[e] at this
 ·have:=aqa.1 h4 _ (sw ha)
  simp only[Q3,aqa,a6a,aOa] at this;rcases this.2 e (by simpa using he) with h|h
  ·rw[hb] at h;cases h
  ·simpa[b5a] using h
theorem Kz{all:List Oper}{i j:Nat}{a b:Oper}{d:Nat}(ha:all[i]? = some a)(hb:all[j]? = some b)(hd:b.dst=some d)(hl:d∈tV all a)(hn:j∉(iY all []).getD i []):qb all (iY all []) j b=true:=by
 unfold qb;simp only[a6a];refine .inr (List.any_eq_true.2 ⟨(a,i),sw ha,?_⟩);simp only[Q3,aOa];refine⟨JI.2 ⟨d,hd,hl⟩,?_⟩;cases hm:fk j ((iY all []).getD i []) with
 |false=>rfl
 |true=>exact absurd (gV.1 hm) hn
section act
variable {all:List Oper} {a b:Act}
def QF(T:Nat→Prop)(a b:Act):Prop:=∀ t,T t→a.tmps[t]? = b.tmps[t]?
theorem Xd{o:Oper}(h:QF (fun t=>t∈tV all o) a b):∀ x∈o.op.operands,a.eval x=b.eval x:=fun x hx=>by
 cases x with
 |tmp t=>have:=h t (F9 hx);simp only[Act.eval,aCa,this]
 |_=>rfl
theorem SQ{o:Oper}(hs:∀ cs b,o.op≠.select cs b)(h:QF (fun t=>t∈tV all o) a b):execOp a.eval o=execOp b.eval o:=execOp_congr o hs (Xd h)
theorem Ui{ops:Array Oper}{o:Oper}(h:QF (fun t=>t∈tV ops.toList o) a b):Region.wanted o (yielded ops a.tmps)=Region.wanted o (yielded ops b.tmps):=by
 unfold Region.wanted;cases hg:o.guard with
 |none=>rfl
 |some p=>
  obtain⟨j,tC⟩:=p;have:yielded ops a.tmps j=yielded ops b.tmps j:=by
   show(match (((ops[j]?).bind (·.dst)).bind (a.tmps[·]?)) with|some (.bool b)=>some b|_=>none)=(match (((ops[j]?).bind (·.dst)).bind (b.tmps[·]?)) with|some (.bool b)=>some b|_=>none)
   cases hd:(ops[j]?).bind (·.dst) with
   |none=>rfl
   |some g=>
    have hg':qD ops.toList j=some g:=by simpa[qD] using hd
    simp only[bFa,h g (wN hg hg')]
  simp only[this]
end act
theorem Oh{ops:Array Oper}{o:Oper}{s:St}{G:Gh}{a:Act}(hr:bQ G s a)(h:Wnt ops.toList o s):Region.wanted o (yielded ops a.tmps)=true:=by
 rcases h with h|⟨j,tC,g,h1,h2,h3⟩
 ·simp[Region.wanted,h]
 ·have hv:=wH (v:=.one (.fy .bool tC)) rfl (hr.2.2 g _ h3)
  have LX:(ops[j]?).bind (·.dst)=some g:=by simpa[qD] using h2
  have M9:a.tmps[g]? = some (.bool tC):=by
   rw[aCa] at hv;cases hq:a.tmps[g]? with
   |none=>rw[hq] at hv;cases hv
   |some u=>rw[hq] at hv;simpa using hv
  simp[Region.wanted,h1,yielded,LX,M9]
theorem Og{ops:Array Oper}{o:Oper}{s:St}{G:Gh}{a:Act}(hr:bQ G s a)(h:Unw ops.toList o s):Region.wanted o (yielded ops a.tmps)=false:=by
 obtain⟨j,tC,g,h1,h2,h3⟩:=h;have LX:(ops[j]?).bind (·.dst)=some g:=by simpa[qD] using h2
 rcases h3 with h3|h3
 ·have hv:a.tmps.getD g undef=undef:=hr.2.2 g _ h3
  rw[aCa] at hv;cases hq:a.tmps[g]? with
  |none=>simp[Region.wanted,h1,yielded,LX,hq]
  |some u=>rw[hq] at hv;simp only[cca] at hv;subst hv;simp[Region.wanted,h1,yielded,LX,hq,undef]
 ·have hv:=wH (v:=.one (.fy .bool (!tC))) rfl (hr.2.2 g _ h3)
  have M9:a.tmps[g]? = some (.bool (!tC)):=by
   rw[aCa] at hv;cases hq:a.tmps[g]? with
   |none=>rw[hq] at hv;cases hv
   |some u=>rw[hq] at hv;simpa using hv
  cases tC<;>simp[Region.wanted,h1,yielded,LX,M9]
end Go.Fx
namespace Go.Fx
theorem Po{α:Type}{p q:α→Bool}:∀{l:List α},(∀ x∈l,q x=true→p x=true)→(∃ x∈l,p x=true∧q x=false)→l.countP q<l.countP p
 |[],_,⟨x,hx,_⟩=>by cases hx
 |a::l,h,⟨x,hx,h1,h2⟩=>by
  have B8:l.countP q≤l.countP p:=List.countP_mono_left fun y hy hq=>h y (Q8 _ hy) hq;rw[List.countP_cons,List.countP_cons];rcases ala.1 hx with rfl|hx
  ·simp only[h1,h2,ava,asa,aka];omega
  ·have:=Po (fun y hy=>h y (Q8 _ hy)) ⟨x,hx,h1,h2⟩
   have ha:=h a (awa ..);by_cases hq:q a=true
   ·simp only[hq,ha hq,ava];omega
   ·rw[aBa hq];split<;>omega
theorem RV{a:Act}{d:Option Tmp}{v:Value}{t:Nat}(h:d≠some t):(a.put d v).tmps[t]? = a.tmps[t]?:=by
 cases d with
 |none=>rfl
 |some d=>
  have:d≠t:=fun e=>h (by rw[e])
  simp[Act.put,bta this]
theorem tz(a:Act)(d:Option Tmp)(v:Value):(a.put d v).defers=a.defers:=by cases d<;>rfl
theorem Ey(a:Act)(d:Option Tmp)(v:Value):(a.put d v).tmps.size=a.tmps.size:=by cases d<;>simp[Act.put]
theorem Z2{a b:Act}{d:Option Tmp}{v:Value}{t:Nat}(hs:a.tmps.size=b.tmps.size)(h:d=some t):(a.put d v).tmps[t]? = (b.put d v).tmps[t]?:=by subst h;simp[Act.put,Array.getElem?_setIfInBounds,hs]
section
variable {E:tr} {all:List Oper}
theorem NW{o:Oper}{s st:St}(he:∀ x∈o.op.operands,ev E s x=ev E st x):wx E o s=wx E o st:=by
 unfold wx;split<;>rename_i mL
 ·rw[he _ (by simp[mL,Op.operands])]
 ·rw[he _ (by simp[mL,Op.operands])]
 ·rw[he _ (by simp[mL,Op.operands])]
 ·rw[he _ (by simp[mL,Op.operands])]
 ·rename_i c
  have:c.args.toList.map (ev E s)=c.args.toList.map (ev E st):=b4a fun x hx=>he x (by simp[mL,Op.operands,Call.operands];exact .inr (by simpa using hx))
  rw[this]
 ·rfl
theorem VS{o:Oper}{s st:St}(h:∀ t∈tV all o,s.iz t=st.iz t):∀ x∈o.op.operands,ev E s x=ev E st x:=fun x hx=>by
 cases x with
 |tmp t=>simp only[ev,h t (F9 hx)]
 |_=>rfl
theorem Uj{o:Oper}{s st:St}(h:∀ t∈tV all o,s.iz t=st.iz t)(hw:Wnt all o st):Wnt all o s:=by
 rcases hw with hw|⟨j,tC,g,h1,h2,h3⟩
 ·exact .inl hw
 ·exact .inr ⟨j,tC,g,h1,h2,by rw[h g (wN h1 h2)];exact h3⟩
theorem Ue{o:Oper}{s st:St}(h:∀ t∈tV all o,s.iz t=st.iz t)(hw:Unw all o st):Unw all o s:=by obtain⟨j,tC,g,h1,h2,h3⟩:=hw;exact⟨j,tC,g,h1,h2,by rw[h g (wN h1 h2)];exact h3⟩
variable (hD:∀ f s,E.BG f=some s→pt s)
include hD
theorem afw{o:Oper}{s st:St}{v:af}(ho:vM o.op=true)(hd:yw E o st=true)(h:Hs E o st=some ⟨v,st,true⟩)(hb:ky st s)(he:∀ x∈o.op.operands,ev E s x=ev E st x)(hk:∀ p∈wx E o st,tD st s p):
  yw E o s=true∧Hs E o s=some ⟨v,s,true⟩:=by
 obtain⟨h1,h2⟩:=Vm ho hd hb he hk;refine⟨h1,?_⟩;have h3:=h2 (K:=some) (r:=v) (by rw[YH hD h])
 obtain⟨u,h4,h5⟩:=A8 hD h3;have h6:=NP hD ho h1 h4;rw[h6] at h5 h4;simp only[sk,aja,Ob] at h5;rw[h4,h5]
where
 YH {o:Oper} {st:St} {v:af} (hD:∀ f s,E.BG f=some s→pt s) (h:Hs E o st=some ⟨v,st,true⟩):mw E o st (fun v _=>some v) (fun _ _=>none)=some v:=by rw[B5 hD h];rfl
def Up(E:tr)(all:List Oper)(i:Nat)(log:List (Nat×List qj))(s:St):Prop:=∃ o,all[i]? = some o∧qb all (iY all []) i o=false∧
 ((Unw all o s∧∀ d,o.dst=some d→s.iz d=some (.one .vU)∧d<s.n)∨
  (Wnt all o s∧yw E o s=true∧(i,wx E o s)∈log∧∃ v,Hs E o s=some ⟨v,s,true⟩∧∀ d,o.dst=some d→s.iz d=some v∧d<s.n))
theorem Up.lJ{k:Nat}{log Nr:List (Nat×List qj)}{s s1:St}(hp:Up E all k log s)(hb:ky s s1)(xC:∀ o,all[k]? = some o→∀ t,t∈tV all o∨o.dst=some t→s1.iz t=s.iz t)
  (hk:∀ rd,(k,rd)∈log→∀ p∈rd,tD s s1 p) (hl:∀ x∈log,x∈Nr):Up E all k Nr s1:=by
 obtain⟨o,h1,h2,h3⟩:=hp;have hr:∀ t∈tV all o,s1.iz t=s.iz t:=fun t ht=>xC o h1 t (.inl ht);refine⟨o,h1,h2,?_⟩;rcases h3 with ⟨h3,h4⟩|⟨h3,h4,h5,v,h6,h7⟩
 ·exact .inl ⟨Ue hr h3,fun d hd=>by rw[xC o h1 d (.inr hd),hb.1];exact h4 d hd⟩
 ·have he:=VS (E:=E) hr
  obtain⟨g1,g2⟩:=afw hD (un h2) h4 h6 hb he (hk _ h5);exact .inr ⟨Uj hr h3,g1,by rw[NW he];exact hl _ h5,v,g2,fun d hd=>by rw[xC o h1 d (.inr hd),hb.1];exact h7 d hd⟩
end
end Go.Fx
namespace Go.Fx
structure Inv(E:tr)(X:mW)(ops:Array Oper)(Kok:St→Prop)(KPok:af→St→Prop)(n:Nat)(done:List Nat)(log:List (Nat×List qj))(s:St)(G:Gh)(as:Act)(eG:Array Bool)(act:Act)(w:World):Prop where
 can:vV E ops.toList Kok KPok n done log s
 cov:∀ l∈jd ops.toList (iY ops.toList []) n done,∀ i,i<ops.size→i∈done∨i∈l
 clo:Clo ops.toList (·∈done)
 UN:Clo ops.toList (fun i=>eG.getD i false=true)
 Nu:∀ i,eG.getD i false=true→i∈done
 lsz:eG.size=ops.size
 Gf:aB X s G w
 iz:bQ G s as
 RQ:∀ i,i∈done→eG.getD i false=false→Up E ops.toList i log s
 dfs:act.defers=as.defers
 sz:act.tmps.size=as.tmps.size
 lK:∀ t,(∀ i o,i∈done→eG.getD i false=false→ops.toList[i]? = some o→o.dst≠some t)→act.tmps[t]? = as.tmps[t]?
section
variable {P:Program} {E:tr} (hE:iQ P E.iK) (hS:∀ f s,E.BG f=some s→AZ P E.gt f s) (hC:∀ f s,E.BG f=some s→nE s) (hD:∀ f s,E.BG f=some s→pt s)
 {X:mW} (zt:nL E.gt X.S0) {ops:Array Oper} (xD:Yj ops.toList) {Q:Exit→Act→World→Prop} {Kok:St→Prop} {KPok:af→St→Prop}
 (hK:∀ st G w act,aB X st G w→bQ G st act→Kok st→Q .normal act w)
 (hP:∀ av v st G w act,aB X st G w→act.defers=G.ds→aU G av v→KPok av st→Q (.panic [{v,recovered:=false}]) act w)
theorem Rh{eG:Array Bool}{i:Nat}(h:i<eG.size):eG.getD i true=eG.getD i false:=by simp[h]
theorem Bb{eG:Array Bool}{i:Nat}(h:i<eG.size)(j:Nat):(eG.setIfInBounds i true).getD j false=if i=j then true else eG.getD j false:=by
 by_cases e:i=j
 ·subst e;simp[h]
 ·rw[getD_set_ne false e,aBa e]
theorem Qb{s s1:St}{log Nr:List (Nat×List qj)}{done:List Nat}{eG:Array Bool}{i:Nat}{o:Oper}(hD:∀ f s,E.BG f=some s→pt s)(xD:Yj ops.toList)(aeN:Clo ops.toList (·∈done))(hi:i∉done)(ho:ops.toList[i]? = some o)
  (ae5:∀ k,k∈done→eG.getD k false=false→Up E ops.toList k log s)
  (hb:ky s s1) (xC:∀ t,o.dst≠some t→s1.iz t=s.iz t)
  (hk:∀ k rd,k∈done→eG.getD k false=false→(k,rd)∈log→∀ p∈rd,tD s s1 p) (hl:∀ x∈log,x∈Nr)
  (Zd:qb ops.toList (iY ops.toList []) i o=false∨∀ k,Reach ops.toList i k→eG.getD k false=true):
  ∀ k,k∈done→eG.getD k false=false→Up E ops.toList k Nr s1:=by
 intro k hkd Aq;refine(ae5 k hkd Aq).lJ hD hb (fun ok hok t ht=>xC t fun hd=>?_) (fun rd AD=>hk k rd hkd Aq AD) hl;have ik:k≠i:=fun e=>hi (e ▸ hkd);rcases ht with ht|ht
 ·rcases xD.afW k i ok o t hok ho hd ht ik with h|h
  ·exact hi (aeN.TR (EP h) hkd)
  ·rcases Zd with h' | h'
   ·by_cases hA:i∈(iY ops.toList []).getD k []
    ·exact hi (aeN.TR (EP hA) hkd)
    ·rw[Kz hok ho hd ht hA] at h';cases h'
   ·rw[h' k (EP h)] at Aq;cases Aq
 ·exact ik (xD.dst k i ok o t hok ho ht hd)
include hE hD zt xD in
theorem Vg{eG:Array Bool}{act:Act}{w:World}:∀{n:Nat} {done:List Nat} {log:List (Nat×List qj)} {s:St} {G:Gh} {as:Act},Inv E X ops Kok KPok n done log s G as eG act w→
  ∃ n' ML Zw s' G' as',Inv E X ops Kok KPok n' ML Zw s' G' as' eG act w∧lG E ops.toList n' ML
 |n,done,log,s,G,as,h=>by
  cases abT E (all:=ops.toList) n done with
  |sk h1 h2 _=>exact⟨n,done,log,s,G,as,h,.inl ⟨h1,h2⟩⟩
  |afV m h1 h2 h3=>exact⟨n,done,log,s,G,as,h,.inr ⟨m,h1,h2,h3⟩⟩
  |KM m i hnm hr fG Dr Nh=>
   subst hnm;obtain⟨hid,o',ho',Rj⟩:=Ma.1 hr;obtain⟨o,ho,AA,Cb,hc⟩:=Nh _ _ _ _ h.can;obtain rfl:o=o':=by rw[ho] at ho';exact bva ho'
   have ht:=fG o ho;have FJ:eG.getD i false=false:=by
    cases hl:eG.getD i false with
    |false=>rfl
    |true=>exact absurd (h.Nu i hl) hid
   have YV:Clo ops.toList (·∈i::done):=fun a k ha hak=>by
    rcases ala.1 ha with rfl|ha
    ·obtain⟨o2,h1,e,h2,h3,rfl⟩:=hak
     rw[ho] at h1;cases h1;exact Q8 _ (Rj e h2 h3)
    ·exact Q8 _ (h.clo a k ha hak)
   have adg:∀ l∈jd ops.toList (iY ops.toList []) m (i::done),∀ k,k<ops.size→k∈i::done∨k∈l:=fun l hl k hk=>by
    rcases h.cov _ (Dr l hl) k hk with h1|h1
    ·exact .inl (Q8 _ h1)
    ·rcases ala.1 h1 with rfl|h1
     ·exact .inl (awa ..)
     ·exact .inr h1
   have acq:∀ t∈tV ops.toList o,o.dst≠some t:=fun t ht hd=>xD.self i o t ho hd ht;have go:∀{v:af} {u:Value} {s1:St} {Nr:List (Nat×List qj)} {G1:Gh},y7 o.dst v AA=some s1→aB X AA G1 w→bQ G1 AA as→aU G1 v u→vV E ops.toList Kok KPok m (i::done) Nr s1→
     (∀ x∈log,x∈Nr)→Up E ops.toList i Nr s1→∃ n' ML Zw s' G' as',Inv E X ops Kok KPok n' ML Zw s' G' as' eG act w∧lG E ops.toList n' ML:=
    fun {v u s1 Nr G1} Bh hm hr hv JS adm hpi=>by
     obtain⟨p1,p2,p3,p4,p5⟩:=BF Bh;have hb:ky s s1:=Cb.1.trans p1;refine Vg (n:=m) (done:=i::done) (log:=Nr) (s:=s1) (G:=G1) (as:=as.put o.dst u)
      {
       can:=JS,cov:=adg,clo:=YV,UN:=h.UN,Nu:=fun k hk=>Q8 _ (h.Nu k hk),lsz:=h.lsz
       Gf:=TO Bh hm,iz:=TN Bh hr hv,RQ:=fun k hk Aq=>?_,dfs:=by rw[tz];exact h.dfs,sz:=by rw[Ey];exact h.sz,lK:=fun t ht=>?_}
     ·rcases ala.1 hk with rfl|hk
      ·exact hpi
      ·exact Qb hD xD h.clo hid ho h.RQ hb (fun t ht=>by rw[p4 t (fun e he e2=>ht (by rw[he,e2])),Cb.2.2.2]) (fun k rd _ _ _ p _=>Bn (by rw[p2,Cb.2.1]) (by rw[p3,Cb.2.2.1.1]) (by rw[(bla p1.2.2.2).1,(bla Cb.1.2.2.2).1]) (by rw[NT Bh,Cb.2.2.1.2]) p) adm (.inl ht) k hk Aq
     ·rw[RV (ht i o (awa ..) FJ ho)]
      exact h.lK t fun k ok hk=>ht k ok (Q8 _ hk)
   rcases hc with ⟨hu,s1,Bh,JS⟩|⟨hw,_,adu⟩
   ·obtain⟨p1,p2,p3,p4,p5⟩:=BF Bh
    exact go Bh (Cb.Gf h.Gf) (Cb.eH h.iz) (show aU G (.one .vU) undef from rfl) JS (fun _ h=>h)
     ⟨o,ho,ht,.inl ⟨Ue (fun t ht'=>p4 t fun e he e2=>acq t ht' (by rw[he,e2])) hu,fun d hd=>⟨(p5 d hd).1,by rw[p1.1];exact(p5 d hd).2⟩⟩⟩
   ·obtain⟨hd,v,yB,s1,Bh,JS⟩:=adu ht
    obtain⟨p1,p2,p3,p4,p5⟩:=BF Bh;obtain⟨u,G1,_,Lx,hr1,hv1⟩:=T5 hE (un ht) hd yB zt (Cb.Gf h.Gf) (Cb.eH h.iz);have aco:∀ t∈tV ops.toList o,s1.iz t=AA.iz t:=fun t ht'=>p4 t fun e he e2=>acq t ht' (by rw[he,e2])
    have he:=VS (E:=E) aco;obtain⟨g1,g2⟩:=afw hD (un ht) hd yB p1 he (fun p _=>Bn p2 p3 (bla p1.2.2.2).1 (NT Bh) p);exact go Bh Lx (hr1 _ (Cb.eH h.iz)) hv1 JS (fun _ h=>Q8 _ h)
     ⟨o,ho,ht,.inr ⟨Uj aco hw,g1,by rw[NW he];exact awa ..,v,g2,fun d hd=>⟨(p5 d hd).1,by rw[p1.1];exact(p5 d hd).2⟩⟩⟩
end
end Go.Fx
namespace Go.Fx
theorem bQ.TP{G:Gh}{s:St}{a:Act}{d:Option Tmp}{v:af}{u:Value}(hr:bQ G s a)(hd:∀ e,d=some e→s.iz e=some v∧e<s.n)(hv:aU G v u):bQ G s (a.put d u):=by
 cases d with
 |none=>exact hr
 |some d=>
  obtain⟨h1,h2⟩:=hd d rfl;have:=hr.put (av:=v) h2 hv;exact⟨this.1,this.2.1,fun i x hx=>this.2.2 i x (by
   rw[qO];by_cases e:d=i
   ·subst e;rw[a8a rfl,←h1,hx]
   ·rw[aBa e];exact hx)⟩
theorem aaB{P:Program}{o:Oper}{a b:Act}{N1 N2:Act→World→Prop}{Q1 Q2:Exit→Act→World→Prop}{res:Result Next}(hb:∀ a' w,N1 a' w→∃ v,a' = b.put o.dst v∧N2 (a.put o.dst v) w)(hdd:a.defers=b.defers)
  (hp:∀ c w,Q1 (.panic c) b w→Q2 (.panic c) a w) (ho:LetsOut Q1→LetsOut Q2) (agq:∀ v v',b.put o.dst v=b.put o.dst v'→a.put o.dst v=a.put o.dst v') (h:o.upon P b N1 Q1 res):o.upon P a N2 Q2 res:=by
 have nx:∀ v w,N1 (b.put o.dst v) w→N2 (a.put o.dst v) w:=fun v w hn=>by obtain⟨v',h1,h2⟩:=hb _ _ hn;rw[agq v v' h1];exact h2
 cases res with
 |ok n w'=>
  cases n<;>simp only[Oper.upon] at h ⊢
  case value u=>exact nx _ _ h
  case skip=>exact nx _ _ h
  case defer d=>
   obtain⟨v',h1,h2⟩:=hb _ _ h;have:d::b.defers=b.defers:=by have:=bWa Act.defers h1;rw[tz,tz] at this;exact this
   exact absurd this (by simp)
  case enter f args=>
   refine Calls.mono h fun e w'' he=>?_;cases e with
   |returned u=>exact nx _ _ he
   |panicked c=>exact hp _ _ he
   |outgrown=>exact ho he
  case row row args=>exact Rows.mono h fun u w'' he=>nx _ _ he
 |halt x w'=>
  cases x<;>simp only[Oper.upon] at h ⊢
  case panic u=>exact hp _ _ h
section
variable {P:Program} {E:tr} (hE:iQ P E.iK) (hS:∀ f s,E.BG f=some s→AZ P E.gt f s) (hC:∀ f s,E.BG f=some s→nE s) (hD:∀ f s,E.BG f=some s→pt s)
 {X:mW} (zt:nL E.gt X.S0) {ops:Array Oper} (xD:Yj ops.toList) {Q:Exit→Act→World→Prop} {Kok:St→Prop} {KPok:af→St→Prop}
 (hK:∀ st G w act,aB X st G w→bQ G st act→Kok st→Q .normal act w)
 (hP:∀ av v st G w act,aB X st G w→act.defers=G.ds→aU G av v→KPok av st→Q (.panic [{v,recovered:=false}]) act w)
include hK in
theorem Mq{n:Nat}{done:List Nat}{log:List (Nat×List qj)}{s:St}{G:Gh}{as act:Act}{eG:Array Bool}{w:World}(h:Inv E X ops Kok KPok n done log s G as eG act w)(hh:lG E ops.toList n done)(fG:∀ i,i<ops.size→eG.getD i false=true):Q .normal act w:=by
 have JS:Kok s:=by
  rcases hh with ⟨_,h2⟩|⟨m,_,⟨i,hr⟩,_⟩
  ·exact h2 _ _ _ _ h.can
  ·obtain⟨h1,o,h2,_⟩:=Ma.1 hr
   exact absurd (h.Nu i (fG i (by simpa using (ama.1 h2).1))) h1
 have Ri:act=as:=by
  have htm:act.tmps=as.tmps:=by
   apply Array.ext h.sz;intro i h1 h2;have:=h.lK i (fun k o hk Aq hko=>by
    have bf:k<ops.size:=by simpa using (ama.1 hko).1
    rw[fG k bf] at Aq;cases Aq)
   simpa[h1,h2] using this
  cases act;cases as;simp only at htm;have:=h.dfs;simp only at this;rw[htm,this]
 rw[Ri];exact hK _ _ _ _ h.Gf h.iz JS
theorem XP(xD:Yj ops.toList){eG:Array Bool}(m9:eG.size=ops.size)(h:Region.ready .any ops eG=[]):∀ i,i<ops.size→eG.getD i false=true:=by
 intro i;induction i using Nat.strongRecOn with
 |ind i ih=>
  intro hi;cases hl:eG.getD i false with
  |true=>rfl
  |false=>
   have:i∈Region.ready .any ops eG:=mem_ready.2 ⟨by rw[Rh (by omega)];exact hl,ops[i],by simp[hi],fun e he hb=>by
    have OI:=xD.low i ops[i] e (by simp[hi]) he (by rw[MM];exact hb)
    exact ih e.on OI (by omega)⟩
   rw[h] at this;cases this
include hE hS hC hD zt xD hK hP in
theorem Of:∀(FE:Nat) {eG:Array Bool} {act:Act} {w:World} {n:Nat} {done:List Nat} {log:List (Nat×List qj)} {s:St} {G:Gh} {as:Act},Inv E X ops Kok KPok n done log s G as eG act w→
  lG E ops.toList n done→(List.range ops.size).countP (fun i=>!eG.getD i false)≤FE→wpAny P .any ops Q FE eG act w
 |0,eG,act,w,n,done,log,s,G,as,h,Na,hf=>by
  have fG:∀ i,i<ops.size→eG.getD i false=true:=fun i hi=>by
   have h0:(List.range ops.size).countP (fun i=>!eG.getD i false)=0:=by omega
   have:=List.countP_eq_zero.1 h0 i (b9a.2 hi);simpa using this
  refine⟨List.eq_nil_iff_forall_not_mem.2 fun i hi=>?_,Mq hK h Na fG⟩;obtain⟨h1,o,h2,_⟩:=mem_ready.1 hi;have bf:i<ops.size:=(cea.1 h2).1;rw[Rh (by rw[h.lsz];exact bf),fG i bf] at h1;cases h1
 |FE+1,eG,act,w,n,done,log,s,G,as,h,Na,hf=>by
  refine⟨fun hr=>Mq hK h Na (XP xD h.lsz hr),fun i hi=>?_⟩;obtain⟨hl1,o,hoa,ace⟩:=mem_ready.1 hi;have bf:i<ops.size:=(cea.1 hoa).1;have Hg:i<eG.size:=by rw[h.lsz];exact bf
  have FJ:eG.getD i false=false:=by rw[←Rh Hg];exact hl1
  have ho:ops.toList[i]? = some o:=by simpa using hoa
  have Rj:∀ k,Pb ops.toList i k→eG.getD k false=true:=fun k ⟨o2,h1,e,h2,h3,h4⟩=>by rw[ho] at h1;cases h1;rw[←h4];exact ace e h2 (by rw[←MM];exact h3)
  have Rn:∀ k,Reach ops.toList i k→eG.getD k false=true:=fun k hk=>h.UN.ready Rj hk;let nI:=eG.setIfInBounds i true;have hlc:Clo ops.toList (fun k=>nI.getD k false=true):=fun a k ha hak=>by
   show(eG.setIfInBounds i true).getD k false=true;rw[Bb Hg];by_cases e:i=k
   ·simp[e]
   ·rw[aBa e]
    by_cases e2:i=a
    ·subst e2;exact Rj k hak
    ·have ha':eG.getD a false=true:=by
      have:=ha;simp only[nI,Bb Hg,aBa e2] at this;exact this
     exact h.UN a k ha' hak
  have hlz:nI.size=ops.size:=by simp[nI,h.lsz]
  have hun:∀ k,nI.getD k false=false→k≠i∧eG.getD k false=false:=fun k hk=>by
   simp only[nI,Bb Hg] at hk;by_cases e:i=k
   ·simp[e] at hk
   ·rw[aBa e] at hk;exact⟨fun h=>e h.symm,hk⟩
  have aeO:(List.range ops.size).countP (fun k=>!nI.getD k false)≤FE:=by
   have:=Po (p:=fun k=>!eG.getD k false) (q:=fun k=>!nI.getD k false) (l:=List.range ops.size) (fun k _ hk=>by
    have:=hun k (by simpa using hk)
    simpa using this.2) ⟨i,b9a.2 bf,by simpa using FJ,by simp[nI,Hg]⟩
   omega
  have ack:QF (fun t=>t∈tV ops.toList o) act as:=fun t ht=>by
   refine h.lK t fun k ok hk Aq hko hd=>?_;by_cases e:k=i
   ·subst e
    rw[ho] at hko;cases hko;exact xD.self _ _ t ho hd ht
   ·rcases xD.afW i k o ok t ho hko hd ht (bDa e) with h1|h1
    ·rw[Rn k (EP h1)] at Aq;cases Aq
    ·obtain⟨o2,g1,g2,_⟩:=h.RQ k hk Aq
     rw[hko] at g1;cases g1;by_cases hA:k∈(iY ops.toList []).getD i []
     ·rw[Rn k (EP hA)] at Aq;cases Aq
     ·rw[Kz ho hko hd ht hA] at g2;cases g2
  have aeR:execOp act.eval o=execOp as.eval o:=SQ (fun cs b=>xD.sel i o cs b ho) ack;have aa9:Region.wanted o (yielded ops act.tmps)=Region.wanted o (yielded ops as.tmps):=Ui ack;have Y9:∀(v:Value) t,(∀ k ok,k∈done→nI.getD k false=false→ops.toList[k]? = some ok→ok.dst≠some t)→(act.put o.dst v).tmps[t]? = (as.put o.dst v).tmps[t]?:=fun v t ht=>by
   by_cases e:o.dst=some t
   ·exact Z2 h.sz e
   ·rw[RV e,RV e]
    refine h.lK t fun k ok hk Aq hko hd=>?_;by_cases e2:k=i
    ·subst e2
     rw[ho] at hko;cases hko;exact e hd
    ·exact ht k ok hk (by simp only[nI,Bb Hg,aBa (bDa e2)];exact Aq) hko hd
  unfold wpOp;simp only[hoa];by_cases hid:i∈done
  ·
   have go:∀{G1:Gh} {v:Value},aB X s G1 w→bQ G1 s (as.put o.dst v)→wpAny P .any ops Q FE nI (act.put o.dst v) w:=fun {G1 v} hm hr=>
    Of FE (n:=n) (done:=done) (log:=log) (s:=s) (G:=G1) (as:=as.put o.dst v)
     {
      can:=h.can,cov:=h.cov,clo:=h.clo,UN:=hlc,lsz:=hlz,Gf:=hm,iz:=hr
      Nu:=fun k hk=>(by
       by_cases e:i=k
       ·rw[←e];exact hid
       ·simp only[nI,Bb Hg,aBa e] at hk;exact h.Nu k hk)
      RQ:=fun k hk Aq=>h.RQ k hk (hun k Aq).2,dfs:=by rw[tz,tz];exact h.dfs,sz:=by rw[Ey,Ey];exact h.sz
      lK:=Y9 v} Na aeO
   obtain⟨o2,g1,g2,g3⟩:=h.RQ i hid FJ;rw[ho] at g1;cases g1;rcases g3 with ⟨hu,hd⟩|⟨hw,hdy,_,v,yB,hd⟩
   ·rw[aa9,Og h.iz hu]
    simp only[asa,aka];exact go h.Gf (h.iz.TP hd (show aU G (.one .vU) undef from rfl))
   ·rw[aa9,Oh h.iz hw]
    simp only[ava];obtain⟨u,G1,iM,Lx,hr1,hv1⟩:=T5 hE (un g2) hdy yB zt h.Gf h.iz;refine .inl ?_;unfold Oper.wp;rw[aeR,iM];exact go Lx ((hr1 _ h.iz).TP hd hv1)
  ·
   have agC:rdy ops.toList done i=true:=Ma.2 ⟨hid,o,ho,fun e he hb=>h.Nu _ (ace e he (by rw[←MM];exact hb))⟩
   obtain⟨m,hnm,htn,Dr,Nh⟩:∃ m,n=m+1∧qb ops.toList (iY ops.toList []) i o=true∧(∀ r∈jd ops.toList (iY ops.toList []) m (i::done),i::r∈jd ops.toList (iY ops.toList []) n done)∧
     DH E ops.toList i log s (vV E ops.toList Kok KPok m (i::done)) KPok:=by
    rcases Na with ⟨h1,_⟩|⟨m,h1,_,h3⟩
    ·rcases h.cov [] (by rw[h1];exact Q7.2 rfl) i bf with h2|h2
     ·exact absurd h2 hid
     ·cases h2
    ·obtain⟨g1,g2,g3⟩:=h3 i agC
     exact⟨m,h1,g1 o ho,g2,g3 _ _ _ _ h.can⟩
   subst hnm;have YV:Clo ops.toList (·∈i::done):=fun a k ha hak=>by
    rcases ala.1 ha with rfl|ha
    ·exact Q8 _ (h.Nu k (Rj k hak))
    ·exact Q8 _ (h.clo a k ha hak)
   have adg:∀ l∈jd ops.toList (iY ops.toList []) m (i::done),∀ k,k<ops.size→k∈i::done∨k∈l:=fun l hl k hk=>by
    rcases h.cov _ (Dr l hl) k hk with h1|h1
    ·exact .inl (Q8 _ h1)
    ·rcases ala.1 h1 with rfl|h1
     ·exact .inl (awa ..)
     ·exact .inr h1
   have go:∀{v:af} {u:Value} {st' s1:St} {G1:Gh} {w1:World},y7 o.dst v st' = some s1→aB X st' G1 w1→bQ G1 st' as→aU G1 v u→vV E ops.toList Kok KPok m (i::done) log s1→ky s st'→(∀ t,st'.iz t=s.iz t)→
     (∀ k rd,k∈done→eG.getD k false=false→(k,rd)∈log→∀ p∈rd,tD s st' p)→wpAny P .any ops Q FE nI (act.put o.dst u) w1:=fun {v u st' s1 G1 w1} Bh hm hr hv JS hbs hrg Iu=>by
    obtain⟨p1,p2,p3,p4,p5⟩:=BF Bh;have adk:Inv E X ops Kok KPok m (i::done) log s1 G1 (as.put o.dst u) nI (act.put o.dst u) w1:=
     {
      can:=JS,cov:=adg,clo:=YV,UN:=hlc,lsz:=hlz,Gf:=TO Bh hm,iz:=TN Bh hr hv
      Nu:=fun k hk=>(by
       by_cases e:i=k
       ·rw[←e];exact awa ..
       ·simp only[nI,Bb Hg,aBa e] at hk;exact Q8 _ (h.Nu k hk))
      RQ:=fun k hk Aq=>(by
       obtain⟨hki,Aq⟩:=hun k Aq;rcases ala.1 hk with e|hk
       ·exact absurd e hki
       ·exact Qb hD xD h.clo hid ho h.RQ (hbs.trans p1) (fun t ht=>by rw[p4 t (fun e he e2=>ht (by rw[he,e2])),hrg]) (fun k rd a b c p hp=>(Iu k rd a b c p hp).trans (Bn p2 p3 (bla p1.2.2.2).1 (NT Bh) p)) (fun _ h=>h) (.inr Rn) k hk Aq)
      dfs:=by rw[tz,tz];exact h.dfs,sz:=by rw[Ey,Ey];exact h.sz
      lK:=fun t ht=>Y9 u t fun k ok hk=>ht k ok (Q8 _ hk)}
    obtain⟨n',ML,Zw,s',G',as',YZ,hh'⟩:=Vg hE hD zt xD adk;exact Of FE YZ hh' aeO
   obtain⟨o2,g1,AA,Cb,hc⟩:=Nh;rw[ho] at g1;cases g1;have hr0:=Cb.eH h.iz;rcases hc with ⟨hu,s1,Bh,JS⟩|⟨hw,Zd,_⟩
   ·rw[aa9,Og hr0 hu]
    simp only[asa,aka];exact go Bh (Cb.Gf h.Gf) hr0 (show aU G (.one .vU) undef from rfl) JS Cb.1 Cb.2.2.2 (fun k rd _ _ _ p _=>Bn Cb.2.1 Cb.2.2.1.1 (bla Cb.1.2.2.2).1 Cb.2.2.1.2 p)
   ·rw[aa9,Oh hr0 hw]
    simp only[ava];obtain⟨adm,u,yB,hok,wK⟩:=Zd htn;refine .inl ?_;let Q1:Exit→Act→World→Prop:=fun e a w=>match e with
     |.panic c=>a=as→Q (.panic c) act w
     |e=>Q e a w
    have hwp:o.wp P as w (fun a' w'=>∃ v,a' = as.put o.dst v∧wpAny P .any ops Q FE nI (act.put o.dst v) w') Q1:=
     Ik hE hS (K:=oD) (KP:=O5) (r:=u) yB zt (Cb.Gf h.Gf) hr0
      (fun av v st' G' w' hm hr hv hu=>by
       simp only[oD,Ob] at hu;subst hu;obtain⟨s1,Bh,JS⟩:=hok rfl;obtain⟨hb,aa8⟩:=ZR hD hC yB;have aa8:=aa8 rfl;refine⟨v,rfl,go Bh hm hr hv JS (Cb.1.trans hb) (fun t=>?_) (fun k rd hk Aq hkr p hp=>?_)⟩
       ·show st'.iz t=s.iz t
        rw[←Cb.2.2.2 t];have e1:st'.eH=AA.eH:=aa8.eH;have e2:st'.jw=AA.jw:=hb.2.1;simp only[St.iz,e1,e2]
       ·have h1:=aqa.1 adm _ hkr
        simp only[a6a] at h1;rcases h1 with h1|h1
        ·rw[Rn k (EP (gV.1 h1))] at Aq;cases Aq
        ·refine(Bn Cb.2.1 Cb.2.2.1.1 (bla Cb.1.2.2.2).1 Cb.2.2.1.2 p).trans (aa8.lJ fun q hq=>?_)
         exact aqa.1 (aqa.1 h1 p hp) q hq)
      (fun av v st' G' w' hm hv hu=>by
       simp only[O5,Ob] at hu;subst hu;intro _;exact hP av v st' G' w' act hm (by rw[h.dfs];exact hr0.1.trans (h.Gf.ds.trans hm.ds.symm)) hv (wK rfl))
    unfold Oper.wp at hwp ⊢;rw[aeR];refine aaB (Q1:=Q1) (Q2:=Q) (N2:=wpAny P .any ops Q FE nI) (fun a' w' h=>h) h.dfs (fun c w' hq=>hq rfl) (fun⟨a,w',hq⟩=>⟨a,w',hq⟩) (fun v v' e=>?_) hwp;cases hd:o.dst with
    |none=>rfl
    |some d=>
     rw[hd] at e;have e1:=bWa Act.tmps e;simp only[Act.put] at e1 ⊢
     congr 1
     by_cases mX:d<act.tmps.size
     ·have:v=v':=by
       have h2:(as.tmps.setIfInBounds d v)[d]? = (as.tmps.setIfInBounds d v')[d]?:=by rw[e1]
       have agh:d<as.tmps.size:=by rw[←h.sz];exact mX
       simpa[agh] using h2
      rw[this]
     ·rw[cra (cta mX),cra (cta mX)]
include hE hS hC hD zt hK hP in
theorem WB(Y2:P.follows .mixedOrders=true){id:Nat}{R:Type}{r:R}{K:St→Option R}{KP:af→St→Option R}{st:St}{G:Gh}{w:World}{act:Act}(hd:DW ops.toList (iY ops.toList [])=true)
  (h:∀ l∈jd ops.toList (iY ops.toList []) ops.toList.length [],JH ops.toList l=true∧Hw E ops.toList (iY ops.toList []) l [] st K KP=some r)
  (adc:∀ s,K s=some r→Kok s) (YR:∀ av s,KP av s=some r→KPok av s) (hm:aB X st G w) (hr:bQ G st act):(Code.region id ops true).wp P Q act w:=by
 have xD:=abK hd;have aeK:=TW hD fun l hl=>(h l hl).2;refine wp_region_any Y2 ?_;have hz:∀ i d,(Array.replicate ops.size false).getD i d=true→d=true:=fun i d hi=>by
  rcases cQa i ops.size with h' | h'
  ·simp[h'] at hi
  ·simpa[Array.getElem?_eq_none,h'] using hi
 have hf:∀ i,(Array.replicate ops.size false).getD i false=false:=fun i=>by
  cases hq:(Array.replicate ops.size false).getD i false with
  |false=>rfl
  |true=>have:=hz i false hq;cases this
 have adk:Inv E X ops Kok KPok ops.toList.length [] [] st G act (Array.replicate ops.size false) act {w with drawn:=w.drawn+1}:=
  {
   can:=aeK.mono E ops.toList adc YR,cov:=fun l hl i hi=>.inr (gV.1 (aqa.1 (h l hl).1 i (b9a.2 (by simpa using hi))))
   clo:=fun a k ha=>by cases ha
   UN:=fun a k ha=>by have ha':(Array.replicate ops.size false).getD a false=true:=ha;rw[hf] at ha';cases ha'
   Nu:=fun i hi=>by rw[hf] at hi;cases hi
   lsz:=by simp,Gf:=hm.drew,iz:=hr,RQ:=fun i hi=>by cases hi
   dfs:=rfl,sz:=rfl,lK:=fun t _=>rfl}
 obtain⟨n',ML,Zw,s',G',as',YZ,hh'⟩:=Vg hE hD zt xD adk;exact Of hE hS hC hD zt xD hK hP ops.size YZ hh' (by
  refine bGa List.countP_le_length ?_;simp)
include hE hS hC hD zt hK hP in
theorem abE(Y2:P.follows .mixedOrders=true){id:Nat}{R:Type}{r:R}{K:St→Option R}{KP:af→St→Option R}{st:St}{G:Gh}{w:World}{act:Act}(h:Ve E ops.toList st K KP=some r)
  (adc:∀ s,K s=some r→Kok s) (YR:∀ av s,KP av s=some r→KPok av s) (hm:aB X st G w) (hr:bQ G st act):(Code.region id ops true).wp P Q act w:=by
 unfold Ve at h;cases hd:DW ops.toList (iY ops.toList []) with
 |false=>simp[hd] at h
 |true=>
  simp only[hd,aja] at h;split at h
  ·rename_i l hl
   cases hc:JH ops.toList l with
   |false=>rw[hc] at h;cases h
   |true=>rw[hc,aja] at h;exact WB hE hS hC hD zt hK hP Y2 hd (fun l' LY=>by rw[hl] at LY;obtain rfl:=Q7.1 LY;exact⟨hc,h⟩) adc YR hm hr
  ·cases h
end
end Go.Fx
namespace Go.Fx
structure FV(P:Program)(E:tr):Prop where
 iK:iQ P E.iK
 mix:P.follows .mixedOrders=true
 BG:∀ f s,E.BG f=some s→AZ P E.gt f s
 det:∀ f s,E.BG f=some s→pt s
 QX:∀ f s,E.BG f=some s→nE s
 acx:∀ i L,E.oE i=some L→AT L
theorem L9{X:mW}{st:St}{G:Gh}{w:World}{R:Type}{r:R}{act:Act}{d:Option Tmp}{av:af}{v:Value}{K:St→Option R}(h:pe d av st K=some r)(hm:aB X st G w)(hr:bQ G st act)(hv:aU G av v):
  ∃ st',aB X st' G w∧bQ G st' (act.put d v)∧K st' = some r:=by
 cases d with
 |none=>exact⟨st,hm,hr,h⟩
 |some d=>
  simp only[pe] at h;cases hc:((look st.jw d).isSome||Nat.ble st.n d) with
  |true=>simp[hc] at h
  |false=>
   simp only[hc,aoa] at h;simp only[aGa] at hc;have hd:d<st.n:=by
    rcases cQa d st.n with h' | h'
    ·exact h'
    ·have:=Nat.ble_eq_true_of_le h';rw[this] at hc;cases hc.2
   exact⟨_,hm.kj d av,hr.put hd hv,h⟩
section
variable {P:Program} {E:tr} (hE:FV P E) {X:mW} {R:Type} {r:R} (zt:nL E.gt X.S0)
include hE zt
theorem Ki{ops:Array Oper}{KP:af→St→Option R}{K:St→Option R}{Q:Exit→Act→World→Prop}
  (hK:∀ st G w act,aB X st G w→bQ G st act→K st=some r→Q .normal act w)
  (hP:∀ av v st G w act,aB X st G w→act.defers=G.ds→aU G av v→KP av st=some r→Q (.panic [{v,recovered:=false}]) act w):
  ∀{l:List Oper} {st:St} {G:Gh} {w:World} {act:Act},qd E ops.toList l st K KP=some r→aB X st G w→bQ G st act→wpList P ops Q l act w
 |[],st,G,w,act,h,hm,hr=>hK _ _ _ _ hm hr h
 |o::rest,st,G,w,act,h,hm,hr=>by
  have Dt:∀{q:St},aB X q G w→bQ G q act→mw E o q (fun v st'=>pe o.dst v st' fun s=>qd E ops.toList rest s K KP) KP=some r→Region.wanted o (yielded ops act.tmps)=true→wpList P ops Q (o::rest) act w:=fun {q} hm hr hx hw=>by
   simp only[wpList,hw,ava];exact .inl (Ik hE.iK hE.BG hx zt hm hr (fun av v st' G' w' m' r' v' k'=>by
    obtain⟨s,m2,r2,k2⟩:=L9 k' m' r' v';exact Ki hK hP k2 m2 r2) (fun av v st' G' w' m' v' k'=>hP av v st' G' w' act m' (hr.1.trans (hm.ds.trans m'.ds.symm)) v' k'))
  have skip:∀{q:St},aB X q G w→bQ G q act→pe o.dst (.one .vU) q (fun s=>qd E ops.toList rest s K KP)=some r→Region.wanted o (yielded ops act.tmps)=false→wpList P ops Q (o::rest) act w:=fun {q} hm hr hx hw=>by
   simp only[wpList,hw,asa,aka];obtain⟨s,m2,r2,k2⟩:=L9 hx hm hr (show aU G (.one .vU) undef from rfl)
   exact Ki hK hP k2 m2 r2
  simp only[qd] at h;split at h
  ·rename_i hg;exact Dt hm hr h (by simp[Region.wanted,hg])
  ·rename_i j tC hg
   split at h
   ·cases h
   ·rename_i g hgd
    have hy:∀ j',yielded ops act.tmps j' = (match (((ops[j']?).bind (·.dst)).bind (act.tmps[·]?)) with|some (.bool b)=>some b|_=>none):=fun j'=>rfl
    have LX:(ops[j]?).bind (·.dst)=some g:=by simpa[qD] using hgd
    split at h
    ·rename_i c xC
     have hv:=wH (v:=.one (.fy .bool c)) rfl (hr.2.2 g _ xC);have M9:act.tmps[g]? = some (.bool c):=by
      rw[aCa] at hv;cases hq:act.tmps[g]? with
      |none=>rw[hq] at hv;cases hv
      |some u=>rw[hq] at hv;simpa using hv
     have hyj:yielded ops act.tmps j=some c:=by rw[hy,LX];simp[M9]
     have Gf:∀ b,c=b→bQ G (st.kj g (.one (.fy .bool b))) act:=fun b e=>hr.refine (by rw[hv,e];exact oN b)
     cases c with
     |true=>
      simp only[aja] at h;cases tC with
      |true=>simp only[aja] at h;exact Dt (hm.kj _ _) (Gf _ rfl) h (by simp[Region.wanted,hg,hyj])
      |false=>simp only[aoa] at h;exact skip (hm.kj _ _) (Gf _ rfl) h (by simp[Region.wanted,hg,hyj])
     |false=>
      simp only[aoa] at h;cases tC with
      |true=>simp only[aja] at h;exact skip (hm.kj _ _) (Gf _ rfl) h (by simp[Region.wanted,hg,hyj])
      |false=>simp only[aoa] at h;exact Dt (hm.kj _ _) (Gf _ rfl) h (by simp[Region.wanted,hg,hyj])
    ·rename_i xC
     have hv:act.tmps.getD g undef=undef:=hr.2.2 g _ xC;have hyj:yielded ops act.tmps j=none:=by
      rw[hy,LX];rw[aCa] at hv;cases hq:act.tmps[g]? with
      |none=>simp[hq]
      |some u=>rw[hq] at hv;simp only[cca] at hv;subst hv;simp[hq,undef]
     exact skip hm hr h (by simp[Region.wanted,hg,hyj])
    ·cases h
omit hE zt in
def u9(P:Program)(gt:Nat→Option GA)(c:Code)(L:lM):Prop:=
 ∀{R:Type} {r:R} {X:mW} {st:St} {G:Gh} {w:World} {act:Act} {K:Exit→St→Option R} {KP:af→St→Option R} {Q:Exit→Act→World→Prop},
  L.run st K KP=some r→nL gt X.S0→aB X st G w→bQ G st act→
  (∀ e st G w act,aB X st G w→bQ G st act→K e st=some r→Q e act w)→
  (∀ av v st G w act,aB X st G w→act.defers=G.ds→aU G av v→KP av st=some r→Q (.panic [{v,recovered:=false}]) act w)→c.wp P Q act w
abbrev QD(P:Program)(gt:Nat→Option GA)(id:Nat)(body:Code)(L:lM):Prop:=u9 P gt (.block id body) L
noncomputable def ta(P:Program)(E:tr)(c:Code):Prop:=
 Code.rec (motive:=fun _=>Prop) True (fun id ops draw=>match draw,E.oE (id+1000000) with|true,some L=>u9 P E.gt (.region id ops true) L|_,_=>True) (fun _ _ x y=>x∧y) (fun _ _ _ x y=>x∧y)
  (fun id b x=>match E.oE id with|some L=>QD P E.gt id b L|none=>x) (fun _ _=>True) (fun _ _ _ _ _ _=>True)
  (fun _=>True) (fun _ _=>True) (fun _=>True) (fun _=>True) True (fun _=>True) c
theorem z6(c:Code):ta P E c→∀{st:St} {G:Gh} {w:World} {act:Act} {K:Exit→St→Option R} {KP:af→St→Option R} {Q:Exit→Act→World→Prop},tB E c st K KP=some r→aB X st G w→bQ G st act→
  (∀ e st G w act,aB X st G w→bQ G st act→K e st=some r→Q e act w)→
  (∀ av v st G w act,aB X st G w→act.defers=G.ds→aU G av v→KP av st=some r→Q (.panic [{v,recovered:=false}]) act w)→c.wp P Q act w:=by
 induction c with
 |skip=>intro _ st G w act K KP Q h hm hr hK hP;exact wp_skip (hK _ _ _ _ _ hm hr h)
 |region id ops draw=>
  intro hL st G w act K KP Q h hm hr hK hP;cases draw with
  |true=>
   have h:(match E.oE (id+1000000) with|some L=>L.run st K KP|none=>Ve E ops.toList st (fun s=>K .normal s) KP)=some r:=h
   have hL:(match true,E.oE (id+1000000) with|true,some L=>u9 P E.gt (.region id ops true) L|_,_=>True):=hL
   cases hl:E.oE (id+1000000) with
   |some L=>simp only[hl] at h hL;exact hL h zt hm hr hK hP
   |none=>simp only[hl] at h;exact abE hE.iK hE.BG hE.QX hE.det zt (fun st G w act m' r' k'=>hK .normal st G w act m' r' k') (Kok:=fun s=>K .normal s=some r) (KPok:=fun av s=>KP av s=some r) hP hE.mix h (fun _ h=>h) (fun _ _ h=>h) hm hr
  |false=>exact wp_region_list (Ki hE zt (fun st G w act=>hK .normal st G w act) hP h hm hr)
 |seq a b Nj ihb=>
  intro hL st G w act K KP Q h hm hr hK hP;refine wp_seq (Nj hL.1 h hm hr (fun e s G w act m r' k=>?_) (fun av v s G w act m r' v' k=>hP av v s G w act m r' v' k));cases e with
  |normal=>exact ihb hL.2 k m r' hK hP
  |_=>exact hK _ _ _ _ _ m r' k
 |cond c t e iht ihe=>
  intro hL st G w act K KP Q h hm hr hK hP;have h:(match (ev E st c).FX with|some b=>bif b then tB E t st K KP else tB E e st K KP|none=>none)=some r:=h
  cases hb:(ev E st c).FX with
  |none=>simp[hb] at h
  |some b=>
   simp only[hb] at h;have hv:=wH hb (fN (zt.mono hm.s0) hr c);cases b with
   |true=>exact wp_cond_true hv (iht hL.1 h hm hr hK hP)
   |false=>exact wp_cond_false hv (ihe hL.2 h hm hr hK hP)
 |block id b ih=>
  intro hL st G w act K KP Q h hm hr hK hP;have h:(match E.oE id with
   |some L=>L.run st K KP
   |none=>tB E b st (fun e s=>match e with | .exit i=>(bif Nat.beq i id then K .normal s else K (.exit i) s)|e=>K e s) KP)=some r:=h
  have hL:(match E.oE id with|some L=>QD P E.gt id b L|none=>ta P E b):=hL
  cases hl:E.oE id with
  |some L=>simp only[hl] at h hL;exact hL h zt hm hr hK hP
  |none=>
   simp only[hl] at h hL;refine wp_block (ih hL h hm hr (fun e s G w act m r' k=>?_) (fun av v s G w act m r' v' k=>hP av v s G w act m r' v' k));cases e with
   |exit i=>
    simp only[Exit.inBlock];by_cases e:i=id
    ·subst e
     simp only[b_a,aja] at k;simp only[ava];exact hK _ _ _ _ _ m r' k
    ·simp only[vu e,aoa] at k
     simp only[e,aka];exact hK _ _ _ _ _ m r' k
   |_=>exact hK _ _ _ _ _ m r' k
 |exit id=>intro _ st G w act K KP Q h hm hr hK hP;exact wp_exit (hK _ _ _ _ _ hm hr h)
 |ret=>intro _ st G w act K KP Q h hm hr hK hP;exact wp_ret (hK _ _ _ _ _ hm hr h)
 |_=>intro _ st G w act K KP Q h;cases h
end
end Go.Fx
namespace Go.Fx
abbrev AL:=List (Nat×Option Nat×jV)
def Gh.uO(G:Gh)(al:AL):Gh:={G with
 ψ:=fun nm=>match look al nm with|some (some a,_)=>G.ψ a|_=>.slice none 0 0
 HA:=fun nm=>match look al nm with|some (some a,_)=>G.HA a|_=>[]
 vn:=fun _=>0
 HV:=fun nm _=>match look al nm with|some (some a,_)=>kI (G.HA a)|_=>[]}
def St.uN(st:St)(i:Nat):af:=(match st.iz i with|some v=>v|none=>.one .any)
structure Ko(st t:St)(al:AL):Prop where
 n:t.n=st.n
 vr:t.EM=[]
 arr:∀ nm A,t.arr nm=some A→∃ j0,look al nm=some (j0,A)
 j0:∀ nm a A,look al nm=some (some a,A)→A.sh=false∧st.arr a=some A
 nil:∀ nm A,look al nm=some (none,A)→A.sh=false∧A.l=[]∧A.gK=true
 inj:∀ nm nm' a A A',look al nm=some (some a,A)→look al nm' = some (some a,A')→nm=nm'
 iz:∀ i tv,t.iz i=some tv→∀ X G w v,aB X st G w→aU G (st.uN i) v→aU (G.uO al) tv v
 dT:∀ o tl,t.dT o=some tl→∃ sl,st.dT o=some sl∧All2 (fun a b=>∀ X G w v,aB X st G w→aY G a v→aY (G.uO al) b v) (st.kg o 0 sl) (t.kg o 0 tl)
structure acR(st t:St)(al:AL):Prop extends Ko st t al where
 pn:t.pin=st.pin
 pa:∀ a,fk a st.pin=true→(∃ A,look al a=some (some a,A))∧∃ B,t.arr a=some B
 pin:∀ o sl,o<10000→st.dT o=some sl→∃ tl,t.dT o=some tl
 vb:∀ o j lf sl,o<10000→et st.cK o j=some lf→st.dT o=some sl→sl[j]? = some .vb→(∃ lf',et t.cK o j=some lf')∧∃ tl,t.dT o=some tl∧tl[j]? = some .vb
theorem All2.ac2{α β γ:Type}{R:α→γ→Prop}{T:β→γ→Prop}:∀{xs:List α} {ys:List β} {vs:List γ},All2 (fun a b=>∀ v,R a v→T b v) xs ys→All2 R xs vs→All2 T ys vs
 |[],[],[],_,_=>trivial
 |_::_,_::_,_::_,h,k=>⟨h.1 _ k.1,All2.ac2 h.2 k.2⟩
 |[],[],_::_,_,k=>k.elim
 |[],_::_,_,h,_=>h.elim
 |_::_,[],_,h,_=>h.elim
 |_::_,_::_,[],_,k=>k.elim
theorem Ko.gK{st t:St}{al:AL}(h:Ko st t al){G:Gh}:∀ x b,fq (G.uO al) t x b→∃ x',fq G st x' b∧((∃ o,x=(false,o)∧x' = (false,o))∨∃ nm a A,x=(true,nm)∧x' = (true,a)∧look al nm=some (some a,A)):=fun x b hx=>by
 obtain⟨k,n⟩:=x;cases k with
 |false=>obtain⟨⟨tl,ht⟩,rfl⟩:=hx;obtain⟨sl,hs,_⟩:=h.dT n tl ht;exact⟨(false,n),⟨⟨sl,hs⟩,rfl⟩,.inl ⟨n,rfl,rfl⟩⟩
 |true=>
  obtain⟨⟨A,hA,hs⟩,p,hp,rfl⟩:=hx;obtain⟨j0,hl⟩:=h.arr n A hA;cases j0 with
  |none=>simp[Gh.uO,hl] at hp
  |some a=>simp only[Gh.uO,hl] at hp;exact⟨(true,a),⟨⟨A,(h.j0 n a A hl).2,hs⟩,p,hp,rfl⟩,.inr ⟨n,a,A,rfl,rfl,hl⟩⟩
theorem Ko.ok{st t:St}{al:AL}(h:Ko st t al){X:mW}{G:Gh}{w:World}(hm:aB X st G w)(Xl:∀ o p,X.pin o=some p→∃ tl,t.dT o=some tl)
  (hbv:∀ o j u,X.bv o j=some u→(∃ lf',et t.cK o j=some lf')∧∃ tl,t.dT o=some tl∧tl[j]? = some .vb)
  (hap:∀ a u,X.aaK a=some u→fk a t.pin=true∧(∃ A,t.arr a=some A)∧(G.uO al).ψ a=u):aB X t (G.uO al) w:=by
 have gK:=h.gK (G:=G);refine {sl:=fun a=>?_,sh:=hm.sh,ob:=fun o tl ho=>?_,ar:=fun nm A hA=>?_,ah:=fun nm A hA hs=>?_,nd:=fun nm A hA hs=>?_,qw:=fun x y b hx hy=>?_,dS:=fun x b hx=>?_,ua:=fun x b hx=>?_,s0:=hm.s0,sn:=hm.sn,fr:=hm.fr,sz:=hm.sz,os:=hm.os,tp:=hm.tp,out:=hm.out,pin:=fun o p hp=>?_,bv:=fun o j u hv=>(by obtain⟨_,_,r⟩:=hm.bv o j u hv;obtain⟨q1,q2⟩:=hbv o j u hv;exact⟨q1,q2,r⟩),ap:=hap,hv:=fun a=>(by simp only[St.dH,h.vr,look];rfl),ds:=hm.ds,hh:=fun nm A hA hs hn=>?_}
 ·show SlV (match look al a with|some (some a,_)=>G.ψ a|_=>.slice none 0 0)
  split
  ·exact hm.sl _
  ·exact .inl ⟨_,_,_,rfl⟩
 ·obtain⟨sl,hs,ha⟩:=h.dT o tl ho
  obtain⟨arr,elem,mid,g1,g2,g3⟩:=hm.ob o sl hs;exact⟨arr,elem,mid,g1,g2,(ha.imp fun a b hab v hv=>hab X G w v hm hv).ac2 g3⟩
 ·obtain⟨j0,hl⟩:=h.arr nm A hA
  cases j0 with
  |none=>obtain⟨h1,h2,h3⟩:=h.nil nm A hl;refine(ig h1 h3).2 ?_;exact .inl ⟨h2,by simp[Gh.uO,hl],by simp[Gh.uO,hl]⟩
  |some a=>obtain⟨h1,h2⟩:=h.j0 nm a A hl;exact(hm.ar a A h2).mono (G:=G) (a:=a) (G':=G.uO al) (a':=nm) (fun _ _ h=>h) (by simp[Gh.uO,hl]) (by simp[Gh.uO,hl]) (fun _ _ _=>⟨rfl,rfl,rfl⟩)
 ·obtain⟨j0,hl⟩:=h.arr nm A hA
  cases j0 with
  |none=>intro p hp;simp[Gh.uO,hl] at hp
  |some a=>simpa[Gh.uO,hl] using hm.ah a A (h.j0 nm a A hl).2 hs
 ·obtain⟨j0,hl⟩:=h.arr nm A hA
  cases j0 with
  |none=>simp[Gh.uO,hl]
  |some a=>simpa[Gh.uO,hl] using hm.nd a A (h.j0 nm a A hl).2 hs
 ·obtain⟨x',EV,cx⟩:=gK x b hx
  obtain⟨y',F7,cy⟩:=gK y b hy;have e:=hm.qw x' y' b EV F7;rcases cx with ⟨o,rfl,rfl⟩|⟨nm,a,A,rfl,rfl,hl⟩<;>rcases cy with ⟨o',rfl,rfl⟩|⟨nm',a',A',rfl,rfl,LY⟩
  ·exact e
  ·simp at e
  ·simp at e
  ·simp only[aia,aYa] at e
   subst e;rw[h.inj nm nm' a A A' hl LY]
 ·obtain⟨x',EV,_⟩:=gK x b hx;exact hm.dS x' b EV
 ·obtain⟨x',EV,_⟩:=gK x b hx;exact hm.ua x' b EV
 ·exact⟨Xl o p hp,(hm.pin o p hp).2⟩
 ·obtain⟨j0,hl⟩:=h.arr nm A hA
  cases j0 with
  |none=>simp[Gh.uO,hl,kI]
  |some a=>simp[Gh.uO,hl]
theorem acR.ok{st t:St}{al:AL}(h:acR st t al){X:mW}{G:Gh}{w:World}(hm:aB X st G w):aB X t (G.uO al) w:=
 h.toKo.ok hm (fun o p hp=>(by obtain⟨⟨sl,hs⟩,_⟩:=hm.pin o p hp;exact h.pin o sl (X.pl o p hp) hs))
  (fun o j u hv=>(by obtain⟨⟨lf,h1⟩,⟨sl,h2,h3⟩,_⟩:=hm.bv o j u hv;exact h.vb o j lf sl (X.bl o j u hv) h1 h2 h3))
  (fun a u hu=>(by
   obtain⟨h1,_,h3⟩:=hm.ap a u hu;obtain⟨⟨A,h4⟩,B,h5⟩:=h.pa a h1;exact⟨(by rw[h.pn];exact h1),⟨B,h5⟩,by simp[Gh.uO,h4,h3]⟩))
theorem Ko.eH{st t:St}{al:AL}(h:Ko st t al){X:mW}{G:Gh}{w:World}(hm:aB X st G w){act:Act}(hr:bQ G st act):bQ (G.uO al) t act:=
 ⟨hr.1,hr.2.1.trans h.n.symm,fun i tv ht=>by
  refine h.iz i tv ht X G w _ hm ?_;unfold St.uN;cases hs:st.iz i with
  |none=>trivial
  |some sv=>exact hr.2.2 i sv hs⟩
structure Yl(st t:St):Prop where
 vr:t.EM=st.EM
 pn:t.pin=st.pin
 ap:∀ a A,fk a st.pin=true→st.arr a=some A→∃ B,t.arr a=some B
 n:t.n=st.n
 arr:∀ nm A,t.arr nm=some A→st.arr nm=some A
 iz:∀ i tv,t.iz i=some tv→∀ G v,aU G (st.uN i) v→aU G tv v
 dT:∀ o tl,t.dT o=some tl→∃ sl,st.dT o=some sl∧All2 (fun a b=>∀ G v,aY G a v→aY G b v) (st.kg o 0 sl) (t.kg o 0 tl)
 pin:∀ o sl,o<10000→st.dT o=some sl→∃ tl,t.dT o=some tl
 vb:∀ o j lf sl,et t.cK o j=some lf→st.dT o=some sl→sl[j]? = some .vb→∃ tl,t.dT o=some tl∧tl[j]? = some .vb
theorem Yl.ok{st t:St}(h:Yl st t){X:mW}{G:Gh}{w:World}(hm:aB X st G w)(hbv:∀ o j u,X.bv o j=some u→∃ lf,et t.cK o j=some lf):aB X t G w:=by
 have gK:∀ x b,fq G t x b→fq G st x b:=fun x b hx=>by
  obtain⟨k,n⟩:=x;cases k with
  |false=>obtain⟨⟨tl,ht⟩,rfl⟩:=hx;obtain⟨sl,hs,_⟩:=h.dT n tl ht;exact⟨⟨sl,hs⟩,rfl⟩
  |true=>obtain⟨⟨A,hA,hs⟩,p,hp,rfl⟩:=hx;exact⟨⟨A,h.arr n A hA,hs⟩,p,hp,rfl⟩
 refine {sl:=hm.sl,sh:=hm.sh,ob:=fun o tl ho=>?_,ar:=fun nm A hA=>hm.ar nm A (h.arr nm A hA),ah:=fun nm A hA hs=>hm.ah nm A (h.arr nm A hA) hs,nd:=fun nm A hA hs=>hm.nd nm A (h.arr nm A hA) hs,qw:=fun x y b hx hy=>hm.qw x y b (gK x b hx) (gK y b hy),dS:=fun x b hx=>hm.dS x b (gK x b hx),ua:=fun x b hx=>hm.ua x b (gK x b hx),s0:=hm.s0,sn:=hm.sn,fr:=hm.fr,sz:=hm.sz,os:=hm.os,tp:=hm.tp,out:=hm.out,pin:=fun o p hp=>?_,bv:=fun o j u hv=>(by obtain⟨_,⟨sl,h2,h3⟩,r⟩:=hm.bv o j u hv;obtain⟨lf,h1⟩:=hbv o j u hv;exact⟨⟨lf,h1⟩,h.vb o j lf sl h1 h2 h3,r⟩),ap:=fun a u hu=>(by obtain⟨h1,⟨A,h2⟩,h3⟩:=hm.ap a u hu;exact⟨by rw[h.pn];exact h1,h.ap a A h1 h2,h3⟩),hv:=fun a=>(by rw[hm.hv a];simp only[St.dH,h.vr]),ds:=hm.ds,hh:=fun nm A hA hs hn=>hm.hh nm A (h.arr nm A hA) hs hn}
 ·obtain⟨sl,hs,ha⟩:=h.dT o tl ho
  obtain⟨arr,elem,mid,g1,g2,g3⟩:=hm.ob o sl hs;exact⟨arr,elem,mid,g1,g2,(ha.imp fun a b hab v hv=>hab G v hv).ac2 g3⟩
 ·obtain⟨⟨sl,hs⟩,e⟩:=hm.pin o p hp
  exact⟨h.pin o sl (X.pl o p hp) hs,e⟩
theorem Yl.eH{st t:St}(h:Yl st t){G:Gh}{act:Act}(hr:bQ G st act):bQ G t act:=
 ⟨hr.1,hr.2.1.trans h.n.symm,fun i tv ht=>by
  refine h.iz i tv ht G _ ?_;unfold St.uN;cases hs:st.iz i with
  |none=>trivial
  |some sv=>exact hr.2.2 i sv hs⟩
end Go.Fx
namespace Go.Fx
inductive Pl where
 |r (i:Nat)|l (o j:Nat)|q (i j:Nat)
def Pl.key:Pl→Nat
 |.r i=>1000000+i
 |.l o j=>2000000+o * 1000+j
 |.q i j=>20000000+i * 1000+j
def Md.RP:Md→Bool
 |.eL=>true
 |.bA=>true
 |_=>false
inductive mT where
 |any|d (t:Ty)|h (m:Md) (t:Ty)|lit (l:ai)
@[reducible] def mT.V:mT→Type
 |.any=>Unit | .d t=>t.nM | .h _ t=>List t.nM | .lit _=>Unit
abbrev lm:=List (Pl×mT)
@[reducible] def PV:lm→Type
 |[]=>Unit
 |p::r=>p.2.V×PV r
def mT.bR(nm:Nat):(s:mT)→s.V→ai
 |.any,_=>.any
 |.d t,x=>.fy t x
 |.h _ _,_=>.mX nm
 |.lit l,_=>l
def mT.arr:(s:mT)→s.V→Option jV
 |.h m t,x=>some ⟨t,m,false,x⟩
 |_,_=>none
def mb:(ps:lm)→PV ps→List (Nat×af)
 |[],_=>[]
 |(.r i,s)::r,v=>(i,.one (s.bR (Pl.r i).key v.1))::mb r v.2
 |(.l _ _,_)::r,v=>mb r v.2
 |(.q _ _,_)::r,v=>mb r v.2
def I2:(ps:lm)→PV ps→List (Nat×Nat×ai)
 |[],_=>[]
 |(.q i j,s)::r,v=>(i,j,s.bR (Pl.q i j).key v.1)::I2 r v.2
 |(.r _,_)::r,v=>I2 r v.2
 |(.l _ _,_)::r,v=>I2 r v.2
def RW(i:Nat):lm→Nat
 |[]=>0
 |(.q i' _,_)::r=>bif Nat.beq i' i then RW i r+1 else RW i r
 |_::r=>RW i r
def XO(full:lm):lm→List (Nat×Nat)
 |[]=>[]
 |(.q i 0,_)::r=>(i,RW i full)::XO full r
 |_::r=>XO full r
def qsh(l:List (Nat×Nat×ai))(i:Nat):Nat→Nat→List ai
 |_,0=>[]
 |j,n+1=>(match et l i j with|some l=>l|none=>.any)::qsh l i (j+1) n
def Sp(ps:lm)(v:PV ps):List (Nat×af):=(XO ps ps).map fun p=>(p.1,.agg (qsh (I2 ps v) p.1 0 p.2))
def cj:(ps:lm)→PV ps→List (Nat×Nat×ai)
 |[],_=>[]
 |(.l o j,s)::r,v=>(o,j,s.bR (Pl.l o j).key v.1)::cj r v.2
 |(.r _,_)::r,v=>cj r v.2
 |(.q _ _,_)::r,v=>cj r v.2
def eR:(ps:lm)→PV ps→List (Nat×jV)
 |[],_=>[]
 |(p,s)::r,v=>(match s.arr v.1 with|some A=>(p.key,A)::eR r v.2|none=>eR r v.2)
structure qv where
 n:Nat
 cp:List (Nat×Nat)
 cs:lm
 vs:lm
 pin:List Nat
def pG(cl vl:List (Nat×Nat×ai))(o:Nat):Nat→Nat→List ai
 |_,0=>[]
 |j,k+1=>(match et cl o j with|some _=>.vb|none=>match et vl o j with|some l=>l|none=>.any)::pG cl vl o (j+1) k
def qv.st(L:qv)(c:PV L.cs)(v:PV L.vs):St:=
 ⟨L.n,mb L.vs v++Sp L.vs v,L.cp.map fun p=>(p.1,pG (cj L.cs c) (cj L.vs v) p.1 0 p.2),eR L.vs v,mb L.cs c,cj L.cs c,eR L.cs c,L.pin,[]⟩
def wv:ai→ai→Bool
 |.nil,.nil=>true
 |.J7,.J7=>true
 |.vU,.vU=>true
 |.lB o f,.lB o' f'=>Nat.beq o o'&&Nat.beq f f'
 |.fn f,.fn f'=>Nat.beq f f'
 |_,_=>false
def af.qls(v:af):Option (List ai):=bif v.isAgg then v.qc else none
def qOk(ps:lm)(s:St):Bool:=(XO ps ps).all fun p=>match (s.uN p.1).qls with|some ls=>Nat.beq ls.length p.2|none=>false
def St.at(st:St):Pl→af
 |.r i=>st.uN i
 |.q i j=>(match (st.uN i).qls with|some ls=>(match ls[j]? with|some l=>.one l|none=>.one .any)|none=>.one .any)
 |.l o j=>(match st.dT o with|some ls=>(match ls[j]? with|some l=>.one (st.res o j l)|none=>.one .any)|none=>.one .any)
def zZ(st:St)(p:Pl):(s:mT)→Option (s.V×AL)
 |.any=>some ((),[])
 |.d t=>(match (st.at p).vJ st t with|some x=>some (x,[])|none=>none)
 |.h m t=>(match st.at p with
  |.one .nil=>(bif m.RP then some ([],[(p.key,none,⟨t,m,false,[]⟩)]) else none)
  |.one (.mX a)=>(match st.arr a with
   |some A=>(bif A.sh||!m.lK A.md then none else match wc (.slice A.t) (.slice t) A.l with|some x=>some (x,[(p.key,some a,⟨t,m,false,x⟩)])|none=>none)
   |none=>none)
  |_=>none)
 |.lit l=>(match st.at p with | .one l'=>(bif wv l l' then some ((),[]) else none)|_=>none)
def lC(st:St):(ps:lm)→Option (PV ps×AL)
 |[]=>some ((),[])
 |p::r=>(match zZ st p.1 p.2 with
  |some (x,a)=>(match lC st r with|some (xs,b)=>some ((x,xs),a++b)|none=>none)
  |none=>none)
def iT:lm→St→Option St
 |[],st=>some st
 |(p,.d _)::r,st=>(match (st.at p).qR st with|some st'=>iT r st' | none=>none)
 |_::r,st=>iT r st
def Aj(al:AL):Bool:=ou (al.map (·.1))&&ou (al.filterMap (·.2.1))
def Es(cp:List (Nat×Nat))(st:St):Bool:=
 cp.all (fun p=>match st.dT p.1 with|some ls=>Nat.beq ls.length p.2|none=>false)&&st.cp.all fun p=>Nat.ble 10000 p.1||fk p.1 (cp.map (·.1))
def IG(st:St):Pl→mT→Bool
 |.r i,s=>(look st.eH i).isNone&&(match s with | .h _ _=>(look st.cT (Pl.r i).key).isNone | .lit l=>wv l l|_=>true)
 |.l o j,s=>(match st.dT o with|some ls=>(match ls[j]? with|some .vb=>true|_=>false)|none=>false)&&(match s with | .h _ _=>(look st.cT (Pl.l o j).key).isNone | .lit l=>wv l l|_=>true)
 |.q _ _,_=>false
def vN(st:St)(cs:lm):Bool:=ou (cs.map fun p=>p.1.key)&&cs.all fun p=>IG st p.1 p.2
def gm:(cs:lm)→PV cs→AL
 |[],_=>[]
 |(p,s)::r,v=>(match s.arr v.1 with|some A=>(p.key,some p.key,A)::gm r v.2|none=>gm r v.2)
def Xc:List Nat→List Nat→Bool
 |[],[]=>true
 |x::r,y::s=>Nat.beq x y&&Xc r s
 |_,_=>false
def Gc(pin:List Nat)(al:AL):Bool:=pin.all fun q=>match look al q with|some (some b,_)=>Nat.beq q b|_=>false
def ent(L:qv)(st:St):Option (PV L.cs×PV L.vs×St):=
 match iT L.cs st with
 |none=>none
 |some s=>(match iT L.vs s with
  |none=>none
  |some s=>(match lC s L.cs with
   |none=>none
   |some (c,a)=>(match lC s L.vs with
    |none=>none
    |some (v,b)=>(bif Nat.beq L.n s.n&&Aj (a++b)&&Es L.cp s&&qOk L.vs s&&(Xc L.pin s.pin&&Gc L.pin (a++b)) then some (c,v,s) else none))))
def rnd(L:qv)(al:AL)(s:St):Option (PV L.vs):=
 match iT L.vs s with
 |none=>none
 |some s=>(match lC s L.vs with
  |none=>none
  |some (v,b)=>(bif vN s L.cs&&Aj (al++b)&&Es L.cp s&&qOk L.vs s&&Gc L.pin (al++b) then some v else none))
end Go.Fx
namespace Go.Fx
theorem eN:∀{l:List Nat},ou l=true→l.Nodup
 |[],_=>cba
 |x::r,h=>by simp only[ou,Q3,aOa] at h;rw[a3a];exact⟨(fun hx=>(by rw[gV.2 hx] at h;cases h.1)),eN h.2⟩
theorem lA{α:Type}:∀{l:List (Nat×α)} {k:Nat} {v:α},(l.map (·.1)).Nodup→(k,v)∈l→look l k=some v
 |(k',v')::r,k,v,hn,h=>by
  rw[aw];rw[aHa,a3a] at hn;by_cases e:k' = k
  ·subst e
   rcases ala.1 h with h|h
   ·cases h;simp
   ·exact absurd (aIa (f:=(·.1)) h) hn.1
  ·rw[aBa e]
   rcases ala.1 h with h|h
   ·cases h;exact absurd rfl e
   ·exact lA hn.2 h
theorem Jd:∀{al:AL} {n n' a:Nat} {A A':jV},(al.filterMap (·.2.1)).Nodup→(n,some a,A)∈al→(n',some a,A')∈al→n=n'
 |(k,j0,B)::r,n,n',a,A,A',hn,h,h'=>by
  have ii:∀{m:Nat} {C:jV},(m,some a,C)∈r→a∈r.filterMap (·.2.1):=fun {m C} hm=>bia.2 ⟨_,hm,rfl⟩
  rcases ala.1 h with h1|h1<;>rcases ala.1 h' with h2|h2
  ·cases h1;cases h2;rfl
  ·cases h1
   simp only[b3a,a3a] at hn;exact absurd (ii h2) hn.1
  ·cases h2
   simp only[b3a,a3a] at hn;exact absurd (ii h1) hn.1
  ·refine Jd (al:=r) ?_ h1 h2
   cases j0 with
   |none=>simpa using hn
   |some _=>simp only[b3a,a3a] at hn;exact hn.2
def Me(s:St)(al:AL):Prop:=∀ nm j0 A,(nm,j0,A)∈al→A.sh=false∧(match j0 with|some a=>s.arr a=some A|none=>A.l=[]∧A.gK=true)
structure Src(s:St)(al:AL)(p:Pl)(sp:mT)(x:sp.V):Prop where
 Gf:∀ X G w v,aB X s G w→aU G (s.at p) v→aU (G.uO al) (.one (sp.bR p.key x)) v
 arr:∀ A,sp.arr x=some A→∃ j0,look al p.key=some (j0,A)
def tt(s:St)(al:AL):(ps:lm)→PV ps→Prop
 |[],_=>True
 |(p,sp)::r,v=>Src s al p sp v.1∧tt s al r v.2
theorem Nq{l l':ai}(h:wv l l' = true):l=l':=by cases l<;>cases l'<;>simp_all[wv]
theorem V9{G:Gh}{al:AL}{l l':ai}{v:Value}(h:wv l l' = true)(r:aY G l' v):aY (G.uO al) l v:=by rw[Nq h];cases l'<;>first|exact r|(cases l<;>simp[wv] at h)
theorem Z4{s:St}{p:Pl}{sp:mT}{x:sp.V}{a:AL}(h:zZ s p sp=some (x,a)):Me s a:=by
 cases sp with
 |any=>simp only[zZ,Ob,aia] at h;obtain⟨_,rfl⟩:=h;intro _ _ _ hm;cases hm
 |d t=>
  simp only[zZ] at h;split at h
  ·simp only[Ob,aia] at h;obtain⟨_,rfl⟩:=h;intro _ _ _ hm;cases hm
  ·cases h
 |lit l=>
  simp only[zZ] at h;split at h
  ·rename_i l' _
   cases he:wv l l'<;>simp[he] at h;subst h;intro _ _ _ hm;cases hm
  ·cases h
 |h m t=>
  simp only[zZ] at h;split at h
  ·cases hw:m.RP with
   |false=>simp[hw] at h
   |true=>
   simp only[hw,aja,Ob,aia] at h;obtain⟨_,rfl⟩:=h;intro nm j0 A hm;simp only[Q7,aia] at hm;obtain⟨_,rfl,rfl⟩:=hm;exact⟨rfl,rfl,hw⟩
  ·rename_i b _
   split at h
   ·rename_i A hA
    cases hs:(A.sh||!m.lK A.md) with
    |true=>simp[hs] at h
    |false=>
     simp only[hs,aoa] at h;simp only[aGa,bpa] at hs;split at h
     ·rename_i y hy
      simp only[Ob,aia] at h;obtain⟨rfl,rfl⟩:=h;intro nm j0 B hm;simp only[Q7,aia] at hm;obtain⟨_,rfl,rfl⟩:=hm;obtain⟨ec,el⟩:=lX hy;have vm:=Md.xy hs.2;obtain⟨t',dp,sh,ll⟩:=A;simp only[Ty.slice.injEq] at ec;subst ec;simp only at el hs vm;obtain⟨rfl,_⟩:=hs;subst el vm;exact⟨rfl,hA⟩
     ·cases h
   ·cases h
  ·cases h
theorem aby{s:St}{p:Pl}{sp:mT}{x:sp.V}{a al:AL}(h:zZ s p sp=some (x,a))(qa:∀ e∈a,e∈al)(hn:(al.map (·.1)).Nodup):Src s al p sp x:=by
 cases sp with
 |any=>exact⟨fun _ _ _ _ _ _=>trivial,fun A hA=>by cases hA⟩
 |d t=>
  simp only[zZ] at h;split at h
  ·rename_i y hy
   simp only[Ob,aia] at h;obtain⟨rfl,_⟩:=h;exact⟨fun X G w v hm hv=>DM hm hy hv,fun A hA=>by cases hA⟩
  ·cases h
 |lit l=>
  simp only[zZ] at h;split at h
  ·rename_i l' LY
   cases he:wv l l'<;>simp[he] at h;refine⟨fun X G w v hm hv=>?_,fun A hA=>by cases hA⟩
   rw[LY] at hv;exact V9 he hv
  ·cases h
 |h m t=>
  simp only[zZ] at h;split at h
  ·rename_i vj
   cases hw:m.RP with
   |false=>simp[hw] at h
   |true=>
   simp only[hw,aja,Ob,aia] at h;obtain⟨rfl,rfl⟩:=h;have hl:=lA hn (qa _ (Q7.2 rfl));refine⟨fun X G w v hm hv=>?_,fun A hA=>⟨none,by rw[hl];simp[mT.arr] at hA;rw[hA]⟩⟩
   rw[vj] at hv;show v=(G.uO al).ψ p.key;simp only[Gh.uO,hl];exact hv
  ·rename_i b vj
   split at h
   ·rename_i A hA
    cases hs:(A.sh||!m.lK A.md) with
    |true=>simp[hs] at h
    |false=>
     simp only[hs,aoa] at h;split at h
     ·rename_i y hy
      simp only[Ob,aia] at h;obtain⟨rfl,rfl⟩:=h;have hl:=lA hn (qa _ (Q7.2 rfl));refine⟨fun X G w v hm hv=>?_,fun A hA=>⟨some b,by rw[hl];simp[mT.arr] at hA;rw[hA]⟩⟩
      rw[vj] at hv;show v=(G.uO al).ψ p.key;simp only[Gh.uO,hl];exact hv
     ·cases h
   ·cases h
  ·cases h
theorem pF{s:St}:∀{ps:lm} {v:PV ps} {a:AL},lC s ps=some (v,a)→Me s a
 |[],v,a,h=>by simp only[lC,Ob,aia] at h;obtain⟨_,rfl⟩:=h;intro _ _ _ hm;cases hm
 |(p,sp)::r,v,a,h=>by
  simp only[lC] at h;split at h
  ·rename_i x a1 h1
   split at h
   ·rename_i xs b h2
    simp only[Ob,aia] at h;obtain⟨_,rfl⟩:=h;intro nm j0 A hm;rcases ana.1 hm with hm|hm
    ·exact Z4 h1 nm j0 A hm
    ·exact pF h2 nm j0 A hm
   ·cases h
  ·cases h
theorem vC{s:St}{al:AL}(hn:(al.map (·.1)).Nodup):∀{ps:lm} {v:PV ps} {a:AL},lC s ps=some (v,a)→(∀ e∈a,e∈al)→tt s al ps v
 |[],v,a,h,_=>trivial
 |(p,sp)::r,v,a,h,qa=>by
  simp only[lC] at h;split at h
  ·rename_i x a1 h1
   split at h
   ·rename_i xs b h2
    simp only[Ob,aia] at h;obtain⟨rfl,rfl⟩:=h;exact⟨aby h1 (fun e he=>qa e (aya _ he)) hn,vC hn h2 (fun e he=>qa e (ara _ he))⟩
   ·cases h
  ·cases h
theorem BX{s:St}{al:AL}:∀{ps:lm} {v:PV ps} {nm:Nat} {A:jV},tt s al ps v→look (eR ps v) nm=some A→∃ j0,look al nm=some (j0,A)
 |[],v,nm,A,_,h=>by cases h
 |(p,sp)::r,v,nm,A,hs,h=>by
  simp only[eR] at h;split at h
  ·rename_i B hB
   rw[aw] at h;by_cases e:p.key=nm
   ·simp only[e,ava,Ob] at h
    subst h;subst e;exact hs.1.arr _ hB
   ·simp only[e,aka] at h;exact BX hs.2 h
  ·exact BX hs.2 h
theorem iE{α:Type}:∀(l m:List (Nat×α)) (k:Nat),look (l++m) k=(match look l k with|some v=>some v|none=>look m k)
 |[],m,k=>rfl
 |(k',v)::r,m,k=>by
  simp only[a4a,aw];by_cases e:k' = k
  ·simp[e]
  ·simp only[e,aka];exact iE r m k
theorem xV{s:St}:∀{ps:lm} {v:PV ps} {a:AL},lC s ps=some (v,a)→∀ nm j0 A,(nm,j0,A)∈a→∃ B,look (eR ps v) nm=some B
 |[],v,a,h,nm,j0,A,hm=>by simp only[lC,Ob,aia] at h;obtain⟨_,rfl⟩:=h;cases hm
 |(p,sp)::r,v,a,h,nm,j0,A,hm=>by
  simp only[lC] at h;split at h
  ·rename_i x a1 h1
   split at h
   ·rename_i xs b h2
    simp only[Ob,aia] at h;obtain⟨rfl,rfl⟩:=h;have key:(∃ B,look (eR r xs) nm=some B)→∃ B,look (eR ((p,sp)::r) (x,xs)) nm=some B:=fun⟨B,hB⟩=>by
     simp only[eR];split
     ·rw[aw];split
      ·exact⟨_,rfl⟩
      ·exact⟨B,hB⟩
     ·exact⟨B,hB⟩
    rcases ana.1 hm with hm|hm
    ·have hs:nm=p.key∧sp.arr x=some A:=by
      cases sp with
      |any=>simp only[zZ,Ob,aia] at h1;obtain⟨_,rfl⟩:=h1;cases hm
      |d t=>simp only[zZ] at h1;split at h1<;>simp at h1;obtain⟨_,rfl⟩:=h1;cases hm
      |lit l=>
       simp only[zZ] at h1;split at h1
       ·rename_i l' _;cases he:wv l l'<;>simp[he] at h1;subst h1;cases hm
       ·cases h1
      |h m t=>
       simp only[zZ] at h1;split at h1
       ·cases hw:m.RP with
        |false=>simp[hw] at h1
        |true=>simp only[hw,aja,Ob,aia] at h1;obtain⟨rfl,rfl⟩:=h1;simp only[Q7,aia] at hm;obtain⟨rfl,_,rfl⟩:=hm;exact⟨rfl,rfl⟩
       ·split at h1
        ·rename_i A' _
         cases hs:(A'.sh||!m.lK A'.md) with
         |true=>simp[hs] at h1
         |false=>
          simp only[hs,aoa] at h1;split at h1
          ·simp only[Ob,aia] at h1
           obtain⟨rfl,rfl⟩:=h1;simp only[Q7,aia] at hm;obtain⟨rfl,_,rfl⟩:=hm;exact⟨rfl,rfl⟩
          ·cases h1
        ·cases h1
       ·cases h1
     obtain⟨rfl,e⟩:=hs;exact⟨A,by simp[eR,e,aw]⟩
    ·exact key (xV h2 nm j0 A hm)
   ·cases h
  ·cases h
theorem RZ{L:qv}{c:PV L.cs}{v:PV L.vs}{nm:Nat}(h:(∃ B,look (eR L.cs c) nm=some B)∨∃ B,look (eR L.vs v) nm=some B):∃ B,(L.st c v).arr nm=some B:=by
 have e:(L.st c v).arr nm=(match look (eR L.vs v) nm with|some v=>some v|none=>look (eR L.cs c) nm):=rfl
 rw[e];cases hv:look (eR L.vs v) nm with
 |some B=>exact⟨B,rfl⟩
 |none=>
  rcases h with h|⟨B,h⟩
  ·exact h
  ·rw[hv] at h;cases h
theorem y9{s:St}{al:AL}:∀{ps:lm} {v:PV ps} {i:Nat} {tv:af},tt s al ps v→look (mb ps v) i=some tv→∀ X G w u,aB X s G w→aU G (s.uN i) u→aU (G.uO al) tv u
 |[],v,i,tv,_,h=>by cases h
 |(.r j,sp)::r,v,i,tv,hs,h=>by
  simp only[mb] at h;rw[aw] at h;by_cases e:j=i
  ·simp only[e,ava,Ob] at h
   subst h;subst e;exact hs.1.Gf
  ·simp only[e,aka] at h;exact y9 hs.2 h
 |(.l o j,sp)::r,v,i,tv,hs,h=>y9 (ps:=r) hs.2 h
 |(.q _ _,sp)::r,v,i,tv,hs,h=>y9 (ps:=r) hs.2 h
theorem E8{s:St}{al:AL}:∀{ps:lm} {v:PV ps} {o j:Nat} {lf:ai},tt s al ps v→et (I2 ps v) o j=some lf→∀ X G w u,aB X s G w→aU G (s.at (.q o j)) u→aY (G.uO al) lf u
 |[],v,o,j,lf,_,h=>by cases h
 |(.r _,sp)::r,v,o,j,lf,hs,h=>E8 (ps:=r) hs.2 h
 |(.l _ _,sp)::r,v,o,j,lf,hs,h=>E8 (ps:=r) hs.2 h
 |(.q o' j',sp)::r,v,o,j,lf,hs,h=>by
  simp only[I2,et] at h;cases hb:(Nat.beq o' o&&Nat.beq j' j) with
  |true=>simp only[hb,aja,Ob] at h;simp only[Q3] at hb;have e1:=Q4 hb.1;have e2:=Q4 hb.2;subst h;subst e1;subst e2;exact fun X G w u hm hu=>hs.1.Gf X G w u hm hu
  |false=>simp only[hb,aoa] at h;exact E8 hs.2 h
theorem Z3{X:mW}{st:St}{G:Gh}{w:World}{v:af}{ls:List ai}{u:Value}(hm:aB X st G w)(h:v.qls=some ls)(hu:aU G v u):∃ cs:List Value,u=.agg cs.toArray∧All2 (aY G) ls cs:=by
 unfold af.qls at h;cases hi:v.isAgg with
 |false=>rw[hi] at h;cases h
 |true=>rw[hi,aja] at h;have h1:=mU hm h hu;obtain⟨cs,e⟩:=Ec hi hu;subst e;exact⟨cs.toList,by simp,h1⟩
theorem Wu{s:St}{al:AL}{ps:lm}{v:PV ps}(hs:tt s al ps v){i:Nat}{X:mW}{G:Gh}{w:World}(hm:aB X s G w){sl:List ai}(hq:(s.uN i).qls=some sl):∀(n j:Nat) (l:List ai) (cs:List Value),l.length=n→(∀ k,sl[j+k]? = l[k]?)→All2 (aY G) l cs→All2 (aY (G.uO al)) (qsh (I2 ps v) i j n) cs
 |0,j,[],[],_,_,_=>trivial
 |n+1,j,a::l,c::cs,hl,hi,ha=>by
  refine⟨?_,Wu hs hm hq n (j+1) l cs (by simpa using hl) (fun k=>by have:=hi (k+1);rw[show j+(k+1)=j+1+k by omega] at this;simpa using this) ha.2⟩
  cases hc:et (I2 ps v) i j with
  |none=>trivial
  |some lf=>
   refine E8 hs hc X G w c hm ?_;have h0:sl[j]? = some a:=by simpa using hi 0
   simp only[St.at,hq,h0];exact ha.1
 |0,j,[],_::_,_,_,ha=>ha.elim
 |n+1,j,_::_,[],_,_,ha=>ha.elim
theorem Ym{s:St}{al:AL}{ps:lm}{v:PV ps}(hs:tt s al ps v)(hq:qOk ps s=true){i:Nat}{tv:af}(h:look (Sp ps v) i=some tv):∀ X G w u,aB X s G w→aU G (s.uN i) u→aU (G.uO al) tv u:=by
 intro X G w u hm hu;obtain⟨n,hin,rfl⟩:∃ n,(i,n)∈XO ps ps∧tv=.agg (qsh (I2 ps v) i 0 n):=by unfold Sp at h;have ii:=ep h;obtain⟨⟨k,n⟩,h1,h2⟩:=a0a.1 ii;simp only[aia] at h2;obtain⟨rfl,rfl⟩:=h2;exact⟨n,h1,rfl⟩
 have h2:=aqa.1 hq _ hin;split at h2
 ·rename_i ls Oj
  obtain⟨cs,e1,e2⟩:=Z3 hm Oj hu;exact⟨cs,e1,Wu hs hm Oj n 0 ls cs (Q4 h2) (fun k=>by rw[aWa]) e2⟩
 ·cases h2
theorem ux{s:St}{al:AL}:∀{ps:lm} {v:PV ps} {o j:Nat} {lf:ai},tt s al ps v→et (cj ps v) o j=some lf→∀ X G w u,aB X s G w→aU G (s.at (.l o j)) u→aY (G.uO al) lf u
 |[],v,o,j,lf,_,h=>by cases h
 |(.r _,sp)::r,v,o,j,lf,hs,h=>ux (ps:=r) hs.2 h
 |(.q _ _,sp)::r,v,o,j,lf,hs,h=>ux (ps:=r) hs.2 h
 |(.l o' j',sp)::r,v,o,j,lf,hs,h=>by
  simp only[cj,et] at h;cases hb:(Nat.beq o' o&&Nat.beq j' j) with
  |true=>simp only[hb,aja,Ob] at h;simp only[Q3] at hb;have e1:=Q4 hb.1;have e2:=Q4 hb.2;subst h;subst e1;subst e2;exact fun X G w u hm hu=>hs.1.Gf X G w u hm hu
  |false=>simp only[hb,aoa] at h;exact ux hs.2 h
theorem xT{cl vl:List (Nat×Nat×ai)}:∀{cp:List (Nat×Nat)} {o:Nat} {tl:List ai},look (cp.map fun p=>(p.1,pG cl vl p.1 0 p.2)) o=some tl→∃ len,(o,len)∈cp∧tl=pG cl vl o 0 len
 |[],o,tl,h=>by cases h
 |(q,len)::r,o,tl,h=>by
  simp only[aHa,aw] at h;by_cases e:q=o
  ·simp only[e,ava,Ob] at h
   subst h;subst e;exact⟨len,by simp,rfl⟩
  ·simp only[e,aka] at h
   obtain⟨len,h1,h2⟩:=xT h;exact⟨len,Q8 _ h1,h2⟩
theorem vP{α β:Type}{f:Nat×α→β}:∀{l:List (Nat×α)} {o:Nat},o∈l.map (·.1)→∃ b,look (l.map fun p=>(p.1,f p)) o=some b
 |[],o,h=>by cases h
 |p::r,o,h=>by
  simp only[aHa,aw];by_cases e:p.1=o
  ·simp[e]
  ·simp only[e,aka]
   rcases ala.1 h with h|h
   ·exact absurd h.symm e
   ·exact vP h
theorem Qo{s:St}{al:AL}{L:qv}{c:PV L.cs}{v:PV L.vs}(hc:tt s al L.cs c)(hv:tt s al L.vs v){o:Nat}{sl:List ai}(ho:s.dT o=some sl):∀(k j:Nat) (l:List ai),l.length=k→(∀ i,sl[j+i]? = l[i]?)→
  All2 (fun a b=>∀ X G w u,aB X s G w→aY G a u→aY (G.uO al) b u) (s.kg o j l) ((L.st c v).kg o j (pG (cj L.cs c) (cj L.vs v) o j k))
 |0,j,[],_,_=>trivial
 |k+1,j,a::l,hl,hi=>by
  refine⟨fun X G w u hm hu=>?_,Qo hc hv ho k (j+1) l (by simpa using hl) (fun i=>by have:=hi (i+1);rw[show j+(i+1)=j+1+i by omega] at this;simpa using this)⟩
  have vj:s.at (.l o j)=.one (s.res o j a):=by
   have h0:sl[j]? = some a:=by simpa using hi 0
   simp[St.at,ho,h0]
  have hu':aU G (s.at (.l o j)) u:=by rw[vj];exact hu
  cases mH:et (cj L.cs c) o j with
  |some lf=>simp only[mH,St.res];have:(L.st c v).cK=cj L.cs c:=rfl;rw[this,mH];exact ux hc mH X G w u hm hu'
  |none=>
   simp only[mH];cases hvl:et (cj L.vs v) o j with
   |none=>exact trivial
   |some lf=>
    simp only;have h1:=ux hv hvl X G w u hm hu';cases lf with
    |vb=>simp only[St.res];have:(L.st c v).cK=cj L.cs c:=rfl;rw[this,mH];trivial
    |_=>exact h1
theorem zb{cl vl:List (Nat×Nat×ai)}{o:Nat}:∀{k i j:Nat} {lf:ai},j<k→et cl o (i+j)=some lf→(pG cl vl o i k)[j]? = some .vb
 |k+1,i,0,lf,_,h=>by simp only[pG];rw[cya] at h;simp[h]
 |k+1,i,j+1,lf,hj,h=>by simp only[pG,bua];exact zb (by omega) (by rw[show i+1+j=i+(j+1) by omega];exact h)
theorem Tn{s:St}{al:AL}{L:qv}{c:PV L.cs}{v:PV L.vs}(hc:tt s al L.cs c)(hv:tt s al L.vs v)(hg:Me s al)(F4:Aj al=true)(ho:(L.cp.all fun p=>match s.dT p.1 with|some ls=>Nat.beq ls.length p.2|none=>false)=true)(hn:L.n=s.n)(hq:qOk L.vs s=true):Ko s (L.st c v) al:=by
 simp only[Aj,Q3] at F4;refine {n:=hn,vr:=rfl,arr:=fun nm A h=>?_,j0:=fun nm a A h=>?_,nil:=fun nm A h=>?_,inj:=fun nm nm' a A A' h h'=>?_,iz:=fun i tv h=>?_,dT:=fun o tl h=>?_}
 ·unfold St.arr at h
  split at h
  ·rename_i B hB;cases h;exact BX hv hB
  ·exact BX hc h
 ·exact hg nm (some a) A (ep h)
 ·exact hg nm none A (ep h)
 ·exact Jd (eN F4.2) (ep h) (ep h')
 ·unfold St.iz at h
  split at h
  ·rename_i B hB
   cases h;have hB:look (mb L.vs v++Sp L.vs v) i=some tv:=hB;rw[iE] at hB;cases hr:look (mb L.vs v) i with
   |some x=>rw[hr] at hB;cases hB;exact y9 hv hr
   |none=>rw[hr] at hB;exact Ym hv hq hB
  ·exact y9 hc h
 ·obtain⟨len,h1,rfl⟩:=xT h
  have h2:=aqa.1 ho _ h1;split at h2
  ·rename_i sl L0
   exact⟨sl,L0,Qo hc hv L0 len 0 sl (Q4 h2) (fun i=>by rw[aWa])⟩
  ·cases h2
theorem RA{s:St}{al:AL}{L:qv}{c:PV L.cs}{v:PV L.vs}(hc:tt s al L.cs c)(hv:tt s al L.vs v)(hg:Me s al)(F4:Aj al=true)(ho:Es L.cp s=true)(hn:L.n=s.n)(hbl:∀ o j lf,et s.cK o j=some lf→∃ lf',et (cj L.cs c) o j=some lf')(hq:qOk L.vs s=true)(Ok:L.pin=s.pin)(Ji:Gc L.pin al=true)
  (tJ:∀ nm j0 A,(nm,j0,A)∈al→∃ B,(L.st c v).arr nm=some B):acR s (L.st c v) al:=by
 simp only[Es,Q3] at ho
 refine {toKo:=Tn hc hv hg F4 ho.1 hn hq,pn:=Ok,pa:=fun a ha=>(by
  rw[←Ok] at ha;have h1:=aqa.1 Ji a (gV.1 ha);split at h1
  ·rename_i b A hl
   obtain rfl:=Q4 h1;exact⟨⟨A,hl⟩,tJ _ _ _ (ep hl)⟩
  ·cases h1),pin:=fun o sl bf h=>?_,vb:=fun o j lf sl bf hl h hj=>?_}
 ·have h2:=aqa.1 ho.2 _ (ep h)
  simp only[a6a] at h2;rcases h2 with h2|h2
  ·have:=aZa h2;omega
  ·exact vP (f:=fun p=>pG (cj L.cs c) (cj L.vs v) p.1 0 p.2) (gV.1 h2)
 ·have h2:=aqa.1 ho.2 _ (ep h)
  simp only[a6a] at h2;obtain⟨lf',hlf⟩:=hbl o j lf hl;refine⟨⟨lf',hlf⟩,?_⟩;rcases h2 with h2|h2
  ·have:=aZa h2;omega
  ·obtain⟨tl,htl⟩:=vP (f:=fun p=>pG (cj L.cs c) (cj L.vs v) p.1 0 p.2) (gV.1 h2)
   refine⟨tl,htl,?_⟩;obtain⟨len,h1,rfl⟩:=xT htl;have h3:=aqa.1 ho.1 _ h1;simp only[h] at h3;have h3:sl.length=len:=Q4 h3;have hjl:j<sl.length:=(ama.1 hj).1;exact zb (by omega) (by rw[aWa];exact hlf)
end Go.Fx
namespace Go.Fx
theorem od{X:mW}{w:World}:∀{ps:lm} {st st':St} {G:Gh},iT ps st=some st'→aB X st G w→∃ G',aB X st' G' w∧G.Mn G'∧rQ st st'
 |[],st,st',G,h,hm=>by simp only[iT,Ob] at h;subst h;exact⟨G,hm,.refl G,.refl _⟩
 |(p,sp)::r,st,st',G,h,hm=>by
  cases sp with
  |d t=>
   simp only[iT] at h;split at h
   ·rename_i s1 h1
    obtain⟨G1,m1,a1,k1⟩:=Fc h1 hm;obtain⟨G2,m2,a2,k2⟩:=od h m1;exact⟨G2,m2,a1.trans a2,k1.trans k2⟩
   ·cases h
  |_=>exact od (ps:=r) h hm
theorem oz:∀{ps:lm} {st st':St},iT ps st=some st'→ky st st'
 |[],st,st',h=>by simp only[iT,Ob] at h;subst h;exact .refl _
 |(p,sp)::r,st,st',h=>by
  cases sp with
  |d t=>
   simp only[iT] at h;split at h
   ·rename_i s1 h1;exact(KL h1).trans (oz h)
   ·cases h
  |_=>exact oz (ps:=r) h
theorem Bo{G G':Gh}{st st':St}(k:rQ st st')(h:G.Mn G'){act:Act}(r:bQ G st act):bQ G' st' act:=r.sub h k.n k.iz
theorem Re:∀{l m:List Nat},Xc l m=true→l=m
 |[],[],_=>rfl
 |x::r,y::s,h=>by simp only[Xc,Q3] at h;rw[Q4 h.1,Re h.2]
 |[],_::_,h=>by cases h
 |_::_,[],h=>by cases h
theorem YG{L:qv}{st s:St}{c:PV L.cs}{v:PV L.vs}(h:ent L st=some (c,v,s))(hbl:∀ o j lf,et s.cK o j=some lf→∃ lf',et (cj L.cs c) o j=some lf'){X:mW}{G:Gh}{w:World}{act:Act}(hm:aB X st G w)(hr:bQ G st act):
  ∃ G',aB X (L.st c v) G' w∧bQ G' (L.st c v) act:=by
 unfold ent at h;split at h
 ·cases h
 ·rename_i s1 h1
  split at h
  ·cases h
  ·rename_i s2 h2
   split at h
   ·cases h
   ·rename_i c' a hc
    split at h
    ·cases h
    ·rename_i v' b hv
     cases hk:(Nat.beq L.n s2.n&&Aj (a++b)&&Es L.cp s2&&qOk L.vs s2&&(Xc L.pin s2.pin&&Gc L.pin (a++b))) with
     |false=>simp[hk] at h
     |true=>
      simp only[hk,aja,Ob,aia] at h;obtain⟨rfl,rfl,rfl⟩:=h;simp only[Q3] at hk;obtain⟨⟨⟨⟨k1,k2⟩,k3⟩,k4⟩,k5,k6⟩:=hk;obtain⟨G1,m1,a1,q1⟩:=od h1 hm;obtain⟨G2,m2,a2,q2⟩:=od h2 m1;have hn:((a++b).map (·.1)).Nodup:=by have:=k2;simp only[Aj,Q3] at this;exact eN this.1
      have N:=RA (L:=L) (vC hn hc (fun e he=>aya _ he)) (vC hn hv (fun e he=>ara _ he))
       (fun nm j0 A ii=>by
        rcases ana.1 ii with ii|ii
        ·exact pF hc nm j0 A ii
        ·exact pF hv nm j0 A ii) k2 k3 (Q4 k1) hbl k4 (Re k5) k6
       (fun nm j0 A ii=>RZ ((ana.1 ii).imp (xV hc nm j0 A) (xV hv nm j0 A)))
      exact⟨_,N.ok m2,N.eH m2 (Bo q2 a2 (Bo q1 a1 hr))⟩
def lk(full:(ps:lm)×PV ps):(ps:lm)→PV ps→Prop
 |[],_=>True
 |(.r i,sp)::r,v=>look (mb full.1 full.2) i=some (.one (sp.bR (Pl.r i).key v.1))∧(∀ A,sp.arr v.1=some A→look (eR full.1 full.2) (Pl.r i).key=some A)∧lk full r v.2
 |(.l o j,sp)::r,v=>et (cj full.1 full.2) o j=some (sp.bR (Pl.l o j).key v.1)∧(∀ A,sp.arr v.1=some A→look (eR full.1 full.2) (Pl.l o j).key=some A)∧lk full r v.2
 |(.q i j,sp)::r,v=>True∧(∀ A,sp.arr v.1=some A→look (eR full.1 full.2) (Pl.q i j).key=some A)∧lk full r v.2
def Pm(p:Pl×mT)(x:p.2.V)(f:(ps:lm)×PV ps):(ps:lm)×PV ps:=⟨p::f.1,(x,f.2)⟩
theorem lk.cons{p:Pl×mT}{x:p.2.V}{full:(ps:lm)×PV ps}:∀{ps:lm} {v:PV ps},lk full ps v→p.1.key∉ps.map (fun p=>p.1.key)→lk (Pm p x full) ps v
 |[],v,_,_=>trivial
 |(.r i,sp)::r,v,h,hn=>by
  obtain⟨h1,h2,h3⟩:=h;simp only[aHa,ala,cia] at hn;refine⟨?_,fun A hA=>?_,lk.cons h3 hn.2⟩
  ·obtain⟨q,sq⟩:=p
   cases q with
   |r j=>
    have:j≠i:=fun e=>hn.1 (by rw[e])
    simp only[Pm,mb,aw,aBa this];exact h1
   |l o j=>exact h1
   |q _ _=>exact h1
  ·have:=h2 A hA
   simp only[Pm,eR];split
   ·rw[aw,aBa hn.1];exact this
   ·exact this
 |(.l o j,sp)::r,v,h,hn=>by
  obtain⟨h1,h2,h3⟩:=h;simp only[aHa,ala,cia] at hn;refine⟨?_,fun A hA=>?_,lk.cons h3 hn.2⟩
  ·obtain⟨q,sq⟩:=p
   cases q with
   |r i=>exact h1
   |q _ _=>exact h1
   |l o' j'=>
    have:(Nat.beq o' o&&Nat.beq j' j)=false:=by
     cases hb:(Nat.beq o' o&&Nat.beq j' j) with
     |false=>rfl
     |true=>simp only[Q3] at hb;exact absurd (by rw[Q4 hb.1,Q4 hb.2]) hn.1
    simp only[Pm,cj,et,this,aoa];exact h1
  ·have:=h2 A hA
   simp only[Pm,eR];split
   ·rw[aw,aBa hn.1];exact this
   ·exact this
 |(.q i j,sp)::r,v,h,hn=>by
  obtain⟨h1,h2,h3⟩:=h;simp only[aHa,ala,cia] at hn;refine⟨trivial,fun A hA=>?_,lk.cons h3 hn.2⟩;have:=h2 A hA;simp only[Pm,eR];split
  ·rw[aw,aBa hn.1];exact this
  ·exact this
theorem A9:∀{ps:lm} {v:PV ps},(ps.map fun p=>p.1.key).Nodup→lk ⟨ps,v⟩ ps v
 |[],v,_=>trivial
 |p::r,v,hn=>by
  rw[aHa,a3a] at hn;have ih:=lk.cons (p:=p) (x:=v.1) (A9 (v:=v.2) hn.2) hn.1;obtain⟨q,sq⟩:=p;cases q with
  |r i=>
   refine⟨by simp[mb,aw],fun A hA=>?_,ih⟩
   simp only at hA;simp[eR,hA,aw]
  |l o j=>
   refine⟨by simp[cj,et],fun A hA=>?_,ih⟩
   simp only at hA;simp[eR,hA,aw]
  |q i j=>refine⟨trivial,fun A hA=>?_,ih⟩;simp only at hA;simp[eR,hA,aw]
def ub(L:qv)(c:PV L.cs)(s:St):Prop:=L.n=s.n∧s.jw=mb L.cs c∧s.cK=cj L.cs c∧(s.gc,s.pin)=(eR L.cs c,L.pin)
theorem Ta{s:St}{al:AL}{p:Pl}{sp:mT}{x:sp.V}(vj:s.at p=.one (sp.bR p.key x))(hl:∀ l,sp=.lit l→wv l l=true)(ha:∀ A,sp.arr x=some A→look al p.key=some (some p.key,A)):Src s al p sp x:=by
 refine⟨fun X G w u hm hu=>?_,fun A hA=>⟨_,ha A hA⟩⟩;rw[vj] at hu;cases sp with
 |any=>trivial
 |d t=>exact hu
 |lit l=>exact V9 (hl l rfl) hu
 |h m t=>have:=ha _ rfl;show u=(G.uO al).ψ p.key;simp only[Gh.uO,this];exact hu
theorem II{s:St}{al:AL}{full:(ps:lm)×PV ps}(h1:s.jw=mb full.1 full.2)(h2:s.cK=cj full.1 full.2)(hn:(al.map (·.1)).Nodup):
  ∀{ps:lm} {v:PV ps},lk full ps v→(ps.all fun p=>IG s p.1 p.2)=true→(∀ e∈gm ps v,e∈al)→tt s al ps v
 |[],v,_,_,_=>trivial
 |(.r i,sp)::r,v,hf,hk,hs=>by
  obtain⟨f1,f2,f3⟩:=hf;simp only[bqa,Q3] at hk;obtain⟨k12,k3⟩:=hk;simp only[IG,Q3] at k12;obtain⟨k1,k2⟩:=k12;have hlr:look s.eH i=none:=by simpa using k1
  refine⟨Ta (by simp[St.at,St.uN,St.iz,hlr,h1,f1]) (fun l e=>by subst e;exact k2) (fun A hA=>?_),II h1 h2 hn f3 (by simpa using k3) (fun e he=>hs e ?_)⟩
  ·exact lA hn (hs _ (by simp[gm,hA]))
  ·simp only[gm];split<;>simp[he]
 |(.l o j,sp)::r,v,hf,hk,hs=>by
  obtain⟨f1,f2,f3⟩:=hf;simp only[bqa,Q3] at hk;obtain⟨k12,k3⟩:=hk;simp only[IG,Q3] at k12;obtain⟨k1,k2⟩:=k12;refine⟨Ta ?_ (fun l e=>by subst e;exact k2) (fun A hA=>?_),II h1 h2 hn f3 (by simpa using k3) (fun e he=>hs e ?_)⟩
  ·split at k1
   ·rename_i ls ho
    split at k1
    ·rename_i hj
     simp[St.at,ho,hj,St.res,h2,f1]
    ·cases k1
   ·cases k1
  ·exact lA hn (hs _ (by simp[gm,hA]))
  ·simp only[gm];split<;>simp[he]
 |(.q i j,sp)::r,v,hf,hk,hs=>by simp only[bqa,Q3,IG] at hk;cases hk.1
theorem A0{sp:mT}{x:sp.V}{A:jV}(h:sp.arr x=some A):A.sh=false∧∃ m t,sp=.h m t:=by cases sp<;>simp[mT.arr] at h;subst h;exact⟨rfl,_,_,rfl⟩
theorem Bm{s:St}{full:(ps:lm)×PV ps}(h3:s.gc=eR full.1 full.2):
  ∀{ps:lm} {v:PV ps},lk full ps v→(ps.all fun p=>IG s p.1 p.2)=true→Me s (gm ps v)
 |[],v,_,_=>by intro _ _ _ h;cases h
 |(p,sp)::r,v,hf,hk=>by
  simp only[bqa,Q3] at hk;obtain⟨k1,k3⟩:=hk;have f2:∀ A,sp.arr v.1=some A→look (eR full.1 full.2) p.key=some A:=by cases p<;>exact hf.2.1
  have f3:lk full r v.2:=by cases p<;>exact hf.2.2
  intro nm j0 A hm;simp only[gm] at hm;split at hm
  ·rename_i B hB
   rcases ala.1 hm with hm|hm
   ·simp only[aia] at hm
    obtain⟨rfl,rfl,rfl⟩:=hm;obtain⟨e1,m,t,e2⟩:=A0 hB;refine⟨e1,?_⟩;have wK:look s.cT p.key=none:=by subst e2;cases p<;>first|(simp only[IG,Q3] at k1;simpa using k1.2)|(simp only[IG] at k1;cases k1)
    simp[St.arr,wK,h3,f2 _ hB]
   ·exact Bm h3 f3 (by simpa using k3) nm j0 A hm
  ·exact Bm h3 f3 (by simpa using k3) nm j0 A hm
theorem ub.iZ{L:qv}{c:PV L.cs}{s s':St}(h:ub L c s)(b:ky s s'):ub L c s':=⟨h.1.trans b.1.symm,b.2.1.trans h.2.1,b.2.2.1.trans h.2.2.1,b.2.2.2.trans h.2.2.2⟩
theorem Ce:∀{cs:lm} {c:PV cs} (nm:Nat) (j0:Option Nat) (A:jV),(nm,j0,A)∈gm cs c→∃ B,look (eR cs c) nm=some B
 |[],_,nm,j0,A,h=>by cases h
 |(p,s)::r,c,nm,j0,A,h=>by
  simp only[gm] at h;simp only[eR];split
  ·rename_i B hB
   rw[hB] at h;rw[aw];by_cases e:p.key=nm
   ·exact⟨B,by rw[a8a e]⟩
   ·rw[aBa e]
    rcases ala.1 h with h|h
    ·cases h;exact absurd rfl e
    ·exact Ce nm j0 A h
  ·rename_i hB
   rw[hB] at h;exact Ce nm j0 A h
theorem Vd{L:qv}{c:PV L.cs}{s:St}{v:PV L.vs}(hb:ub L c s)(h:rnd L (gm L.cs c) s=some v){X:mW}{G:Gh}{w:World}{act:Act}(hm:aB X s G w)(hr:bQ G s act):
  ∃ G',aB X (L.st c v) G' w∧bQ G' (L.st c v) act:=by
 unfold rnd at h;split at h
 ·cases h
 ·rename_i s1 h1
  split at h
  ·cases h
  ·rename_i v' b hv
   cases hk:(vN s1 L.cs&&Aj (gm L.cs c++b)&&Es L.cp s1&&qOk L.vs s1&&Gc L.pin (gm L.cs c++b)) with
   |false=>simp[hk] at h
   |true=>
    simp only[hk,aja,Ob] at h;subst h;simp only[Q3,vN] at hk;obtain⟨⟨⟨⟨⟨k0,k1⟩,k2⟩,k3⟩,k4⟩,k6⟩:=hk;have Dv:=hb.iZ (oz h1);obtain⟨G1,m1,a1,q1⟩:=od h1 hm;have hn:((gm L.cs c++b).map (·.1)).Nodup:=by have:=k2;simp only[Aj,Q3] at this;exact eN this.1
    have hf:=A9 (v:=c) (eN k0);have N:=RA (L:=L) (II (full:=⟨L.cs,c⟩) Dv.2.1 Dv.2.2.1 hn hf k1 (fun e he=>aya _ he)) (vC hn hv (fun e he=>ara _ he))
     (fun nm j0 A ii=>by
      rcases ana.1 ii with ii|ii
      ·exact Bm (full:=⟨L.cs,c⟩) (bla Dv.2.2.2).1 hf k1 nm j0 A ii
      ·exact pF hv nm j0 A ii) k2 k3 Dv.1 (fun o j lf hl=>⟨lf,by rw[←Dv.2.2.1];exact hl⟩) k4 (bla Dv.2.2.2).2.symm k6
     (fun nm j0 A ii=>RZ ((ana.1 ii).imp (Ce nm j0 A) (xV hv nm j0 A)))
    exact⟨_,N.ok m1,N.eH m1 (Bo q1 a1 hr)⟩
end Go.Fx
namespace Go.Fx
def qM(st:St)(k:Nat):mT→af→Bool
 |.d _,.one (.fy _ _)=>true
 |.h _ _,.one (.mX a)=>Nat.beq a k&&(look st.cT k).isNone
 |.lit l,.one l'=>wv l l'
 |.any,.one .any=>true
 |_,_=>false
def Pd(st:St):Pl→mT→Bool
 |.r i,s=>(match look st.jw i with|none=>true|some tv=>(look st.eH i).isNone&&qM st (Pl.r i).key s tv)
 |.q _ _,_=>true
 |.l o j,s=>(match et st.cK o j with|none=>true|some lf=>(match st.dT o with|some ls=>(match ls[j]? with|some .vb=>true|_=>false)|none=>false)&&qM st (Pl.l o j).key s (.one lf))
def YT(i:Nat):lm→Bool
 |[]=>false
 |(.r j,_)::r=>Nat.beq j i||YT i r
 |_::r=>YT i r
def zr(o j:Nat):lm→Bool
 |[]=>false
 |(.l o' j',_)::r=>(Nat.beq o' o&&Nat.beq j' j)||zr o j r
 |_::r=>zr o j r
def YS(st:St)(nm:Nat):lm→Bool
 |[]=>false
 |(p,.h _ _)::r=>(Nat.beq p.key nm&&(match p with | .r i=>(look st.jw i).isSome | .l o j=>(et st.cK o j).isSome | .q _ _=>false))||YS st nm r
 |_::r=>YS st nm r
def Mr(cs:lm)(st:St):Bool:=
 ou (cs.map fun p=>p.1.key)&&cs.all (fun p=>Pd st p.1 p.2)&&st.jw.all (fun p=>YT p.1 cs)&&st.cK.all (fun p=>zr p.1 p.2.1 cs)&&st.gc.all (fun p=>YS st p.1 cs)
def Il(cl bl:List (Nat×Nat×ai))(o:Nat):Nat→List ai→List ai
 |_,[]=>[]
 |j,l::r=>(match l with | .vb=>(match et bl o j with|some _=>.vb|none=>match et cl o j with|some l=>l|none=>.any)|l=>l)::Il cl bl o (j+1) r
def aft(L:qv)(c:PV L.cs)(v:PV L.vs)(st:St):St:=
 ⟨L.n,mb L.vs v++(Sp L.vs v++(mb L.cs c).filter (fun p=>(look st.jw p.1).isNone)),(L.st c v).cp.map (fun p=>(p.1,Il (cj L.cs c) st.cK p.1 0 p.2)),
  eR L.vs v++(eR L.cs c).filter (fun p=>(look st.gc p.1).isNone),st.jw,st.cK,st.gc,st.pin,[]⟩
theorem zX{α:Type}(f:Nat→Bool):∀(l:List (Nat×α)) (k:Nat),look (l.filter fun p=>f p.1) k=if f k=true then look l k else none
 |[],k=>by simp[look]
 |(k',v)::r,k=>by
  have ih:=zX f r k;by_cases hf:f k' = true
  ·simp only[cua,hf,ava,aw]
   by_cases e:k' = k
   ·subst e;simp[hf]
   ·simp only[e,aka];exact ih
  ·simp only[cua,hf,aw]
   by_cases e:k' = k
   ·subst e;simp only[asa,aka];rw[ih];simp[hf]
   ·simp only[e,aka,asa];exact ih
structure Sc(st:St)(L:qv)(c:PV L.cs):Prop where
 iz:∀ i tv,look st.jw i=some tv→look (mb L.cs c) i=some tv
 bR:∀ o j lf,et st.cK o j=some lf→et (cj L.cs c) o j=some lf
 arr:∀ nm A,look st.gc nm=some A→look (eR L.cs c) nm=some A
theorem P6{s:St}{p:Pl}{sp:mT}{x:sp.V}{a:AL}{tv:af}(h:zZ s p sp=some (x,a))(vj:s.at p=tv)(hk:qM s p.key sp tv=true):tv=.one (sp.bR p.key x):=by
 cases sp with
 |any=>
  cases tv with
  |one l=>cases l with
   |any=>rfl
   |_=>simp[qM] at hk
  |_=>simp[qM] at hk
 |d t=>
  cases tv with
  |one l=>
   cases l with
   |fy t' y=>
    simp only[zZ,vj,af.vJ,ai.vJ] at h;cases hc:wc t' t y with
    |none=>simp[hc] at h
    |some z=>simp only[hc,Ob,aia] at h;obtain⟨rfl,_⟩:=h;obtain⟨rfl,rfl⟩:=lX hc;rfl
   |_=>simp[qM] at hk
  |_=>simp[qM] at hk
 |lit l=>
  cases tv with
  |one l'=>simp only[qM] at hk;rw[Nq hk];rfl
  |_=>simp[qM] at hk
 |h m t=>
  cases tv with
  |one l=>
   cases l with
   |mX b=>simp only[qM,Q3] at hk;rw[Q4 hk.1];rfl
   |_=>simp[qM] at hk
  |_=>simp[qM] at hk
theorem U1{s:St}{p:Pl}{m:Md}{t:Ty}{x:(mT.h m t).V}{a:AL}{tv:af}(h:zZ s p (.h m t)=some (x,a))(vj:s.at p=tv)(hk:qM s p.key (.h m t) tv=true){A:jV}(hA:look s.gc p.key=some A):A=⟨t,m,false,x⟩:=by
 cases tv with
 |one l=>
  cases l with
  |mX b=>
   simp only[qM,Q3] at hk;have e:=Q4 hk.1;subst e;have wK:look s.cT p.key=none:=by simpa using hk.2
   simp only[zZ,vj,St.arr,wK,hA] at h;cases hs:(A.sh||!m.lK A.md) with
   |true=>simp[hs] at h
   |false=>
    simp only[hs,aoa] at h;simp only[aGa,bpa] at hs;have vm:=Md.xy hs.2;split at h
    ·rename_i y hy
     simp only[Ob,aia] at h;obtain⟨rfl,_⟩:=h;obtain⟨ec,el⟩:=lX hy;obtain⟨t',dp,sh,ll⟩:=A;simp only[Ty.slice.injEq] at ec;subst ec;simp only at el hs vm;obtain⟨rfl,_⟩:=hs;subst el vm;rfl
    ·cases h
  |_=>simp[qM] at hk
 |_=>simp[qM] at hk
theorem VG{s:St}{full:(ps:lm)×PV ps}:∀{ps:lm} {v:PV ps} {a:AL},lC s ps=some (v,a)→lk full ps v→(ps.all fun p=>Pd s p.1 p.2)=true→
  (∀ i tv,YT i ps=true→look s.jw i=some tv→look (mb full.1 full.2) i=some tv)∧
  (∀ o j lf,zr o j ps=true→et s.cK o j=some lf→et (cj full.1 full.2) o j=some lf)∧
  (∀ nm A,YS s nm ps=true→look s.gc nm=some A→look (eR full.1 full.2) nm=some A)
 |[],v,a,_,_,_=>⟨(fun _ _ h _=>(by cases h)),(fun _ _ _ h _=>(by cases h)),(fun _ _ h _=>(by cases h))⟩
 |(p,sp)::r,v,a,h,hf,hb=>by
  simp only[lC] at h;split at h
  ·rename_i x a1 h1
   split at h
   ·rename_i xs b h2
    simp only[Ob,aia] at h;obtain⟨rfl,rfl⟩:=h;simp only[bqa,Q3] at hb;obtain⟨b1,b2⟩:=hb;have f3:lk full r xs:=by cases p<;>exact hf.2.2
    have f2:∀ A,sp.arr x=some A→look (eR full.1 full.2) p.key=some A:=by cases p<;>exact hf.2.1
    obtain⟨g1,g2,g3⟩:=VG h2 f3 b2;refine⟨fun i tv hh hl=>?_,fun o j lf hh hl=>?_,fun nm A hh hl=>?_⟩
    ·cases p with
     |l o j=>exact g1 i tv hh hl
     |q _ _=>exact g1 i tv hh hl
     |r k=>
      simp only[YT,a6a] at hh;rcases hh with hh|hh
      ·obtain rfl:=Q4 hh
       simp only[Pd,hl,Q3] at b1;have wK:look s.eH k=none:=by simpa using b1.1
       have:=P6 h1 (tv:=tv) (by simp[St.at,St.uN,St.iz,wK,hl]) b1.2
       rw[this];exact hf.1
      ·exact g1 i tv hh hl
    ·cases p with
     |r k=>exact g2 o j lf hh hl
     |q _ _=>exact g2 o j lf hh hl
     |l o' j'=>
      simp only[zr,a6a] at hh;rcases hh with hh|hh
      ·simp only[Q3] at hh
       obtain rfl:=Q4 hh.1;obtain rfl:=Q4 hh.2;simp only[Pd,hl,Q3] at b1;obtain⟨b3,b4⟩:=b1;have vj:s.at (.l o' j')=.one lf:=by
        split at b3
        ·rename_i ls ho
         split at b3
         ·rename_i hj;simp[St.at,ho,hj,St.res,hl]
         ·cases b3
        ·cases b3
       have:=P6 h1 (tv:=.one lf) vj b4;simp only[af.one.injEq] at this;rw[this];exact hf.1
      ·exact g2 o j lf hh hl
    ·cases sp with
     |h m t=>
      simp only[YS,a6a,Q3] at hh;rcases hh with ⟨hk,hh⟩|hh
      ·obtain rfl:=Q4 hk
       rw[f2 _ rfl];have key:∀ tv,s.at p=tv→qM s p.key (.h m t) tv=true→some (⟨t,m,false,x⟩:jV)=some A:=fun tv vj hk=>by rw[U1 h1 vj hk hl]
       cases p with
       |q _ _=>cases hh
       |r k=>
        obtain⟨tv,htv⟩:=cla.1 hh;simp only[Pd,htv,Q3] at b1;have wK:look s.eH k=none:=by simpa using b1.1
        exact key tv (by simp[St.at,St.uN,St.iz,wK,htv]) b1.2
       |l o j=>
        obtain⟨lf,hlf⟩:=cla.1 hh;simp only[Pd,hlf,Q3] at b1;obtain⟨b3,b4⟩:=b1;refine key (.one lf) ?_ b4;split at b3
        ·rename_i ls ho
         split at b3
         ·rename_i hj;simp[St.at,ho,hj,St.res,hlf]
         ·cases b3
        ·cases b3
      ·exact g3 nm A hh hl
     |_=>exact g3 nm A hh hl
   ·cases h
  ·cases h
theorem VH{s:St}{L:qv}{c:PV L.cs}{a:AL}(h:lC s L.cs=some (c,a))(hb:Mr L.cs s=true):Sc s L c:=by simp only[Mr,Q3] at hb;obtain⟨⟨⟨⟨h1,h2⟩,h3⟩,h4⟩,h5⟩:=hb;obtain⟨g1,g2,g3⟩:=VG (full:=⟨L.cs,c⟩) h (A9 (eN h1)) h2;exact⟨fun i tv hl=>g1 i tv (aqa.1 h3 _ (ep hl)) hl,fun o j lf hl=>g2 o j lf (aqa.1 h4 _ (J4 hl)) hl,fun nm A hl=>g3 nm A (aqa.1 h5 _ (ep hl)) hl⟩
theorem Sc.iZ{s st:St}{L:qv}{c:PV L.cs}(h:Sc s L c)(b:ky st s):Sc st L c:=
 ⟨fun i tv hl=>h.iz i tv (by rw[b.2.1];exact hl),fun o j lf hl=>h.bR o j lf (by rw[b.2.2.1];exact hl),fun nm A hl=>h.arr nm A (by rw[(bla b.2.2.2).1];exact hl)⟩
theorem Px{L:qv}{c:PV L.cs}{v:PV L.vs}{st:St}(hs:Sc st L c){o:Nat}:∀(ls:List ai) (j:Nat),
  All2 (fun a b=>∀ G u,aY G a u→aY G b u) ((L.st c v).kg o j ls) ((aft L c v st).kg o j (Il (cj L.cs c) st.cK o j ls))
 |[],j=>trivial
 |l::r,j=>by
  refine⟨fun G u hu=>?_,Px hs r (j+1)⟩;have Dv:(L.st c v).cK=cj L.cs c:=rfl;have PF:(aft L c v st).cK=st.cK:=rfl;have nb:∀ l':ai,(match l' with | .vb=>False|_=>True)→(aft L c v st).res o j l' = l':=fun l' h=>by cases l'<;>first|exact h.elim|rfl
  cases l with
  |vb=>
   simp only[St.res,Dv] at hu;simp only;cases hl:et st.cK o j with
   |some lf=>simp only[St.res,PF,hl];rw[hs.bR o j lf hl] at hu;exact hu
   |none=>
    simp only;cases hc:et (cj L.cs c) o j with
    |none=>trivial
    |some lf=>
     rw[hc] at hu;simp only;cases lf with
     |vb=>simp only[St.res,PF,hl];trivial
     |_=>exact hu
  |_=>exact hu
theorem IL{f:Nat→List ai→List ai}:∀{l:List (Nat×List ai)} {o:Nat} {tl:List ai},look (l.map fun p=>(p.1,f p.1 p.2)) o=some tl→∃ sl,look l o=some sl∧tl=f o sl
 |[],o,tl,h=>by cases h
 |(q,ls)::r,o,tl,h=>by
  simp only[aHa,aw] at h;rw[aw];by_cases e:q=o
  ·simp only[e,ava,Ob] at h ⊢
   subst h;exact⟨ls,rfl,rfl⟩
  ·simp only[e,aka] at h ⊢
   exact IL h
theorem Av{f:Nat→List ai→List ai}:∀{l:List (Nat×List ai)} {o:Nat} {sl:List ai},look l o=some sl→look (l.map fun p=>(p.1,f p.1 p.2)) o=some (f o sl)
 |(q,ls)::r,o,sl,h=>by
  rw[aw] at h;simp only[aHa,aw];by_cases e:q=o
  ·simp only[e,ava,Ob] at h ⊢;rw[h]
  ·simp only[e,aka] at h ⊢
   exact Av h
theorem Pw{cl bl:List (Nat×Nat×ai)}{o:Nat}:∀{ls:List ai} {i j:Nat} {lf:ai},et bl o (i+j)=some lf→ls[j]? = some .vb→(Il cl bl o i ls)[j]? = some .vb
 |[],i,j,lf,_,h=>by simp at h
 |l::r,i,0,lf,hl,h=>by simp only[bda,Ob] at h;subst h;rw[cya] at hl;simp[Il,hl]
 |l::r,i,j+1,lf,hl,h=>by simp only[Il,bua] at h ⊢;exact Pw (by rw[show i+1+j=i+(j+1) by omega];exact hl) h
theorem H5{L:qv}{c:PV L.cs}{v:PV L.vs}{st:St}(hs:Sc st L c)(Ok:L.pin=st.pin):Yl (L.st c v) (aft L c v st):=by
 refine {pn:=Ok.symm,vr:=rfl,ap:=fun nm A _ h=>?_,n:=rfl,arr:=fun nm A h=>?_,iz:=fun i tv h G u hu=>?_,dT:=fun o tl h=>?_,pin:=fun o sl _ h=>⟨_,Av (f:=fun o ls=>Il (cj L.cs c) st.cK o 0 ls) h⟩,vb:=fun o j lf sl hl h hj=>⟨_,Av (f:=fun o ls=>Il (cj L.cs c) st.cK o 0 ls) h,Pw (by rw[aWa];exact hl) hj⟩}
 ·have e1:(aft L c v st).arr nm=(match look (eR L.vs v++(eR L.cs c).filter fun p=>(look st.gc p.1).isNone) nm with|some v=>some v|none=>look st.gc nm):=rfl
  have e2:(L.st c v).arr nm=(match look (eR L.vs v) nm with|some v=>some v|none=>look (eR L.cs c) nm):=rfl
  rw[e1,iE];rw[e2] at h;cases h1:look (eR L.vs v) nm with
  |some B=>exact⟨B,rfl⟩
  |none=>
   simp only[h1] at h ⊢;rw[zX (fun k=>(look st.gc k).isNone)];cases h2:look st.gc nm with
   |none=>simp only[cHa,ava,h];exact⟨A,rfl⟩
   |some B=>simp only[cIa,asa,aka];exact⟨B,rfl⟩
 ·have e1:(aft L c v st).arr nm=(match look (eR L.vs v++(eR L.cs c).filter fun p=>(look st.gc p.1).isNone) nm with|some v=>some v|none=>look st.gc nm):=rfl
  have e2:(L.st c v).arr nm=(match look (eR L.vs v) nm with|some v=>some v|none=>look (eR L.cs c) nm):=rfl
  rw[e1,iE] at h;rw[e2];cases h1:look (eR L.vs v) nm with
  |some B=>simp only[h1] at h ⊢;exact h
  |none=>
   simp only[h1] at h ⊢;rw[zX (fun k=>(look st.gc k).isNone)] at h;cases h2:look st.gc nm with
   |none=>
    simp only[h2,cHa,ava] at h;cases h3:look (eR L.cs c) nm with
    |none=>simp[h3] at h
    |some B=>simpa[h3] using h
   |some B=>rw[h2] at h;simp only[cIa,asa,aka] at h;rw[hs.arr nm B h2];exact h
 ·have e1:(aft L c v st).iz i=(match look (mb L.vs v++(Sp L.vs v++(mb L.cs c).filter fun p=>(look st.jw p.1).isNone)) i with|some v=>some v|none=>look st.jw i):=rfl
  have e2:(L.st c v).iz i=(match look (mb L.vs v++Sp L.vs v) i with|some v=>some v|none=>look (mb L.cs c) i):=rfl
  have:(L.st c v).iz i=some tv:=by
   rw[e1,iE] at h;rw[e2,iE];cases h1:look (mb L.vs v) i with
   |some B=>simp only[h1] at h ⊢;exact h
   |none=>
    simp only[h1] at h ⊢;rw[iE] at h;cases h0:look (Sp L.vs v) i with
    |some B=>simp only[h0] at h ⊢;exact h
    |none=>
    simp only[h0] at h ⊢;rw[zX (fun k=>(look st.jw k).isNone)] at h;cases h2:look st.jw i with
    |none=>
     simp only[h2,cHa,ava] at h;cases h3:look (mb L.cs c) i with
     |none=>simp[h3] at h
     |some B=>simpa[h3] using h
    |some B=>rw[h2] at h;simp only[cIa,asa,aka] at h;rw[hs.iz i B h2];exact h
  simpa[St.uN,this] using hu
 ·obtain⟨sl,h1,rfl⟩:=IL (f:=fun o ls=>Il (cj L.cs c) st.cK o 0 ls) h
  exact⟨sl,h1,Px hs sl 0⟩
end Go.Fx
namespace Go.Fx
def wG:List ai→Bool
 |[]=>true
 |.fy _ _::r=>wG r
 |_=>false
abbrev Dk(W:Type):Type 1:={R:Type}→W→((e:Exit)→(vs:lm)→PV vs→Option R)→(TypeId→List ai→Option R)→Option R
def Ru(o:Nat):lm→Nat
 |[]=>0
 |(.l o' _,_)::r=>bif Nat.beq o' o then Ru o r+1 else Ru o r
 |_::r=>Ru o r
def abi(cp:List (Nat×Nat))(full:lm):lm→List (Nat×Nat)
 |[]=>[]
 |(.l o 0,_)::r=>bif fk o (cp.map (·.1)) then abi cp full r else(o,Ru o full)::abi cp full r
 |_::r=>abi cp full r
def qv.with(L:qv)(vs:lm):qv:=⟨L.n,L.cp++abi L.cp vs vs,L.cs,vs,L.pin⟩
def Qa(id:Nat):Exit→Exit
 |.exit i=>bif Nat.beq i id then .normal else .exit i
 |e=>e
def xF(id:Nat)(L:qv){W:Type}(l:PV L.cs→PV L.vs→Option W)(dk:Dk W):lM where
 run st K KP:=(match ent L st with
  |none=>none
  |some (c,v,s)=>(bif Mr L.cs s then(l c v).bind fun x=>dk x (fun e vs o=>K (Qa id e) (aft (L.with vs) c o st)) (fun T ls=>KP (.Au T ls) (aft (L.with []) c () st)) else none))
theorem JJ{L:qv}{st s:St}{c:PV L.cs}{v:PV L.vs}(h:ent L st=some (c,v,s)):ky st s∧L.n=st.n∧L.pin=st.pin∧∃ a,lC s L.cs=some (c,a):=by
 unfold ent at h;split at h
 ·cases h
 ·rename_i s1 h1
  split at h
  ·cases h
  ·rename_i s2 h2
   split at h
   ·cases h
   ·rename_i c' a hc
    split at h
    ·cases h
    ·rename_i v' b hv
     cases hk:(Nat.beq L.n s2.n&&Aj (a++b)&&Es L.cp s2&&qOk L.vs s2&&(Xc L.pin s2.pin&&Gc L.pin (a++b))) with
     |false=>simp[hk] at h
     |true=>simp only[hk,aja,Ob,aia] at h;obtain⟨rfl,rfl,rfl⟩:=h;simp only[Q3] at hk;have hb:=(oz h1).trans (oz h2);exact⟨hb,(Q4 hk.1.1.1.1).trans hb.1,(Re hk.2.1).trans (bla hb.2.2.2).2,a,hc⟩
theorem So{L:qv}{c:PV L.cs}{v:PV L.vs}{st:St}(hn:L.n=st.n):ky st (aft L c v st):=⟨hn,rfl,rfl,rfl⟩
theorem PY(id:Nat)(L:qv){W:Type}(l:PV L.cs→PV L.vs→Option W)(dk:Dk W):AT (xF id L l dk):=by
 intro R st K K' KP KP' hK hP;simp only[xF];split
 ·rfl
 ·rename_i c v s hs
  obtain⟨_,hn,_,_⟩:=JJ hs;have e1:(fun(e:Exit) (vs:lm) (o:PV vs)=>K (Qa id e) (aft (L.with vs) c o st))=(fun e vs o=>K' (Qa id e) (aft (L.with vs) c o st)):=funext fun e=>funext fun vs=>funext fun o=>hK _ _ (So (L:=L.with _) hn)
  have e2:(fun(T:TypeId) (ls:List ai)=>KP (.Au T ls) (aft (L.with []) c () st))=(fun T ls=>KP' (.Au T ls) (aft (L.with []) c () st)):=funext fun T=>funext fun ls=>hP _ _ (So (L:=L.with _) hn)
  rw[e1,e2];rfl
theorem HD{G G':Gh}(h:G.Mn G'):∀{ls:List ai} {vs:List Value},All2 (aY G) ls vs→All2 (aY G') ls vs:=fun {ls vs} hr=>hr.imp fun l v h'=>h'.sub h
theorem Wv{G:Gh}{al:AL}:∀{ls:List ai} {vs:List Value},wG ls=true→All2 (aY G) ls vs→All2 (aY (G.uO al)) ls vs
 |[],[],_,_=>trivial
 |.fy t d::r,_::_,h,hr=>⟨hr.1,Wv (ls:=r) h hr.2⟩
 |[],_::_,_,hr=>hr.elim
 |_::_,[],_,hr=>hr.elim
theorem Wx{L:qv}{c:PV L.cs}{s:St}{v:PV L.vs}(hb:ub L c s)(h:rnd L (gm L.cs c) s=some v){X:mW}{G:Gh}{w:World}(hm:aB X s G w):
  ∃ G',aB X (L.st c v) G' w∧∀ T ls u,wG ls=true→aU G (.Au T ls) u→aU G' (.Au T ls) u:=by
 unfold rnd at h;split at h
 ·cases h
 ·rename_i s1 h1
  split at h
  ·cases h
  ·rename_i v' b hv
   cases hk:(vN s1 L.cs&&Aj (gm L.cs c++b)&&Es L.cp s1&&qOk L.vs s1&&Gc L.pin (gm L.cs c++b)) with
   |false=>simp[hk] at h
   |true=>
    simp only[hk,aja,Ob] at h;subst h;simp only[Q3,vN] at hk;obtain⟨⟨⟨⟨⟨k0,k1⟩,k2⟩,k3⟩,k4⟩,k6⟩:=hk;have Dv:=hb.iZ (oz h1);obtain⟨G1,m1,a1,q1⟩:=od h1 hm;have hn:((gm L.cs c++b).map (·.1)).Nodup:=by have:=k2;simp only[Aj,Q3] at this;exact eN this.1
    have hf:=A9 (v:=c) (eN k0);have N:=RA (L:=L) (II (full:=⟨L.cs,c⟩) Dv.2.1 Dv.2.2.1 hn hf k1 (fun e he=>aya _ he)) (vC hn hv (fun e he=>ara _ he))
     (fun nm j0 A ii=>by
      rcases ana.1 ii with ii|ii
      ·exact Bm (full:=⟨L.cs,c⟩) (bla Dv.2.2.2).1 hf k1 nm j0 A ii
      ·exact pF hv nm j0 A ii) k2 k3 Dv.1 (fun o j lf hl=>⟨lf,by rw[←Dv.2.2.1];exact hl⟩) k4 (bla Dv.2.2.2).2.symm k6
     (fun nm j0 A ii=>RZ ((ana.1 ii).imp (Ce nm j0 A) (xV hv nm j0 A)))
    exact⟨_,N.ok m1,fun T ls u hd hu=>by
     obtain⟨x,cs,e1,e2,e3⟩:=hu;exact⟨x,cs,e1,e2,Wv hd (HD a1 e3)⟩⟩
noncomputable def gd(L:qv)(c:PV L.cs)(s:St){W:Type}(x:Option W):Option W:=@ite _ (ub L c s) (Classical.propDecidable _) x none
theorem JQ{L:qv}{c:PV L.cs}{s:St}{W:Type}{x:Option W}(h:ub L c s):gd L c s x=x:=by unfold gd;rw[a8a h]
theorem EU{L:qv}{c:PV L.cs}{s:St}{W:Type}{x:Option W}{y:W}(h:gd L c s x=some y):ub L c s∧x=some y:=by
 unfold gd at h;split at h
 ·rename_i hb;exact⟨hb,h⟩
 ·cases h
section
variable {P:Program} {E:tr} (hE:FV P E)
include hE
theorem abd{id:Nat}{body:Code}{L:qv}{W:Type}{l:Nat→PV L.cs→PV L.vs→Option W}{dk:Dk W}{out:PV L.cs→Exit→St→Option W}{pout:PV L.cs→af→St→Option W}(hb:ta P E body)
  (h0:∀ c v,l 0 c v=none)
  (h1:∀ k c v,l (k+1) c v=tB E body (L.st c v) (fun e s=>match e with | .normal=>(rnd L (gm L.cs c) s).bind (l k c)|e=>out c e s) (pout c))
  (h2:∀ c e s x,out c e s=some x→∃ vs o,rnd (L.with vs) (gm L.cs c) s=some o∧∀(R:Type) f g,dk (R:=R) x f g=f e vs o)
  (h3:∀ c av s x,pout c av s=some x→∃ T ls,av=.Au T ls∧wG ls=true∧rnd (L.with []) (gm L.cs c) s=some ()∧∀(R:Type) f g,dk (R:=R) x f g=g T ls) (k:Nat):
  QD P E.gt id (.loop body) (xF id L (l k) dk):=by
 intro R r X st G w act K KP Q h zt hm hr hK hP;simp only[xF] at h;split at h
 ·cases h
 ·rename_i c v s hs
  obtain⟨hbs,hn,Ok,a,AD⟩:=JJ hs;cases hbi:Mr L.cs s with
  |false=>simp[hbi] at h
  |true=>
   simp only[hbi,aja] at h;obtain⟨x,hx,h⟩:=ata.1 h;have bs0:=VH AD hbi;have bs:Sc st L c:=bs0.iZ hbs;obtain⟨G1,m1,r1⟩:=YG hs (fun o j lf hl=>⟨lf,bs0.bR o j lf hl⟩) hm hr;let Q':Exit→Act→World→Prop:=fun e a w=>match e with
    |.panic ch=>Q (.panic ch) a w
    |e=>Q (Qa id e) a w
   have hQ:∀ e a w,Q' e a w→Exit.inBlock id Q e a w:=fun e a w hq=>by
    cases e with
    |exit i=>
     simp only[Exit.inBlock];by_cases e:i=id
     ·subst e;simp only[Q',Qa,b_a,aja] at hq;simpa using hq
     ·simp only[Q',Qa,vu e,aoa] at hq;simpa[e] using hq
    |_=>exact hq
   have yB:∀ e s G w act,e≠.normal→ub L c s→aB X s G w→bQ G s act→out c e s=some x→Q' e act w:=fun e s G w act ik hb m r' ho=>by
    obtain⟨vs,o,g1,g2⟩:=h2 c e s x ho;rw[g2] at h;obtain⟨G',m',r''⟩:=Vd (L:=L.with vs) (c:=c) (v:=o) hb g1 m r'
    have wk:=H5 (L:=L.with vs) (c:=c) (v:=o) (st:=st) ⟨bs.iz,bs.bR,bs.arr⟩ Ok
    have:=hK _ _ _ _ _ (wk.ok m' (fun o j u hu=>(hm.bv o j u hu).1)) (wk.eH r'') h;cases e with
    |panic ch=>exact this
    |_=>exact this
   have adq:∀ av u s G w act,ub L c s→aB X s G w→act.defers=G.ds→aU G av u→pout c av s=some x→Q' (.panic [{v:=u,recovered:=false}]) act w:=fun av u s G w act hb m r' hv ho=>by
    obtain⟨T,ls,rfl,hd,g1,g2⟩:=h3 c av s x ho;rw[g2] at h;obtain⟨G',m',hp⟩:=Wx (L:=L.with []) (c:=c) (v:=()) hb g1 m
    have wk:=H5 (L:=L.with []) (c:=c) (v:=()) (st:=st) ⟨bs.iz,bs.bR,bs.arr⟩ Ok
    exact hP _ _ _ _ _ _ (wk.ok m' (fun o j u hu=>(hm.bv o j u hu).1)) (r'.trans (m.ds.trans m'.ds.symm)) (hp T ls u hd hv) h
   refine wp_block (wp_mono (Q:=Q') ?_ hQ);intro b kk cs;have key:∀ k v G act w,aB X (L.st c v) G w→bQ G (L.st c v) act→l k c v=some x→
     ∃ e a' w',Q' e a' w'∧Arrives P (lone (b.at act (.code body::.inLoop body::kk)) cs w) b kk cs e a' w':=by
    intro k;induction k with
    |zero=>intro v G act w _ _ hl;rw[h0] at hl;cases hl
    |succ k ih=>
     intro v G act w m r' hl;rw[h1] at hl;have hl:=(Qj hE.QX hE.acx body (K':=fun e s=>gd L c s (match e with | .normal=>(rnd L (gm L.cs c) s).bind (l k c)|e=>out c e s))
      (KP':=fun av s=>gd L c s (pout c av s)) (fun e s hs=>(JQ ⟨hs.1.symm,hs.2.1,hs.2.2.1,hs.2.2.2⟩).symm) (fun av s hs=>(JQ ⟨hs.1.symm,hs.2.1,hs.2.2.1,hs.2.2.2⟩).symm)).symm.trans hl
     have hwp:=z6 hE zt body hb (Q:=Exit.then (fun a w=>∃ e a' w',Q' e a' w'∧Arrives P (lone (b.at a (.code body::.inLoop body::kk)) cs w) b kk cs e a' w') Q') hl m r'
      (fun e s G w act m r' hk=>by
       obtain⟨hbo,hk⟩:=EU hk;cases e with
       |normal=>obtain⟨v',g1,g2⟩:=ata.1 hk;obtain⟨G',m',r''⟩:=Vd hbo g1 m r';exact ih v' G' act w m' r'' g2
       |_=>exact yB _ _ _ _ _ (by simp) hbo m r' hk)
      (fun av u s G w act m r' hv hk=>by
       obtain⟨hbo,hk⟩:=EU hk;exact adq _ _ _ _ _ _ hbo m r' hv hk)
     obtain⟨e,a₁,w₁,hq,px⟩:=hwp b (.inLoop body::kk) cs;cases e with
     |normal=>obtain⟨e₂,a₂,w₂,hq₂,aeH⟩:=hq;exact⟨e₂,a₂,w₂,hq₂,.of_steps (Steps.trans px (.one step_inLoop)) aeH⟩
     |exit id=>exact⟨_,a₁,w₁,hq,.pass (x:=.inLoop body) rfl (fun _ _=>.inl (by simp)) px⟩
     |goto l=>exact⟨_,a₁,w₁,hq,.pass (x:=.inLoop body) rfl (fun _ _=>.inl (by simp)) px⟩
     |ret=>exact⟨_,a₁,w₁,hq,.pass (x:=.inLoop body) rfl (fun _ _=>.inl (by simp)) px⟩
     |panic ch=>exact⟨_,a₁,w₁,hq,.pass (x:=.inLoop body) rfl (fun _ _=>.inl (by simp)) px⟩
     |outgrown=>exact⟨_,a₁,w₁,hq,.pass (x:=.inLoop body) rfl (fun _ _=>.inl (by simp)) px⟩
   obtain⟨e,a',w',hq,px⟩:=key k v G1 act w m1 r1 hx;exact⟨e,a',w',hq,.of_steps (.one step_loop) px⟩
theorem adS{id:Nat}{ops:Array Oper}{L:qv}{W:Type}{F:PV L.cs→PV L.vs→Option W}{dk:Dk W}{out:PV L.cs→St→Option W}{pout:PV L.cs→af→St→Option W}{ls:List (List Nat)}
  (hd:DW ops.toList (iY ops.toList [])=true) (hc:jd ops.toList (iY ops.toList []) ops.toList.length []=ls)
  (h1:∀ l∈ls,JH ops.toList l=true∧∀ c v,F c v=Hw E ops.toList (iY ops.toList []) l [] (L.st c v) (out c) (pout c))
  (h2:∀ c s x,out c s=some x→∃ vs o,rnd (L.with vs) (gm L.cs c) s=some o∧∀(R:Type) f g,dk (R:=R) x f g=f .normal vs o)
  (h3:∀ c av s x,pout c av s=some x→∃ T ls,av=.Au T ls∧wG ls=true∧rnd (L.with []) (gm L.cs c) s=some ()∧∀(R:Type) f g,dk (R:=R) x f g=g T ls):
  u9 P E.gt (.region id ops true) (xF (id+1000000) L F dk):=by
 intro R r X st G w act K KP Q h zt hm hr hK hP;simp only[xF] at h;split at h
 ·cases h
 ·rename_i c v s hs
  obtain⟨hbs,hn,Ok,a,AD⟩:=JJ hs;cases hbi:Mr L.cs s with
  |false=>simp[hbi] at h
  |true=>
   simp only[hbi,aja] at h;obtain⟨x,hx,h⟩:=ata.1 h;have bs0:=VH AD hbi;have bs:Sc st L c:=bs0.iZ hbs;obtain⟨G1,m1,r1⟩:=YG hs (fun o j lf hl=>⟨lf,bs0.bR o j lf hl⟩) hm hr;refine WB hE.iK hE.BG hE.QX hE.det zt (K:=fun s=>gd L c s (out c s)) (KP:=fun av s=>gd L c s (pout c av s)) (r:=x) (Kok:=fun s=>gd L c s (out c s)=some x) (KPok:=fun av s=>gd L c s (pout c av s)=some x)
    (fun s G w act m r' ho=>?_) (fun av u s G w act m r' hv ho=>?_) hE.mix hd (fun l hl=>?_) (fun _ h=>h) (fun _ _ h=>h) m1 r1
   ·obtain⟨hb,ho⟩:=EU ho
    obtain⟨vs,o,g1,g2⟩:=h2 c s x ho;rw[g2] at h;obtain⟨G',m',r''⟩:=Vd (L:=L.with vs) (c:=c) (v:=o) hb g1 m r'
    have wk:=H5 (L:=L.with vs) (c:=c) (v:=o) (st:=st) ⟨bs.iz,bs.bR,bs.arr⟩ Ok
    exact hK _ _ _ _ _ (wk.ok m' (fun o j u hu=>(hm.bv o j u hu).1)) (wk.eH r'') h
   ·obtain⟨hb,ho⟩:=EU ho
    obtain⟨T,xG,rfl,LW,g1,g2⟩:=h3 c av s x ho;rw[g2] at h;obtain⟨G',m',hp⟩:=Wx (L:=L.with []) (c:=c) (v:=()) hb g1 m
    have wk:=H5 (L:=L.with []) (c:=c) (v:=()) (st:=st) ⟨bs.iz,bs.bR,bs.arr⟩ Ok
    exact hP _ _ _ _ _ _ (wk.ok m' (fun o j u hu=>(hm.bv o j u hu).1)) (r'.trans (m.ds.trans m'.ds.symm)) (hp T xG u LW hv) h
   ·rw[hc] at hl
    obtain⟨q1,q2⟩:=h1 l hl;refine⟨q1,?_⟩;rw[q2 c v] at hx;exact(E9 hE.QX (fun s hs=>(JQ ⟨hs.1.symm,hs.2.1,hs.2.2.1,hs.2.2.2⟩).symm) (fun av s hs=>(JQ ⟨hs.1.symm,hs.2.1,hs.2.2.1,hs.2.2.2⟩).symm)).symm.trans hx
end
end Go.Fx
namespace Go.Fx
@[reducible] def DL:List Ty→Type
 |[]=>Unit
 |t::r=>t.nM×DL r
def vQ:List af→St→Option St
 |[],st=>some st
 |v::r,st=>(match v.qR st with|some st'=>vQ r st' | none=>none)
def PB(st:St):(ts:List Ty)→List af→Option (DL ts)
 |[],[]=>some ()
 |t::ts,v::vs=>(match v.vJ st t with|some x=>(match PB st ts vs with|some r=>some (x,r)|none=>none)|none=>none)
 |_,_=>none
def SO:(ts:List Ty)→Nat→DL ts→List (Nat×af)
 |[],_,_=>[]
 |t::r,i,d=>(i,.one (.fy t d.1))::SO r (i+1) d.2
def stD(n:Nat)(ts:List Ty)(d:DL ts):St:=⟨n,SO ts 0 d,[],[],[],[],[],[],[]⟩
def LJ(E:tr)(st:St):List ResultVar→Option (List af)
 |[]=>some []
 |.tmp t::r=>(match LJ E st r with|some l=>some (st.uN t::l)|none=>none)
 |.cell t T::r=>(match st.uN t with
  |.one (.lB o off)=>(match y5 E T (.one (.lB o off)) st (fun v _=>some v),LJ E st r with|some v,some l=>some (v::l)|_,_=>none)
  |_=>none)
def O8(E:tr)(rv:List ResultVar)(rs:List Ty)(st:St):Option (DL rs):=
 match LJ E st rv with
 |some vs=>(match vQ vs st with|some st'=>PB st' rs vs|none=>none)
 |none=>none
def abS:(rs:List Ty)→DL rs→List (Bool×List ai)
 |[],_=>[]
 |t::r,d=>(t.agg,ka t d.1)::abS r d.2
def TF(rs:List Ty)(d:DL rs):af:=
 match rs,d with
 |[t],d=>.one (.fy t d.1)
 |rs,d=>.KN (abS rs d)
def Az(ts rs:List Ty){W:Type}(F:DL ts→Option W)(dec:W→DL rs):iL where
 run _ args st K _:=(match vQ args st with
  |some st'=>(match PB st' ts args with
   |some d=>(F d).bind fun r=>K (TF rs (dec r)) (bif rs.all Ty.yZ then st else st')
   |none=>none)
  |none=>none)
 Lh args _:=bif rs.all Ty.yZ then [] else nJ args
theorem KK:∀{vs:List af} {st st':St},vQ vs st=some st'→rk (nJ vs) st st'
 |[],st,st',h=>by cases h;exact .refl _ _
 |v::r,st,st',h=>by
  simp only[vQ] at h;split at h
  ·rename_i s1 h1;exact((vG h1).mono fun q hq=>aya _ hq).trans ((KK h).mono fun q hq=>ara _ hq)
  ·cases h
theorem RY:∀{vs:List af} {st st':St},vQ vs st=some st'→ky st st'
 |[],st,st',h=>by cases h;exact .refl _
 |v::r,st,st',h=>by
  simp only[vQ] at h;split at h
  ·rename_i s1 h1;exact(KL h1).trans (RY h)
  ·cases h
theorem xW(ts rs:List Ty){W:Type}(F:DL ts→Option W)(dec:W→DL rs):nE (Az ts rs F dec):=by
 intro R dst args st K K' KP KP' hK hP;simp only[Az] at hK ⊢;split
 ·rename_i st' hs
  split
  ·refine eg fun r=>hK _ _ ?_
   cases rs.all Ty.yZ with
   |true=>exact .refl _ _
   |false=>exact KK hs
  ·rfl
 ·rfl
theorem BH(ts rs:List Ty){W:Type}(F:DL ts→Option W)(dec:W→DL rs):pt (Az ts rs F dec):=by
 intro R dst args st K KP;simp only[Az]
 repeat' (first|rfl|apply fW|intro _|split)
theorem zf{X:mW}{w:World}:∀{vs:List af} {st st':St} {G:Gh},vQ vs st=some st'→aB X st G w→∃ G',aB X st' G' w∧G.Mn G'∧rQ st st'
 |[],st,st',G,h,hm=>by cases h;exact⟨G,hm,.refl G,.refl _⟩
 |v::r,st,st',G,h,hm=>by
  simp only[vQ] at h;split at h
  ·rename_i s1 h1
   obtain⟨G1,m1,a1,k1⟩:=Fc h1 hm;obtain⟨G2,m2,a2,k2⟩:=zf h m1;exact⟨G2,m2,a1.trans a2,k1.trans k2⟩
  ·cases h
def Af(G:Gh):(ts:List Ty)→DL ts→List Value→Prop
 |[],_,[]=>True
 |t::r,d,v::vs=>aY G (.fy t d.1) v∧Af G r d.2 vs
 |_,_,_=>False
theorem D5{X:mW}{st:St}{G:Gh}{w:World}(hm:aB X st G w):∀{ts:List Ty} {avs:List af} {d:DL ts} {vs:List Value},PB st ts avs=some d→All2 (aU G) avs vs→Af G ts d vs
 |[],[],d,[],_,_=>trivial
 |t::ts,a::avs,d,v::vs,h,hr=>by
  simp only[PB] at h;split at h
  ·rename_i x hx
   split at h
   ·rename_i r hr'
    simp only[Ob] at h;subst h;exact⟨DM hm hx hr.1,D5 hm hr' hr.2⟩
   ·cases h
  ·cases h
 |[],[],d,_::_,_,hr=>hr.elim
 |[],_::_,d,_,h,_=>by cases h
 |_::_,[],d,_,h,_=>by cases h
 |_::_,_::_,d,[],_,hr=>hr.elim
theorem Af.eH{G:Gh}{n:Nat}:∀{ts:List Ty} {d:DL ts} {vs:List Value} (pre:List Value),Af G ts d vs→∀ i v,look (SO ts pre.length d) i=some v→aU G v ((pre++vs).getD i undef)
 |[],d,[],pre,_,i,v,h=>by cases h
 |t::r,d,u::vs,pre,hd,i,v,h=>by
  simp only[SO,aw] at h;by_cases e:pre.length=i
  ·simp only[e,ava,Ob] at h
   subst h;subst e;have:(pre++u::vs).getD pre.length undef=u:=by simp[a9a]
   rw[this];exact hd.1
  ·simp only[e,aka] at h
   have:=Af.eH (n:=n) (pre++[u]) hd.2 i v (by simpa using h)
   simpa using this
 |[],d,_::_,_,h,_,_,_=>h.elim
 |_::_,d,[],_,h,_,_,_=>h.elim
theorem Af.length{G:Gh}:∀{ts:List Ty} {d:DL ts} {vs:List Value},Af G ts d vs→vs.length=ts.length
 |[],d,[],_=>rfl
 |t::r,d,u::vs,hd=>by simp[Af.length hd.2]
 |[],d,_::_,h=>h.elim
 |_::_,d,[],h=>h.elim
def SI(S:Du)(w:World):mW:=⟨S,fun _=>False,w,fun _=>none,(fun _ _ h=>(by cases h)),fun _ _=>none,(fun _ _ _ h=>(by cases h)),fun _=>none,[]⟩
def ghD(S:Du):Gh:=⟨S,fun _=>0,fun _=>[],fun _=>[],fun _=>.slice none 0 0,fun _=>[],fun _=>0,fun _ _=>[],[]⟩
theorem Vi{S:Du}{w:World}(hS:∀ b o,S b=some o→w.heap[b]? = some o)(n:Nat)(ts:List Ty)(d:DL ts):aB (SI S w) (stD n ts d) (ghD S) w:=by
 have no:∀ x b,¬ fq (ghD S) (stD n ts d) x b:=fun x b hx=>by
  obtain⟨k,m⟩:=x;cases k with
  |false=>obtain⟨⟨ls,h⟩,_⟩:=hx;cases h
  |true=>obtain⟨⟨A,h,_⟩,_⟩:=hx;cases h
 refine {sl:=fun _=>.inl ⟨_,_,_,rfl⟩,sh:=hS,ob:=fun o ls h=>(by cases h),ar:=fun a A h=>(by cases h),ah:=fun a A h=>(by cases h),nd:=fun a A h=>(by cases h),qw:=fun x y b h=>(no x b h).elim,dS:=fun x b h=>(no x b h).elim,ua:=fun x b h=>(no x b h).elim,s0:=fun b o h=>h,sn:=fun b o h=>.inl h,fr:=fun b _ _=>rfl,sz:=axa _,os:=rfl,tp:=rfl,out:=rfl,pin:=fun o p h=>(by cases h),bv:=fun o j u h=>(by cases h),ap:=fun a u h=>(by cases h),hv:=fun _=>rfl,ds:=rfl,hh:=fun a A h=>(by cases h)}
theorem aB.aer{X:mW}{st:St}{G:Gh}{w w':World}(hm:aB X st G w){t:St}{G3:Gh}(h3:aB (SI G.S w) t G3 w'):aB X st {G with S:=G3.S} w'∧G.Mn {G with S:=G3.S}:=by
 have hS:∀ b o,G.S b=some o→G3.S b=some o:=h3.s0;have qa:G.Mn {G with S:=G3.S}:=⟨hS,rfl,rfl,rfl,rfl,rfl,rfl,rfl,rfl⟩
 have tZ:∀ b,b<w.heap.size→w'.heap[b]? = w.heap[b]?:=fun b hb=>h3.fr b hb (fun h=>h);have gK:∀ x b,fq {G with S:=G3.S} st x b→fq G st x b:=fun x b hx=>by obtain⟨k,m⟩:=x;cases k<;>exact hx
 refine⟨{sl:=hm.sl,sh:=h3.sh,ob:=fun o ls h=>?_,ar:=fun a A h=>?_,ah:=fun a A h hs p hp=>?_,nd:=hm.nd,qw:=fun x y b hx hy=>hm.qw x y b (gK x b hx) (gK y b hy),dS:=fun x b hx=>?_,ua:=fun x b hx=>hm.ua x b (gK x b hx),s0:=fun b o h=>hS b o (hm.s0 b o h),sn:=fun b o h=>?_,fr:=fun b h1 h2=>?_,sz:=bGa hm.sz h3.sz,os:=h3.os.trans hm.os,tp:=h3.tp.trans hm.tp,out:=h3.out.trans hm.out,pin:=hm.pin,bv:=fun o j u h=>(by obtain⟨h1,⟨l,h2,h5⟩,yp,rK,h4,h6⟩:=hm.bv o j u h;exact⟨h1,⟨l,h2,h5⟩,yp,rK,by rw[tZ _ (fq.lt hm (x:=(false,o)) ⟨⟨l,h2⟩,rfl⟩)];exact h4,h6⟩),ap:=hm.ap,hv:=hm.hv,ds:=hm.ds,hh:=hm.hh},qa⟩
 ·obtain⟨arr,elem,mid,g1,g2,g3⟩:=hm.ob o ls h
  exact⟨arr,elem,mid,by rw[tZ _ (fq.lt hm (x:=(false,o)) ⟨⟨ls,h⟩,rfl⟩)];exact g1,g2,HD qa g3⟩
 ·exact(hm.ar a A h).mono (G:=G) (a:=a) (G':={G with S:=G3.S}) (a':=a) hS rfl rfl (fun _ _ _=>⟨rfl,rfl,rfl⟩)
 ·rw[tZ p.1 (fq.lt hm (x:=(true,a)) ⟨⟨A,h,hs⟩,p,hp,rfl⟩)];exact hm.ah a A h hs p hp
 ·have EV:=gK x b hx
  have bf:=fq.lt hm EV;cases hc:G3.S b with
  |none=>rfl
  |some o=>
   rcases h3.sn b o hc with h|h|h
   ·have:=hm.dS x b EV;rw[show G.S b=some o from h] at this;cases this
   ·exact h.elim
   ·have h:w.heap.size≤b:=h;omega
 ·rcases h3.sn b o h with h|h|h
  ·exact hm.sn b o h
  ·exact h.elim
  ·have:=hm.sz;have h:w.heap.size≤b:=h;exact .inr (.inr (by omega))
 ·rw[tZ b (by have:=hm.sz;omega)];exact hm.fr b h1 h2
def Hv:List Value→Value
 |[v]=>v
 |vs=>.tuple vs.toArray
theorem YD{G G':Gh}(hS:G'.S=G.S):∀{ts:List Ty} {d:DL ts} {vs:List Value},Af G ts d vs→Af G' ts d vs
 |[],d,[],_=>trivial
 |t::r,d,v::vs,h=>by obtain⟨cs,e1,e2⟩:=h.1;exact⟨⟨cs,e1,by rw[hS];exact e2⟩,YD hS h.2⟩
 |[],d,_::_,h=>h.elim
 |_::_,d,[],h=>h.elim
theorem Pq{G G':Gh}:∀{ts:List Ty} {d:DL ts} {vs:List Value},ts.all Ty.yZ=true→Af G ts d vs→Af G' ts d vs
 |[],d,[],_,_=>trivial
 |t::r,d,v::vs,hn,h=>by simp only[bqa,Q3] at hn;obtain⟨cs,e1,e2⟩:=h.1;exact⟨⟨cs,e1,wy hn.1 e2⟩,Pq hn.2 h.2⟩
 |[],d,_::_,_,h=>h.elim
 |_::_,d,[],_,h=>h.elim
theorem Cf{P:Program}{E:tr}(hE:iQ P E.iK){X:mW}{st:St}{G:Gh}{w:World}{act:Act}(hm:aB X st G w)(hr:bQ G st act):∀{rv:List ResultVar} {avs:List af},LJ E st rv=some avs→
  ∃ zv:List Value,(rv.mapM fun(x:ResultVar)=>(match x with
   |.tmp t=>pure (act.tmps.getD t undef)
   |.cell a t=>do loadVar t (←asAddr (act.tmps.getD a undef)):Sem Value)).run P w=.ok zv w∧All2 (aU G) avs zv
 |[],avs,h=>by cases h;exact⟨[],rfl,trivial⟩
 |.tmp t::r,avs,h=>by
  simp only[LJ] at h;split at h
  ·rename_i l hl
   cases h;obtain⟨zv,h1,h2⟩:=Cf hE hm hr hl;refine⟨act.tmps.getD t undef::zv,?_,?_,h2⟩
   ·rw[List.mapM_cons,aNa]
    simp only[baa,aFa];rw[aNa,h1];rfl
   ·unfold St.uN
    cases hs:st.iz t with
    |none=>trivial
    |some sv=>exact hr.2.2 t sv hs
  ·cases h
 |.cell t T::r,avs,h=>by
  simp only[LJ] at h;split at h
  ·rename_i o off xC
   split at h
   ·rename_i v l hv hl
    simp only[Ob] at h;subst h;obtain⟨zv,h1,h2⟩:=Cf hE hm hr hl;have hp:aU G (.one (.lB o off)) (act.tmps.getD t undef):=by
     rw[←xC];unfold St.uN;cases hs:st.iz t with
     |none=>rw[St.uN,hs] at xC;cases xC
     |some sv=>exact hr.2.2 t sv hs
    obtain⟨av,u,h3,h4,h5⟩:=Ka hE hv hm hp;cases h5;have hq:∃ a,act.tmps.getD t undef=.pointer (some a):=⟨_,hp⟩;obtain⟨a,ha⟩:=hq;rw[ha] at h3;refine⟨u::zv,?_,h4,h2⟩;have h3':(do loadVar T (←asAddr (act.tmps.getD t undef)):Sem Value).run P w=.ok u w:=by rw[ha];have:=h3;simpa[Instr.loadAt,Instr.sureAddr,asAddr] using this
    rw[List.mapM_cons,aNa];dsimp only;rw[h3'];simp only[aFa];rw[aNa,h1];rfl
   ·cases h
  ·cases h
theorem KH{P:Program}{E:tr}(hE:iQ P E.iK){X:mW}{st:St}{G:Gh}{w:World}{act:Act}{fn:Func}{avs:List af}(hm:aB X st G w)(hr:bQ G st act)(h:LJ E st fn.results.toList=some avs):
  ∃ zv:List Value,(results fn act.tmps).run P w=.ok (Hv zv) w∧All2 (aU G) avs zv:=by
 obtain⟨zv,h1,h2⟩:=Cf hE hm hr h;refine⟨zv,?_,h2⟩;obtain⟨g,g1,g2⟩:∃ g:ResultVar→Sem Value,results fn act.tmps=(do let vs ←fn.results.mapM g;pure (if h:vs.size=1 then vs[0] else .tuple vs))∧g=fun(x:ResultVar)=>(match x with
   |.tmp t=>pure (act.tmps.getD t undef)
   |.cell a t=>do loadVar t (←asAddr (act.tmps.getD a undef)):Sem Value):=⟨_,rfl,by funext x;cases x<;>rfl⟩
 rw[g1,Array.mapM_eq_mapM_toList,g2,aNa,Sem.run_map,h1];simp only[aFa,baa]
 congr 1
 match zv with
 |[]=>rfl
 |[v]=>rfl
 |v::u::r=>simp[Hv]
theorem WS{G:Gh}:∀{rs:List Ty} {d:DL rs} {vs:List Value},Af G rs d vs→All2 (fun(p:Bool×List ai) u=>if p.1=true then ∃ cs:List Value,u=.agg cs.toArray∧All2 (aY G) p.2 cs else ∃ l,p.2=[l]∧aY G l u) (abS rs d) vs
 |[],d,[],_=>trivial
 |t::r,d,v::vs,h=>by
  refine⟨?_,WS h.2⟩;obtain⟨cs,e1,e2⟩:=h.1;cases ha:t.agg with
  |true=>simp only[ha,ava] at e1 ⊢;exact⟨cs,e1,lY e2⟩
  |false=>simp only[ha,asa,aka] at e1 ⊢;cases t<;>simp[Ty.agg] at ha<;>exact⟨_,rfl,_,by simp[Ty.agg,e1],e2⟩
 |[],d,_::_,h=>h.elim
 |_::_,d,[],h=>h.elim
theorem L8{G:Gh}{rs:List Ty}{x:DL rs}{vs:List Value}(h:Af G rs x vs):aU G (TF rs x) (Hv vs):=by
 cases rs with
 |nil=>
  cases vs with
  |nil=>exact⟨[],rfl,trivial⟩
  |cons _ _=>exact h.elim
 |cons t rs=>
  cases vs with
  |nil=>exact h.elim
  |cons v vs=>
   cases rs with
   |nil=>
    cases vs with
    |nil=>exact h.1
    |cons _ _=>exact h.2.elim
   |cons t2 rs=>
    cases vs with
    |nil=>exact h.2.elim
    |cons v2 vs=>exact⟨v::v2::vs,rfl,WS h⟩
section
variable {P:Program} {E:tr} (hE:FV P E)
include hE
omit hE in
theorem aB.adb{X:mW}{st:St}{G:Gh}{w w':World}(hm:aB X st G w)(tZ:∀ b,b<w.heap.size→w'.heap[b]? = w.heap[b]?)(m9:w.heap.size≤w'.heap.size)(hos:w'.os=w.os)(htp:w'.tape=w.tape)(yB:w'.output=w.output):aB X st G w':=by
 have old:∀{b:Nat} {o:Obj},w.heap[b]? = some o→w'.heap[b]? = some o:=fun {b o} h=>by rw[tZ b (gn h)];exact h
 exact {
  sl:=hm.sl,sh:=fun b o h=>old (hm.sh b o h),ob:=fun o ls h=>(by obtain⟨arr,elem,mid,g1,g2,g3⟩:=hm.ob o ls h;exact⟨arr,elem,mid,old g1,g2,g3⟩),ar:=hm.ar,ah:=fun a A h hs p hp=>old (hm.ah a A h hs p hp),nd:=hm.nd,qw:=hm.qw,dS:=hm.dS,ua:=hm.ua,s0:=hm.s0,sn:=hm.sn,fr:=fun b h1 h2=>(by rw[tZ b (by have:=hm.sz;omega)];exact hm.fr b h1 h2),sz:=bGa hm.sz m9,os:=hos.trans hm.os,tp:=htp.trans hm.tp,out:=yB.trans hm.out,pin:=hm.pin
  bv:=fun o j u h=>(by obtain⟨h1,h2,yp,rK,h4,h5⟩:=hm.bv o j u h;exact⟨h1,h2,yp,rK,old h4,h5⟩),ap:=hm.ap,hv:=hm.hv,ds:=hm.ds,hh:=hm.hh}
omit hE in
theorem MO{G1:Gh}{ts:List Ty}{d:DL ts}{vs:List Value}{n:Nat}(hdr:Af G1 ts d vs)(hn:ts.length≤n):bQ (ghD G1.S) (stD n ts d) {tmps:=vs.toArray++Array.replicate (n - vs.toArray.size) undef,defers:=[]}:=by
 have hl:=hdr.length;refine⟨rfl,by simp[stD];omega,fun i v hv=>?_⟩
 have agi:Af (ghD G1.S) ts d vs:=by
  have key:∀{ts:List Ty} {d:DL ts} {vs:List Value},Af G1 ts d vs→Af (ghD G1.S) ts d vs:=by
   intro ts;induction ts with
   |nil=>intro d vs h;cases vs<;>exact h
   |cons t r ih=>intro d vs h;cases vs with
    |nil=>exact h
    |cons v vs=>exact⟨h.1,ih h.2⟩
  exact key hdr
 have h1:(stD n ts d).iz i=look (SO ts 0 d) i:=by simp only[St.iz,stD];cases look (SO ts 0 d) i<;>rfl
 rw[h1] at hv;have h2:=Af.eH (n:=0) [] agi i v hv;simp only[aVa] at h2;have hi:i<vs.length:=by
  rw[hl];have:∀{ts:List Ty} {d:DL ts} {k i:Nat} {v:af},look (SO ts k d) i=some v→i<k+ts.length:=by
   intro ts;induction ts with
   |nil=>intro d k i v h;cases h
   |cons t r ih=>
    intro d k i v h;simp only[SO,aw] at h;by_cases e:k=i
    ·subst e;simp
    ·simp only[e,aka] at h
     have:=ih h;simp only[aAa];omega
  have:=this hv;omega
 rw[aCa,Array.getElem?_append_left (by simpa using hi)]
 simpa[a9a] using h2
theorem TV{X:mW}{st wR:St}{G G1:Gh}{w w':World}(hm:aB X st G w)(m1:aB X wR G1 w)(a1:G.Mn G1)(k1:rQ st wR){rs:List Ty}{x:DL rs}{fn:Func}{s:St}{G3:Gh}{act:Act}{R:Type}{r:R}{K:af→St→Option R}
  (hr:K (TF rs x) (bif rs.all Ty.yZ then st else wR)=some r) (m3:aB (SI G1.S w) s G3 w') (r3:bQ G3 s act) (JU:O8 E fn.results.toList rs s=some x):
  ∃ v,(results fn act.tmps).run P w' = .ok v w'∧∃ av st' G',aB X st' G' w'∧(∀ act,bQ G st act→bQ G' st' act)∧aU G' av v∧K av st' = some r:=by
 unfold O8 at JU;split at JU
 ·rename_i avs hav
  split at JU
  ·rename_i s' Ca
   obtain⟨vs',iM,h2⟩:=KH hE.iK m3 r3 hav;obtain⟨G4,m4,a4,k4⟩:=zf Ca m3;have aeQ:=D5 m4 JU (h2.imp fun a v h=>h.sub a4);cases L0:rs.all Ty.yZ with
   |true=>rw[L0] at hr;exact⟨_,iM,TF rs x,st,G,hm.adb (fun b hb=>m4.fr b hb (fun h=>h)) m4.sz m4.os m4.tp m4.out,fun act ra=>ra,L8 (Pq L0 aeQ),hr⟩
   |false=>rw[L0] at hr;obtain⟨mc,agX⟩:=m1.aer m4;exact⟨_,iM,TF rs x,wR,_,mc,fun act ra=>(Bo k1 a1 ra).sub agX rfl (fun _=>rfl),L8 (YD (G:=G4) (G':={G1 with S:=G4.S}) rfl aeQ),hr⟩
  ·cases JU
 ·cases JU
theorem aaX{f:FuncId}{fn:Func}{c:Code}{ts rs:List Ty}{W:Type}{F:DL ts→Option W}(pack:DL rs→W){dec:W→DL rs}(UF:∀ r,dec (pack r)=r)(hf:P.funcs[f]? = some fn)(hb:fn.body=some c)(Bg:∀ args w,(callFunc f args).run P w=.ok (.enter f args) w)(hL:ta P E c)
  (hn:ts.length≤fn.ntmps)
  (h:∀ d,F d=tB E c (stD fn.ntmps ts d) (fun e s=>match e with | .normal=>(O8 E fn.results.toList rs s).map pack | .ret=>(O8 E fn.results.toList rs s).map pack|_=>none) (fun _ _=>none)):AZ P E.gt f (Az ts rs F dec):=by
 intro R r X st G w dst args vs K KP hr zt hm _ ha;simp only[Az] at hr;split at hr
 ·rename_i wR hs
  split at hr
  ·rename_i d hd
   obtain⟨y,hx,hr⟩:=ata.1 hr;obtain⟨G1,m1,a1,k1⟩:=zf hs hm;have BM:nL E.gt (SI G1.S w).S0:=zt.mono m1.s0;have hdr:=D5 m1 hd (ha.imp fun a v h=>h.sub a1);refine⟨Bg _ _,calls_of_wp hf hb ?_⟩;have Bj:∀ s G3 w' act,aB (SI G1.S w) s G3 w'→bQ G3 s act→(O8 E fn.results.toList rs s).map pack=some y→act.defers=[]∧∃ v,(results fn act.tmps).run P w' = .ok v w'∧
     ∃ av st' G',aB X st' G' w'∧(∀ act,bQ G st act→bQ G' st' act)∧aU G' av v∧K av st' = some r:=fun s G3 w' act m3 r3 JU=>by
    refine⟨r3.1.trans m3.ds,?_⟩;obtain⟨x,afb,hy⟩:=aKa.1 JU;rw[←hy,UF] at hr;exact TV hE hm m1 a1 k1 hr m3 r3 afb
   rw[h] at hx;refine z6 hE BM c hL hx (Vi m1.sh _ _ _) (MO hdr hn) (fun e s G3 w' act m3 r3 hk=>?_) (fun av v s G3 w' act m3 r3 hv hk=>by cases hk)
   cases e with
   |normal=>exact Bj s G3 w' act m3 r3 hk
   |ret=>exact Bj s G3 w' act m3 r3 hk
   |_=>cases hk
  ·cases hr
 ·cases hr
end
end Go.Fx
namespace Go.Fx
noncomputable def wY(t:St)(G:Gh)(w:World):mW where
 S0:=G.S
 XC:=fun b=>∃ x,fq G t x b
 w0:=w
 pin:=fun o=>if o<10000 then(match t.dT o with|some _=>some (G.φ o,G.pre o,G.post o)|none=>none) else none
 pl:=fun o p h=>by
  by_cases bf:o<10000
  ·exact bf
  ·simp[bf] at h
 bv:=fun o j=>if o<10000 then(match t.dT o,et t.cK o j with
  |some ls,some _=>(match ls[j]?,w.heap[G.φ o]? with
   |some .vb,some (.cells arr elem fz)=>arr.toList[(G.pre o).length+j]?
   |_,_=>none)
  |_,_=>none) else none
 bl:=fun o j u h=>by
  by_cases bf:o<10000
  ·exact bf
  ·simp[bf] at h
 aaK:=fun a=>if fk a t.pin=true then(match t.arr a with|some _=>some (G.ψ a)|none=>none) else none
theorem Gh.PT{G:Gh}{ds:List Deferred}{l:ai}{v:Value}(r:aY G l v):aY {G with ds:=ds} l v:=by cases l<;>exact r
theorem Gh.aee{G:Gh}{ds:List Deferred}{a:af}{v:Value}(r:aU G a v):aU {G with ds:=ds} a v:=by
 cases a with
 |one l=>exact PT r
 |agg ls=>obtain⟨cs,e,hr⟩:=r;exact⟨cs,e,hr.imp fun _ _=>PT⟩
 |KN vs=>
  obtain⟨us,e,hr⟩:=r;refine⟨us,e,hr.imp fun p u Nb=>?_⟩;split at Nb
  ·rename_i hc;simp only[hc,ava];obtain⟨cs,e,hr⟩:=Nb;exact⟨cs,e,hr.imp fun _ _=>PT⟩
  ·rename_i hc
   obtain⟨l,e,hr⟩:=Nb;simp only[hc,aka];exact⟨l,e,PT hr⟩
 |Au t ls=>obtain⟨u,cs,e1,e2,hr⟩:=r;exact⟨u,cs,e1,e2,hr.imp fun _ _=>PT⟩
theorem aB.aac{X:mW}{t:St}{G:Gh}{w:World}(hm:aB X t G w)(ds:List Deferred)(p:Nat→Option (Nat×List Value×List Value))(pl:∀ o q,p o=some q→o<10000)
  (hp:∀ o q,p o=some q→(∃ ls,t.dT o=some ls)∧q=(G.φ o,G.pre o,G.post o)):aB {X with ds:=ds,pin:=p,pl:=pl} t {G with ds:=ds} w:=
 {
  sl:=hm.sl,sh:=hm.sh,ob:=fun o ls h=>(by obtain⟨a,e,m,h1,h2,h3⟩:=hm.ob o ls h;exact⟨a,e,m,h1,h2,h3.imp fun _ _=>Gh.PT⟩),ar:=hm.ar,ah:=hm.ah,nd:=hm.nd,qw:=fun x y b h1 h2=>hm.qw x y b (by cases x with|mk k o=>cases k<;>exact h1) (by cases y with|mk k o=>cases k<;>exact h2)
  dS:=fun x b h=>hm.dS x b (by cases x with|mk k o=>cases k<;>exact h),ua:=fun x b h=>hm.ua x b (by cases x with|mk k o=>cases k<;>exact h),s0:=hm.s0,sn:=hm.sn,fr:=hm.fr,sz:=hm.sz,os:=hm.os,tp:=hm.tp,out:=hm.out,pin:=hp,bv:=hm.bv,ap:=hm.ap,hv:=hm.hv,ds:=rfl,hh:=hm.hh}
theorem aB.ds0{X:mW}{t:St}{G:Gh}{w:World}(hm:aB X t G w):aB {X with ds:=[]} t {G with ds:=[]} w:=
 hm.aac [] X.pin X.pl hm.pin
theorem aB.enter{X:mW}{t:St}{G:Gh}{w:World}(hm:aB X t G w):aB (wY t G w) t {G with ds:=[]} w:=by
 replace hm:=hm.ds0
 refine {sl:=hm.sl,sh:=hm.sh,ob:=hm.ob,ar:=hm.ar,ah:=hm.ah,nd:=hm.nd,qw:=hm.qw,dS:=hm.dS,ua:=fun x b h=>.inl ⟨x,by cases x with|mk k o=>cases k<;>exact h⟩,s0:=fun b o h=>h,sn:=fun b o h=>.inl h,fr:=fun b _ _=>rfl,sz:=axa _,os:=rfl,tp:=rfl,out:=rfl,pin:=fun o p h=>?_,bv:=fun o j u h=>?_,ap:=fun a u h=>?_,hv:=hm.hv,ds:=hm.ds,hh:=hm.hh}
 ·simp only[wY] at h
  split at h
  ·split at h
   ·rename_i ls ho
    simp only[Ob] at h;exact⟨⟨ls,ho⟩,h.symm⟩
   ·cases h
  ·cases h
 ·simp only[wY] at h
  split at h
  ·split at h
   ·rename_i ls lf ho hl
    split at h
    ·rename_i arr elem fz hj hh
     obtain⟨yp,rK,mid,g1,g2,g3⟩:=hm.ob o ls ho;rw[g1] at hh;cases hh;exact⟨⟨lf,hl⟩,⟨ls,ho,hj⟩,_,_,g1,h⟩
    ·cases h
   ·cases h
  ·cases h
 ·simp only[wY] at h
  split at h
  ·rename_i hp
   split at h
   ·rename_i A hA;simp only[Ob] at h;exact⟨hp,⟨A,hA⟩,h⟩
   ·cases h
  ·cases h
theorem UK{t:St}{G:Gh}{w:World}{a:Nat}{A:jV}(hp:fk a t.pin=true)(ha:t.arr a=some A):(wY t G w).aaK a=some (G.ψ a):=by simp[wY,hp,ha]
theorem PN{t:St}{G:Gh}{w:World}{o:Nat}{ls:List ai}(bf:o<10000)(ho:t.dT o=some ls):(wY t G w).pin o=some (G.φ o,G.pre o,G.post o):=by simp[wY,bf,ho]
theorem Nl{X:mW}{t:St}{G:Gh}{w:World}(hm:aB X t G w){o j:Nat}{ls:List ai}{lf:ai}(bf:o<10000)(ho:t.dT o=some ls)(hl:et t.cK o j=some lf)(hj:ls[j]? = some .vb):
  ∃ arr elem u,w.heap[G.φ o]? = some (.cells arr elem (0,0))∧arr.toList[(G.pre o).length+j]? = some u∧(wY t G w).bv o j=some u:=by
 obtain⟨arr,elem,mid,g1,g2,g3⟩:=hm.ob o ls ho;have hml:mid.length=ls.length:=by have:=All2.length g3;rw[iX] at this;exact this.symm
 have hjl:j<ls.length:=(ama.1 hj).1;have:(G.pre o).length+j<arr.toList.length:=by rw[g2];simp;omega
 refine⟨arr,elem,arr.toList[(G.pre o).length+j],g1,bja this,?_⟩;simp only[wY,bf,ava,ho,hl,hj,g1];exact bja this
end Go.Fx
namespace Go.Fx
def Gh.iR(G G3:Gh)(told:Nat→Option (Option Nat))(lJ oW:Nat→Option Nat):Gh:={G with
 S:=G3.S
 φ:=fun o=>match oW o with|some k=>G3.φ k|none=>G.φ o
 pre:=fun o=>match oW o with|some k=>G3.pre k|none=>G.pre o
 post:=fun o=>match oW o with|some k=>G3.post k|none=>G.post o
 ψ:=fun a=>match told a with|some (some k)=>G3.ψ k|some none=>.slice none 0 0|none=>G.ψ a
 HA:=fun a=>match told a with|some (some k)=>G3.HA k|some none=>[]|none=>match lJ a with|some k=>G3.HA k|none=>G.HA a
 vn:=fun a=>match lJ a with|some _=>G.vn a+1|none=>G.vn a
 HV:=fun a v=>match told a with|some (some k)=>kI (G3.HA k)|some none=>[]|none=>match lJ a with|some k=>if v≤G.vn a then G.HV a v else kI (G3.HA k)|none=>G.HV a v}
structure HX(st t s st':St)(al:AL)(told:Nat→Option (Option Nat))(lJ oW:Nat→Option Nat):Prop where
 n:st'.n=st.n
 vr:∀ a,st'.dH a=(match lJ a with|some _=>st.dH a+1|none=>st.dH a)
 iz:∀ i,st'.iz i=st.iz i
 bl:st'.cK=st.cK
 abR:∀ q tl,t.dT q=some tl→q<10000∧(∃ ls,st.dT q=some ls)∧∃ sl,s.dT q=some sl
 dT:∀ q xG,st'.dT q=some xG→(t.dT q=none∧st.dT q=some xG)∨
  (∃ ls tl sl,st.dT q=some ls∧t.dT q=some tl∧s.dT q=some sl∧tl.length=ls.length∧sl.length=ls.length∧xG.length=ls.length∧∀(j:Nat) (l' l a:ai),xG[j]? = some l'→ls[j]? = some l→sl[j]? = some a→
   (st'.res q j l' = st.res q j l∧tl[j]? = some .vb∧∃ lf,et t.cK q j=some lf)∨∀(G G3:Gh) (u:Value),(∃ X w',aB X s G3 w')→(∀ q tl,t.dT q=some tl→G3.φ q=G.φ q∧G3.pre q=G.pre q)→aY G3 (s.res q j a) u→aY (G.iR G3 told lJ oW) (st'.res q j l') u)∨
  (∃ k sl,oW q=some k∧s.dT k=some sl∧xG.length=sl.length∧∀(j:Nat) (l' a:ai),xG[j]? = some l'→sl[j]? = some a→∀(G G3:Gh) (u:Value),(∃ X w',aB X s G3 w')→(∀ q tl,t.dT q=some tl→G3.φ q=G.φ q∧G3.pre q=G.pre q)→aY G3 (s.res k j a) u→aY (G.iR G3 told lJ oW) (st'.res q j l') u)
 Ep:∀ q k,oW q=some k→st.dT q=none∧st.dj false q=false∧t.dT k=none
 afs:∀ q q' k,oW q=some k→oW q' = some k→q=q'
 V4:∀ q ls,st.dT q=some ls→∃ xG,st'.dT q=some xG
 vb:∀ q j ls lf,st.dT q=some ls→ls[j]? = some .vb→et st.cK q j=some lf→∃ xG,st'.dT q=some xG∧xG[j]? = some .vb∧(t.dT q=none∨∃ tl lf',t.dT q=some tl∧tl[j]? = some .vb∧et t.cK q j=some lf')
 arr:∀ a A,st'.arr a=some A→(∃ k,told a=some (some k)∧s.arr k=some A∧A.sh=false∧∀ i o,A.md≠.Ds i o)∨
  (told a=some none∧A.l=[]∧A.sh=false∧A.gK=true)∨
  (∃ k,told a=none∧lJ a=some k∧True∧s.arr k=some A∧A.sh=false∧∀ i o,A.md≠.Ds i o)∨
  (told a=none∧lJ a=none∧st.arr a=some A∧(A.sh=true∨∀ nm B,look al nm≠some (some a,B)))
 ti:∀ a a' k,told a=some (some k)→told a' = some (some k)→a=a'
 ki:∀ a a' k,lJ a=some k→lJ a' = some k→a=a'
 tk:∀ a a' k,told a=some (some k)→lJ a'≠some k
 F0:∀ a k,told a=some k→st.dj true a=false
 pn:st'.pin=st.pin
 ap:∀ a A,fk a st.pin=true→st.arr a=some A→told a=none∧∃ B,st'.arr a=some B
theorem sG(st:St)(o:Nat):∀(ls:List ai) (i j:Nat),(st.kg o i ls)[j]? = (ls[j]?).map (st.res o (i+j))
 |[],i,j=>by simp[St.kg]
 |l::r,i,0=>by simp[St.kg]
 |l::r,i,j+1=>by simp only[St.kg,bua];rw[sG st o r (i+1) j,show i+1+j=i+(j+1) by omega]
theorem All2.U0{α β:Type}{R:α→β→Prop}:∀{xs:List α} {ys:List β},xs.length=ys.length→(∀(j:Nat) (x:α) (y:β),xs[j]? = some x→ys[j]? = some y→R x y)→All2 R xs ys
 |[],[],_,_=>trivial
 |x::xs,y::ys,h,f=>⟨f 0 x y rfl rfl,All2.U0 (by simpa using h) (fun j x y hx hy=>f (j+1) x y (by simpa using hx) (by simpa using hy))⟩
 |[],_::_,h,_=>by simp at h
 |_::_,[],h,_=>by simp at h
theorem Rz{arr:Array Value}{pre mid post:List Value}(h:arr.toList=pre++(mid++post)){j:Nat}(hj:j<mid.length):arr.toList[pre.length+j]? = mid[j]?:=by rw[h,aSa (by omega),bea,aUa hj]
section
variable {st t s st':St} {al:AL} {told:Nat→Option (Option Nat)} {lJ oW:Nat→Option Nat} {X:mW} {G G3:Gh} {w w':World}
theorem HX.le(hM:HX st t s st' al told lJ oW)(hS:∀ b o,G.S b=some o→G3.S b=some o){l:ai}{v:Value}(hm:∀ a k,told a=some k→l.dj true a=false)(hn:∀ q k,oW q=some k→l.dj false q=false)(r:aY G l v):aY (G.iR G3 told lJ oW) l v:=by
 cases l with
 |any=>trivial
 |vb=>trivial
 |vU=>exact r
 |fy t d=>obtain⟨cs,e,hr⟩:=r;exact⟨cs,e,hr.mono hS⟩
 |nil=>exact r
 |J7=>exact r
 |mX a=>
  show v=(G.iR G3 told lJ oW).ψ a;have:told a=none:=by
   cases h:told a with
   |none=>rfl
   |some k=>have:=hm a k h;simp[ai.dj] at this
  simp only[Gh.iR,this];exact r
 |lB o off=>
  have:oW o=none:=by
   cases h:oW o with
   |none=>rfl
   |some k=>have:=hn o k h;simp[ai.dj] at this
  simp only[aY,Gh.iR,this];exact r
 |DX a sz i off=>
  have:told a=none:=by
   cases h:told a with
   |none=>rfl
   |some k=>have:=hm a k h;simp[ai.dj] at this
  simp only[aY,Gh.iR,this];exact r
 |Pa t d off=>obtain⟨b,arr,elem,fz,pre,cs,post,h1,h2,h3,h4⟩:=r;exact⟨b,arr,elem,fz,pre,cs,post,hS _ _ h1,h2,h3.mono hS,h4⟩
 |fn f=>exact r
 |E5 a vr sz i off=>
  have hn:told a=none:=by
   cases h:told a with
   |none=>rfl
   |some k=>have:=hm a k h;simp[ai.dj] at this
  exact vX.AB r (by simp only[Gh.iR,hn]) (by simp only[Gh.iR];split<;>omega) (fun v hv=>by simp only[Gh.iR,hn];split<;>simp[hv])
 |nse a vr sz i off sz2 j To=>
  have hn:told a=none:=by
   cases h:told a with
   |none=>rfl
   |some k=>have:=hm a k h;simp[ai.dj] at this
  obtain⟨b2,J1,Lf,h1,h2⟩:=r;exact⟨b2,J1,Lf,vX.AB h1 (by simp only[Gh.iR,hn]) (by simp only[Gh.iR];split<;>omega) (fun v hv=>by simp only[Gh.iR,hn];split<;>simp[hv]),h2⟩
 |LP a kk n=>
  have hn:told a=none:=by
   cases h:told a with
   |none=>rfl
   |some k=>have:=hm a k h;simp[ai.dj] at this
  simp only[aY,Gh.iR,hn];exact r
 |ga t l=>obtain⟨b,arr,elem,fz,cs,rest,h1,h2,h3,h4⟩:=r;exact⟨b,arr,elem,fz,cs,rest,hS _ _ h1,h2,h3.El hS,h4⟩
theorem HX.leV(hM:HX st t s st' al told lJ oW)(hS:∀ b o,G.S b=some o→G3.S b=some o){x:af}{v:Value}(hm:∀ a k,told a=some k→x.dj true a=false)(hn:∀ q k,oW q=some k→x.dj false q=false)(r:aU G x v):aU (G.iR G3 told lJ oW) x v:=by
 have fG:∀{ls:List ai} {vs:List Value},(∀ a k,told a=some k→ls.any (ai.dj true a)=false)→(∀ a k,oW a=some k→ls.any (ai.dj false a)=false)→All2 (aY G) ls vs→All2 (aY (G.iR G3 told lJ oW)) ls vs:=fun {ls vs} h h' hr=>
  hr.vp fun l v hl B9=>hM.le hS (fun a k hk=>by have:=aTa.1 (h a k hk) l hl;simpa using this) (fun a k hk=>by have:=aTa.1 (h' a k hk) l hl;simpa using this) B9
 cases x with
 |one l=>exact hM.le hS hm hn r
 |agg ls=>obtain⟨cs,e,hr⟩:=r;exact⟨cs,e,fG hm hn hr⟩
 |KN vs=>
  obtain⟨us,e,hr⟩:=r;refine⟨us,e,hr.vp fun p u hp Nb=>?_⟩;have hm':∀ a k,told a=some k→p.2.any (ai.dj true a)=false:=fun a k hk=>by have:=aTa.1 (hm a k hk) p hp;simpa using this
  have hn':∀ a k,oW a=some k→p.2.any (ai.dj false a)=false:=fun a k hk=>by have:=aTa.1 (hn a k hk) p hp;simpa using this
  split at Nb
  ·rename_i hc;simp only[hc,ava];obtain⟨cs,e,hr⟩:=Nb;exact⟨cs,e,fG hm' hn' hr⟩
  ·rename_i hc
   obtain⟨l,e,hr⟩:=Nb;simp only[bCa] at hc;simp only[hc,asa,aka];exact⟨l,e,hM.le hS (fun a k hk=>by have:=hm' a k hk;rw[e] at this;simpa using this) (fun a k hk=>by have:=hn' a k hk;rw[e] at this;simpa using this) hr⟩
 |Au t ls=>obtain⟨u,cs,e1,e2,hr⟩:=r;exact⟨u,cs,e1,e2,fG hm hn hr⟩
theorem HX.eH(hM:HX st t s st' al told lJ oW)(hS:∀ b o,G.S b=some o→G3.S b=some o){act:Act}(hr:bQ G st act):bQ (G.iR G3 told lJ oW) st' act:=
 ⟨hr.1,hr.2.1.trans hM.n.symm,fun i v hv=>by
  rw[hM.iz] at hv;exact hM.leV hS (fun a k hk=>BA (hM.F0 a k hk) hv) (fun q k hk=>BA (hM.Ep q k hk).2.1 hv) (hr.2.2 i v hv)⟩
theorem HX.ok(hM:HX st t s st' al told lJ oW)(hm:aB X st G w)(jK:∀ x b,fq (G.uO al) t x b→∃ x',fq G st x' b∧((∃ o,x=(false,o)∧x' = (false,o))∨∃ nm a A,x=(true,nm)∧x' = (true,a)∧look al nm=some (some a,A)))
  {X':mW} (Ar:aB X' t (G.uO al) w) (h3:aB (wY t (G.uO al) w) s G3 w') (Iu:∀ a k,lJ a=some k→told a=none→G3.ψ k=G.ψ a):aB X st' (G.iR G3 told lJ oW) w':=by
 have hS:∀ b o,G.S b=some o→G3.S b=some o:=h3.s0;have hφ:∀ q tl,t.dT q=some tl→G3.φ q=G.φ q∧G3.pre q=G.pre q∧G3.post q=G.post q:=fun q tl hq=>by obtain⟨bf,_,_⟩:=hM.abR q tl hq;have:=(h3.pin q _ (PN bf hq)).2;simp only[aia] at this;exact⟨this.1.symm,this.2.1.symm,this.2.2.symm⟩
 have hφ2:∀ q tl,t.dT q=some tl→G3.φ q=G.φ q∧G3.pre q=G.pre q:=fun q tl hq=>⟨(hφ q tl hq).1,(hφ q tl hq).2.1⟩;have ae0:∀ q ls,st.dT q=some ls→oW q=none:=fun q ls h=>by
  cases hn:oW q with
  |none=>rfl
  |some k=>rw[(hM.Ep q k hn).1] at h;cases h
 have bφ:∀ q ls,st.dT q=some ls→(G.iR G3 told lJ oW).φ q=G.φ q∧(G.iR G3 told lJ oW).pre q=G.pre q∧(G.iR G3 told lJ oW).post q=G.post q:=fun q ls h=>by simp[Gh.iR,ae0 q ls h]
 have cls:∀ x b,fq (G.iR G3 told lJ oW) st' x b→(fq G st x b∧∀ y,¬ fq (G.uO al) t y b)∨
   ∃ x3,fq G3 s x3 b∧((∃ q q3,x=(false,q)∧x3=(false,q3)∧((q3=q∧∃ tl,t.dT q=some tl)∨oW q=some q3))∨(∃ a k,x=(true,a)∧x3=(true,k)∧told a=some (some k))∨∃ a k,x=(true,a)∧x3=(true,k)∧lJ a=some k):=fun x b hx=>by
  obtain⟨kk,n⟩:=x;cases kk with
  |false=>
   obtain⟨⟨xG,hl⟩,rfl⟩:=hx;rcases hM.dT n xG hl with ⟨h1,h2⟩|⟨ls,tl,sl,h1,h2,h4,_⟩|⟨k,sl,h1,h2,_⟩
   ·rw[(bφ n xG h2).1]
    refine .inl ⟨⟨⟨xG,h2⟩,rfl⟩,fun y hy=>?_⟩;obtain⟨y',F7,c⟩:=jK y _ hy;have e:=hm.qw (false,n) y' _ ⟨⟨xG,h2⟩,rfl⟩ F7;rcases c with ⟨o,rfl,rfl⟩|⟨nm,a,A,rfl,rfl,_⟩
    ·simp only[aia,aYa] at e
     subst e;obtain⟨⟨tl,ht⟩,_⟩:=hy;rw[h1] at ht;cases ht
    ·simp at e
   ·rw[(bφ n ls h1).1]
    exact .inr ⟨(false,n),⟨⟨sl,h4⟩,(hφ n tl h2).1.symm⟩,.inl ⟨n,n,rfl,rfl,.inl ⟨rfl,tl,h2⟩⟩⟩
   ·exact .inr ⟨(false,k),⟨⟨sl,h2⟩,by simp[Gh.iR,h1]⟩,.inl ⟨n,k,rfl,rfl,.inr h1⟩⟩
  |true=>
   obtain⟨⟨A,hA,hs⟩,p,hp,rfl⟩:=hx;rcases hM.arr n A hA with ⟨k,h1,h2,h4,_⟩|⟨h1,_⟩|⟨k,h0,h1,h2,h4,h5,_⟩|⟨h0,h1,h2,h4⟩
   ·simp only[Gh.iR,h1] at hp
    exact .inr ⟨(true,k),⟨⟨A,h2,hs⟩,p,hp,rfl⟩,.inr (.inl ⟨n,k,rfl,rfl,h1⟩)⟩
   ·simp only[Gh.iR,h1] at hp;cases hp
   ·simp only[Gh.iR,h0,h1] at hp
    exact .inr ⟨(true,k),⟨⟨A,h4,hs⟩,p,hp,rfl⟩,.inr (.inr ⟨n,k,rfl,rfl,h1⟩)⟩
   ·simp only[Gh.iR,h0,h1] at hp
    have ho:fq G st (true,n) p.1:=⟨⟨A,h2,hs⟩,p,hp,rfl⟩;refine .inl ⟨ho,fun y hy=>?_⟩;obtain⟨y',F7,c⟩:=jK y _ hy;have e:=hm.qw (true,n) y' _ ho F7;rcases c with ⟨o,rfl,rfl⟩|⟨nm,a,B,rfl,rfl,hl⟩
    ·simp at e
    ·simp only[aia,aYa] at e
     subst e;rcases h4 with h4|h4
     ·rw[hs] at h4;cases h4
     ·exact h4 nm B hl
 have tZ:∀ b,b<w.heap.size→(∀ y,¬ fq (G.uO al) t y b)→w'.heap[b]? = w.heap[b]?:=fun b hb hn=>h3.fr b hb (fun⟨y,hy⟩=>hn y hy);have hin:∀ x3 b,fq G3 s x3 b→(∃ x',fq G st x' b)∨w.heap.size≤b:=fun x3 b hx=>by
  rcases h3.ua x3 b hx with ⟨y,hy⟩|h
  ·obtain⟨y',F7,_⟩:=jK y b hy;exact .inl ⟨y',F7⟩
  ·exact .inr h
 refine {sl:=fun a=>?_,sh:=h3.sh,ob:=fun q xG hq=>?_,ar:=fun a A hA=>?_,ah:=fun a A hA hs p hp=>?_,nd:=fun a A hA hs=>?_,qw:=fun x y b hx hy=>?_,dS:=fun x b hx=>?_,ua:=fun x b hx=>?_,s0:=fun b o h=>hS b o (hm.s0 b o h),sn:=fun b o h=>?_,fr:=fun b hb hn=>?_,sz:=bGa hm.sz h3.sz,os:=h3.os.trans hm.os,tp:=h3.tp.trans hm.tp,out:=h3.out.trans hm.out,pin:=fun q p hp=>?_,bv:=fun q j u hu=>?_,ap:=fun a u hu=>(by obtain⟨h1,⟨A,h2⟩,h3⟩:=hm.ap a u hu;obtain⟨h4,h5⟩:=hM.ap a A h1 h2;exact⟨by rw[hM.pn];exact h1,h5,by simp[Gh.iR,h4,h3]⟩),hv:=fun a=>(by rw[hM.vr a];simp only[Gh.iR,hm.hv a]),ds:=hm.ds,hh:=fun a A hA hs hn=>?_}
 ·show SlV (match told a with|some (some k)=>G3.ψ k|some none=>.slice none 0 0|none=>G.ψ a)
  split
  ·exact h3.sl _
  ·exact .inl ⟨_,_,_,rfl⟩
  ·exact hm.sl _
 ·rcases hM.dT q xG hq with ⟨h1,h2⟩|⟨ls,tl,sl,h1,h2,h4,e1,e2,e3,hj⟩|⟨k,sl,h1,h2,e1,hj⟩
  ·obtain⟨arr,elem,mid,g1,g2,g3⟩:=hm.ob q xG h2
   have bf:=fq.lt hm (x:=(false,q)) ⟨⟨xG,h2⟩,rfl⟩;have wK:∀ y,¬ fq (G.uO al) t y (G.φ q):=fun y hy=>by
    rcases cls (false,q) (G.φ q) ⟨⟨xG,hq⟩,(bφ q xG h2).1.symm⟩ with ⟨_,h⟩|⟨x3,hx3,c⟩
    ·exact h y hy
    ·obtain⟨y',F7,c'⟩:=jK y _ hy
     have e:=hm.qw (false,q) y' _ ⟨⟨xG,h2⟩,rfl⟩ F7;rcases c' with ⟨o,rfl,rfl⟩|⟨nm,a,A,rfl,rfl,_⟩
     ·simp only[aia,aYa] at e
      subst e;obtain⟨⟨tl,ht⟩,_⟩:=hy;rw[h1] at ht;cases ht
     ·simp at e
   obtain⟨b1,b2,b3⟩:=bφ q xG h2;refine⟨arr,elem,mid,by rw[b1,tZ _ bf wK];exact g1,by rw[b2,b3];exact g2,?_⟩
   unfold ix at g3 ⊢;rw[kh (st:=st) (fun j l=>by cases l<;>simp[St.res,hM.bl])]
   refine g3.vp fun l v hl B9=>hM.le hS (fun a k hk=>?_) (fun a k hk=>?_) B9
   ·have:=aTa.1 (sx (hM.F0 a k hk) h2 0) l hl
    simpa using this
   ·have:=aTa.1 (sx (hM.Ep a k hk).2.1 h2 0) l hl
    simpa using this
  ·obtain⟨arr,elem,mid,g1,g2,g3⟩:=h3.ob q sl h4
   obtain⟨f1,f2,f3⟩:=hφ q tl h2;obtain⟨bf,_,_⟩:=hM.abR q tl h2;have hml:mid.length=sl.length:=by have:=All2.length g3;rw[iX] at this;exact this.symm
   obtain⟨b1,b2,b3⟩:=bφ q ls h1;refine⟨arr,elem,mid,by rw[b1,←f1];exact g1,by rw[b2,b3];rw[f2,f3] at g2;exact g2,?_⟩
   refine All2.U0 (by rw[iX];omega) fun j x y hx hy=>?_
   rw[sG,aKa] at hx;obtain⟨l',LY,rfl⟩:=hx;rw[aWa];have hjl:j<xG.length:=(ama.1 LY).1;have Oj:ls[j]? = some ls[j]:=bja (by omega)
   have L0:sl[j]? = some sl[j]:=bja (by omega)
   rcases hj j l' ls[j] sl[j] LY Oj L0 with ⟨e,hb,lf,hlf⟩|hB
   ·obtain⟨yp,rK,u,q1,q2,q3⟩:=Nl Ar bf h2 hlf hb
    obtain⟨_,_,acU,ab8,q4,q5⟩:=h3.bv q j u q3;rw[g1] at q4;cases q4;have hyu:y=u:=by rw[Rz g2 (by omega),hy] at q5;exact bva q5
    obtain⟨Yn,YE,agL,p1,p2,p3⟩:=hm.ob q ls h1;have q1:w.heap[G.φ q]? = some (.cells yp rK (0,0)):=q1;have q2:yp.toList[(G.pre q).length+j]? = some u:=q2;rw[p1] at q1;cases q1;have ahf:agL.length=ls.length:=by have:=All2.length p3;rw[iX] at this;exact this.symm
    rw[Rz p2 (by omega)] at q2
    obtain⟨u',hu',hr'⟩:=All2.vJ (i:=j) p3 (by rw[sG,Oj];rfl)
    rw[q2] at hu';cases hu';rw[aWa] at hr';rw[e,hyu];refine hM.le hS (fun a k hk=>?_) (fun a k hk=>?_) hr'
    ·have:=aTa.1 (sx (hM.F0 a k hk) h1 0) (st.res q j ls[j]) (a2a (i:=j) (by rw[sG,Oj];simp))
     simpa using this
    ·have:=aTa.1 (sx (hM.Ep a k hk).2.1 h1 0) (st.res q j ls[j]) (a2a (i:=j) (by rw[sG,Oj];simp))
     simpa using this
   ·obtain⟨u',hu',hr'⟩:=All2.vJ (i:=j) g3 (by rw[sG,L0];rfl)
    rw[hy] at hu';cases hu';rw[aWa] at hr';exact hB G G3 _ ⟨_,_,h3⟩ hφ2 hr'
  ·obtain⟨arr,elem,mid,g1,g2,g3⟩:=h3.ob k sl h2
   refine⟨arr,elem,mid,by simp only[Gh.iR,h1];exact g1,by simp only[Gh.iR,h1];exact g2,?_⟩
   have hml:mid.length=sl.length:=by have:=All2.length g3;rw[iX] at this;exact this.symm
   refine All2.U0 (by rw[iX];omega) fun j x y hx hy=>?_
   rw[sG,aKa] at hx;obtain⟨l',LY,rfl⟩:=hx;rw[aWa];have hjl:j<xG.length:=(ama.1 LY).1;have L0:sl[j]? = some sl[j]:=bja (by omega)
   obtain⟨u',hu',hr'⟩:=All2.vJ (i:=j) g3 (by rw[sG,L0];rfl)
   rw[hy] at hu';cases hu';rw[aWa] at hr';exact hj j l' sl[j] LY L0 G G3 _ ⟨_,_,h3⟩ hφ2 hr'
 ·rcases hM.arr a A hA with ⟨k,h1,h2,h4,h6⟩|⟨h1,h2,h4,h6⟩|⟨k,h0,h1,h2,h4,h5,h6⟩|⟨h0,h1,h2,h4⟩
  ·exact(h3.ar k A h2).mono (G:=G3) (a:=k) (G':=G.iR G3 told lJ oW) (a':=a) (fun _ _ h=>h) (by simp[Gh.iR,h1]) (by simp[Gh.iR,h1]) (fun i o e=>absurd e (h6 i o))
  ·exact(ig h4 h6).2 (.inl ⟨h2,by simp[Gh.iR,h1],by simp[Gh.iR,h1]⟩)
  ·exact(h3.ar k A h4).mono (G:=G3) (a:=k) (G':=G.iR G3 told lJ oW) (a':=a) (fun _ _ h=>h) (by simp[Gh.iR,h0];exact(Iu a k h1 h0).symm) (by simp[Gh.iR,h0,h1]) (fun i o e=>absurd e (h6 i o))
  ·refine(hm.ar a A h2).mono (G:=G) (a:=a) (G':=G.iR G3 told lJ oW) (a':=a) hS (by simp[Gh.iR,h0]) (by simp[Gh.iR,h0,h1]) (fun i o e=>?_)
   have wK:oW o=none:=by
    cases hn:oW o with
    |none=>rfl
    |some k=>exact absurd rfl (EZ (hM.Ep o k hn).2.1 h2 e)
   simp[Gh.iR,wK]
 ·have hx:fq (G.iR G3 told lJ oW) st' (true,a) p.1:=⟨⟨A,hA,hs⟩,p,hp,rfl⟩
  rcases hM.arr a A hA with ⟨k,h1,h2,h4,h6⟩|⟨h1,h2,h4,h6⟩|⟨k,h0,h1,h2,h4,h5,h6⟩|⟨h0,h1,h2,h4⟩
  ·simp only[Gh.iR,h1] at hp;exact h3.ah k A h2 hs p hp
  ·simp only[Gh.iR,h1] at hp;cases hp
  ·simp only[Gh.iR,h0,h1] at hp;exact h3.ah k A h4 hs p hp
  ·have As:p∈G.HA a:=by simpa only[Gh.iR,h0,h1] using hp
   rcases cls _ _ hx with ⟨g1,g2⟩|⟨x3,_,c⟩
   ·rw[tZ _ (fq.lt hm g1) g2];exact hm.ah a A h2 hs p As
   ·rcases c with ⟨q,q3,e,_⟩|⟨a',k,e,_,ha⟩|⟨a',k,e,_,ha⟩<;>simp only[aia,aYa,reduceCtorEq,false_and] at e
    ·subst e;rw[h0] at ha;cases ha
    ·subst e;rw[h1] at ha;cases ha
 ·rcases hM.arr a A hA with ⟨k,h1,h2,h4,h6⟩|⟨h1,h2,h4,h6⟩|⟨k,h0,h1,h2,h4,h5,h6⟩|⟨h0,h1,h2,h4⟩
  ·simp only[Gh.iR,h1];exact h3.nd k A h2 hs
  ·simp only[Gh.iR,h1];exact cba
  ·simp only[Gh.iR,h0,h1];exact h3.nd k A h4 hs
  ·simp only[Gh.iR,h0,h1];exact hm.nd a A h2 hs
 ·rcases cls x b hx with ⟨h1,h2⟩|⟨x3,h1,c1⟩<;>rcases cls y b hy with ⟨k1,k2⟩|⟨y3,k1,c2⟩
  ·exact hm.qw x y b h1 k1
  ·rcases h3.ua y3 b k1 with ⟨z,hz⟩|h
   ·exact absurd hz (h2 z)
   ·have:=fq.lt hm h1;have h:w.heap.size≤b:=h;omega
  ·rcases h3.ua x3 b h1 with ⟨z,hz⟩|h
   ·exact absurd hz (k2 z)
   ·have:=fq.lt hm k1;have h:w.heap.size≤b:=h;omega
  ·have e:=h3.qw x3 y3 b h1 k1
   rcases c1 with ⟨q,q3,rfl,rfl,hq⟩|⟨a,k,rfl,rfl,ha⟩|⟨a,k,rfl,rfl,ha⟩<;>rcases c2 with ⟨q',q3',rfl,rfl,Ix⟩|⟨a',k',rfl,rfl,ha'⟩|⟨a',k',rfl,rfl,ha'⟩<;>simp only[aia,aYa,reduceCtorEq,false_and] at e
   ·subst e
    rcases hq with ⟨e1,tl,h5⟩|hq<;>rcases Ix with ⟨e2,tl',h6⟩|Ix
    ·rw[←e1,←e2]
    ·rw[←e1,(hM.Ep q' q3 Ix).2.2] at h5;cases h5
    ·rw[←e2,(hM.Ep q q3 hq).2.2] at h6;cases h6
    ·rw[hM.afs q q' q3 hq Ix]
   ·subst e;rw[hM.ti a a' k ha ha']
   ·subst e;exact absurd ha' (hM.tk a a' k ha)
   ·subst e;exact absurd ha (hM.tk a' a k ha')
   ·subst e;rw[hM.ki a a' k ha ha']
 ·rcases cls x b hx with ⟨h1,h2⟩|⟨x3,h1,c1⟩
  ·cases hc:G3.S b with
   |none=>exact hc
   |some o=>
    rcases h3.sn b o hc with h|⟨y,hy⟩|h
    ·have:=hm.dS x b h1;rw[show G.S b=some o from h] at this;cases this
    ·exact absurd hy (h2 y)
    ·have:=fq.lt hm h1;have h:w.heap.size≤b:=h;omega
  ·exact h3.dS x3 b h1
 ·rcases cls x b hx with ⟨h1,h2⟩|⟨x3,h1,c1⟩
  ·exact hm.ua x b h1
  ·rcases hin x3 b h1 with ⟨x',EV⟩|h
   ·exact hm.ua x' b EV
   ·have:=hm.sz;exact .inr (by omega)
 ·rcases h3.sn b o h with h|⟨y,hy⟩|h
  ·exact hm.sn b o h
  ·obtain⟨y',F7,_⟩:=jK y b hy
   rcases hm.ua y' b F7 with h|h
   ·exact .inr (.inl h)
   ·exact .inr (.inr h)
  ·have:=hm.sz;have h:w.heap.size≤b:=h;exact .inr (.inr (by omega))
 ·rw[tZ b (by have:=hm.sz;omega) (fun y hy=>by
   obtain⟨y',F7,_⟩:=jK y b hy;rcases hm.ua y' b F7 with h|h
   ·exact hn h
   ·omega)]
  exact hm.fr b hb hn
 ·obtain⟨⟨ls,h1⟩,h2⟩:=hm.pin q p hp
  obtain⟨b1,b2,b3⟩:=bφ q ls h1;exact⟨hM.V4 q ls h1,by rw[b1,b2,b3];exact h2⟩
 ·obtain⟨⟨lf,h1⟩,⟨ls,h2,h4⟩,yp,rK,h5,h6⟩:=hm.bv q j u hu
  obtain⟨xG,k1,k2,k3⟩:=hM.vb q j ls lf h2 h4 h1;refine⟨⟨lf,by rw[hM.bl];exact h1⟩,⟨xG,k1,k2⟩,?_⟩
  obtain⟨b1,b2,b3⟩:=bφ q ls h2;rw[b1,b2];rcases k3 with k3|⟨tl,lf',k3,k4,k5⟩
  ·have hx:fq (G.iR G3 told lJ oW) st' (false,q) (G.φ q):=⟨⟨xG,k1⟩,b1.symm⟩
   refine⟨yp,rK,?_,h6⟩;rcases cls _ _ hx with ⟨g1,g2⟩|⟨x3,g1,c⟩
   ·rw[tZ _ (fq.lt hm g1) g2];exact h5
   ·have wK:∀ y,¬ fq (G.uO al) t y (G.φ q):=fun y hy=>by
     obtain⟨y',F7,c'⟩:=jK y _ hy;have e:=hm.qw (false,q) y' _ ⟨⟨ls,h2⟩,rfl⟩ F7;rcases c' with ⟨o,rfl,rfl⟩|⟨nm,a,A,rfl,rfl,_⟩
     ·simp only[aia,aYa] at e
      subst e;obtain⟨⟨tl,ht⟩,_⟩:=hy;rw[k3] at ht;cases ht
     ·simp at e
    rw[tZ _ (fq.lt hm (x:=(false,q)) ⟨⟨ls,h2⟩,rfl⟩) wK];exact h5
  ·obtain⟨f1,f2,f3⟩:=hφ q tl k3
   obtain⟨bf,_,_⟩:=hM.abR q tl k3;obtain⟨acU,ab8,u',q1,q2,q3⟩:=Nl Ar bf k3 k5 k4;have q1:w.heap[G.φ q]? = some (.cells acU ab8 (0,0)):=q1;have q2:acU.toList[(G.pre q).length+j]? = some u':=q2;rw[h5] at q1;cases q1;rw[h6] at q2;cases q2;obtain⟨_,_,Yn,YE,q4,q5⟩:=h3.bv q j u q3;exact⟨Yn,YE,by rw[←f1];exact q4,by rw[←f2];exact q5⟩
 ·rcases hM.arr a A hA with ⟨k,h1,_⟩|⟨h1,_⟩|⟨k,h0,h1,_⟩|⟨h0,h1,h2,h4⟩
  ·simp only[Gh.iR,h1]
  ·simp only[Gh.iR,h1,kI]
  ·simp only[Gh.iR,h0,h1];rw[aBa (by omega)]
  ·simp only[Gh.iR,h0,h1];exact hm.hh a A h2 hs hn
end
end Go.Fx
namespace Go.Fx
noncomputable def yr(E:tr)(c:Code):List (Code×lM):=
 Code.rec (motive:=fun _=>List (Code×lM)) [] (fun id ops draw=>bif draw then(match E.oE (id+1000000) with|some L=>[(.region id ops true,L)]|none=>[]) else []) (fun _ _ x y=>x++y) (fun _ _ _ x y=>x++y)
  (fun id b x=>match E.oE id with|some L=>[(.block id b,L)]|none=>x) (fun _ _=>[]) (fun _ _ _ _ _ _=>[])
  (fun _=>[]) (fun _ _=>[]) (fun _=>[]) (fun _=>[]) [] (fun _=>[]) c
theorem UT{P:Program}{E:tr}{c:Code}:(∀ x∈yr E c,u9 P E.gt x.1 x.2)→ta P E c:=by
 induction c with
 |seq a b Nj ihb=>intro h;exact⟨Nj fun x hx=>h x (aya _ hx),ihb fun x hx=>h x (ara _ hx)⟩
 |cond c a b Nj ihb=>intro h;exact⟨Nj fun x hx=>h x (aya _ hx),ihb fun x hx=>h x (ara _ hx)⟩
 |region id ops draw=>
  intro h;cases draw with
  |false=>trivial
  |true=>
   have h:∀ x∈(match E.oE (id+1000000) with|some L=>[((.region id ops true:Code),L)]|none=>[]),u9 P E.gt x.1 x.2:=h
   show(match true,E.oE (id+1000000) with|true,some L=>u9 P E.gt (.region id ops true) L|_,_=>True)
   cases hl:E.oE (id+1000000) with
   |some L=>rw[hl] at h;exact h (_,L) (by simp)
   |none=>trivial
 |block id b ih=>
  intro h;have h:∀ x∈(match E.oE id with|some L=>[((.block id b:Code),L)]|none=>yr E b),u9 P E.gt x.1 x.2:=h
  show(match E.oE id with|some L=>QD P E.gt id b L|none=>ta P E b)
  cases hl:E.oE id with
  |some L=>rw[hl] at h;exact h (_,L) (by simp)
  |none=>rw[hl] at h;exact ih h
 |_=>intro _;trivial
theorem Rw{P:Program}{E:tr}{c:Code}{l:List (Code×lM)}(e:yr E c=l)(h:∀ x∈l,u9 P E.gt x.1 x.2):ta P E c:=UT (by rw[e];exact h)
end Go.Fx
namespace Go.Fx
open Go.RowKit (Below)
def Ty.Ay:Ty→Bool
 |.int _=>true | .bool=>true | .str=>true|_=>false
def abL:(t:Ty)→t.nM→Value
 |.int k,n=>.int k n
 |.bool,b=>.bool b
 |.str,s=>kz s
 |_,_=>undef
def Jg:(ts:List Ty)→DL ts→List Value
 |[],_=>[]
 |t::r,d=>abL t d.1::Jg r d.2
theorem BI{G:Gh}{t:Ty}(ht:t.Ay=true){d:t.nM}{v:Value}:aY G (.fy t d) v↔v=abL t d:=by
 have fwd:∀{t:Ty} {d:t.nM},t.agg=false→(∀ cs,gy G.S false t cs d []→cs=[abL t d])→aY G (.fy t d) v→v=abL t d:=fun {t d} ha hr h=>by obtain⟨cs,e1,e2⟩:=h;simp only[ha,asa,aka] at e1;have:=hr cs e2;rw[e1] at this;simpa using this
 cases t with
 |int k=>exact⟨fwd rfl fun cs h=>h.1,fun h=>by subst h;exact kX k d⟩
 |bool=>exact⟨fwd rfl fun cs h=>h.1,fun h=>by subst h;exact oN d⟩
 |str=>exact⟨fwd rfl fun cs h=>h.1,fun h=>by subst h;exact Kh d⟩
 |_=>simp[Ty.Ay] at ht
theorem Qw{G:Gh}:∀{ts:List Ty} {d:DL ts} {vs:List Value},(ts.all Ty.Ay)=true→Af G ts d vs→vs=Jg ts d
 |[],d,[],_,_=>rfl
 |t::r,d,v::vs,h,hd=>by simp only[bqa,Q3] at h;rw[Jg,(BI h.1).1 hd.1,Qw h.2 hd.2]
 |[],d,_::_,_,h=>h.elim
 |_::_,d,[],_,h=>h.elim
theorem Qv{G:Gh}:∀{ts:List Ty} {d:DL ts},(ts.all Ty.Ay)=true→Af G ts d (Jg ts d)
 |[],d,_=>trivial
 |t::r,d,h=>by simp only[bqa,Q3] at h;exact⟨(BI h.1).2 rfl,Qv h.2⟩
theorem aB.aeo{X:mW}{st:St}{G:Gh}{w w':World}(hm:aB X st G w)(hb:Below w.heap.size w w'):aB X st G w':=by
 have tZ:∀{b:Nat} {o:Obj},w.heap[b]? = some o→w'.heap[b]? = some o:=fun {b o} h=>by rw[hb.block b (gn h)];exact h
 exact {sl:=hm.sl,sh:=fun b o h=>tZ (hm.sh b o h),ob:=fun o ls h=>(by obtain⟨arr,elem,mid,g1,g2,g3⟩:=hm.ob o ls h;exact⟨arr,elem,mid,tZ g1,g2,g3⟩),ar:=hm.ar,ah:=fun a A h hs p hp=>tZ (hm.ah a A h hs p hp),nd:=hm.nd,qw:=hm.qw,dS:=hm.dS,ua:=hm.ua,s0:=hm.s0,sn:=hm.sn,fr:=fun b h1 h2=>(by rw[hb.block b (by have:=hm.sz;omega)];exact hm.fr b h1 h2),sz:=bGa hm.sz hb.size,os:=hb.os.trans hm.os,tp:=hb.tape.trans hm.tp,out:=hb.output.trans hm.out,pin:=hm.pin,bv:=fun o j u h=>(by obtain⟨h1,h2,yp,rK,h4,h5⟩:=hm.bv o j u h;exact⟨h1,h2,yp,rK,tZ h4,h5⟩),ap:=hm.ap,hv:=hm.hv,ds:=hm.ds,hh:=hm.hh}
theorem Qm:∀{ts:List Ty},ts.all Ty.Ay=true→ts.all Ty.yZ=true
 |[],_=>rfl
 |t::r,h=>by simp only[bqa,Q3] at h ⊢;exact⟨by cases t<;>simp_all[Ty.Ay,Ty.yZ],Qm h.2⟩
theorem EH{P:Program}{gt:Nat→Option GA}{f:FuncId}{ts rs:List Ty}{W:Type}{F:DL ts→Option W}{dec:W→DL rs}(hts:ts.all Ty.Ay=true)(hrs:rs.all Ty.Ay=true)(Bg:∀ args w,(callFunc f args).run P w=.ok (.enter f args) w)
  (h:∀ d y w,nL gt (fun b=>w.heap[b]?)→F d=some y→Calls P f (Jg ts d).toArray w fun e w'=>e=.returned (Hv (Jg rs (dec y)))∧Below w.heap.size w w'):AZ P gt f (Az ts rs F dec):=by
 intro R r X st G w dst args vs K KP hr zt hm _ ha;simp only[Az,Qm hrs,aja] at hr;split at hr
 ·rename_i wR hs
  split at hr
  ·rename_i d hd
   obtain⟨y,hx,hr⟩:=ata.1 hr;obtain⟨G1,m1,a1,k1⟩:=zf hs hm;have hdr:=D5 m1 hd (ha.imp fun a v h=>h.sub a1);have hv:=Qw hts hdr;subst hv;refine⟨Bg _ _,(h d y w (zt.mono fun b o hb=>hm.sh b o (hm.s0 b o hb)) hx).mono fun e w' ⟨he,hb⟩=>?_⟩;subst he;exact⟨_,st,G,hm.aeo hb,fun act ra=>ra,L8 (Qv hrs),hr⟩
  ·cases hr
 ·cases hr
end Go.Fx
namespace Go.Fx
open Go.RowKit (Below)
theorem aB.toBelow{S:Du}{st:St}{G:Gh}{w w':World}(h:aB (SI S w) st G w'):Below w.heap.size w w':=
 ⟨h.os,h.tp,h.out,h.sz,fun k hk=>h.fr k hk (fun h=>h)⟩
theorem MD{P:Program}{f:FuncId}{ts rs:List Ty}{W:Type}{F:DL ts→Option W}{dec:W→DL rs}{gt:Nat→Option GA}(hs:AZ P gt f (Az ts rs F dec))(hrs:rs.all Ty.Ay=true){S:Du}{w:World}(hS:∀ b o,S b=some o→w.heap[b]? = some o)(hg:nL gt S)
  {avs:List af} {vs:List Value} {d:DL ts} {y:W} (hF:F d=some y) (hv:All2 (aU (ghD S)) avs vs) (dz:vQ avs (stD 0 [] ())=some (stD 0 [] ())) (hgv:PB (stD 0 [] ()) ts avs=some d):
  Calls P f vs.toArray w fun e w'=>e=.returned (Hv (Jg rs (dec y)))∧Below w.heap.size w w':=by
 have iM:(Az ts rs F dec).run 0 avs (stD 0 [] ()) (fun av _=>some av) (fun _ _=>none)=some (TF rs (dec y)):=by simp[Az,dz,hgv,hF]
 obtain⟨_,h⟩:=hs iM hg (Vi hS 0 [] ()) ⟨{tmps:=#[],defers:=[]},rfl,rfl,fun i v h=>by cases h⟩ hv
 refine h.mono fun e w' he=>?_;cases e with
 |returned v=>
  obtain⟨av,st',G',h1,h2,h3,h4⟩:=he;cases h4;refine⟨?_,h1.toBelow⟩;have key:∀{rs:List Ty} {x:DL rs},rs.all Ty.Ay=true→aU G' (TF rs x) v→v=Hv (Jg rs x):=by
   intro rs x hrs hv
   match rs,x,hrs,hv with
   |[],x,_,hv=>obtain⟨us,e,h⟩:=hv;cases us with
    |nil=>exact e
    |cons _ _=>exact h.elim
   |[t],x,hrs,hv=>simp only[bqa,Q3] at hrs;exact(BI hrs.1).1 hv
   |t::t2::r,x,hrs,hv=>
    obtain⟨us,e,h⟩:=hv;have KN:∀{rs:List Ty} {x:DL rs} {us:List Value},rs.all Ty.Ay=true→All2 (fun(p:Bool×List ai) u=>if p.1=true then ∃ cs:List Value,u=.agg cs.toArray∧All2 (aY G') p.2 cs else ∃ l,p.2=[l]∧aY G' l u) (abS rs x) us→us=Jg rs x:=by
     intro rs;induction rs with
     |nil=>intro x us _ h;cases us with
      |nil=>rfl
      |cons _ _=>exact h.elim
     |cons t r ih=>
      intro x us hrs h;simp only[bqa,Q3] at hrs;cases us with
      |nil=>exact h.elim
      |cons u us=>
       have h1:=h.1;have ha:t.agg=false:=by cases t<;>simp[Ty.Ay] at hrs<;>rfl
       simp only[ha,asa,aka] at h1;obtain⟨l,e1,e2⟩:=h1;have hl:l=.fy t x.1:=by cases t<;>simp[Ty.Ay] at hrs<;>(simp only[ka,aJa,a7a] at e1;exact e1.symm)
       subst hl;rw[(BI hrs.1).1 e2,ih hrs.2 h.2];rfl
    rw[e,KN hrs h];rfl
  rw[key hrs h3]
 |panicked If=>obtain⟨v,_,_,_,_,_,_,h⟩:=he;cases h
 |outgrown=>exact he.elim
end Go.Fx
namespace Go.Fx
def pv:Nat→List af→List (Nat×af)
 |_,[]=>[]
 |i,v::r=>(i,v)::pv (i+1) r
def CS(n:Nat)(args:List af)(st:St):St:=⟨n,pv 0 args,st.cp,st.cT,[],st.cK,st.gc,st.pin,st.EM⟩
def y4(cp:List (Nat×Nat))(st:St):Bool:=cp.all fun p=>match st.dT p.1 with|some ls=>Nat.beq ls.length p.2|none=>false
def Hk(o:Nat)(cp:List (Nat×Nat)):Bool:=fk o (cp.map (·.1))
def yY(L:qv):Bool:=
 L.cp.all (fun p=>Nat.blt p.1 10000)&&ou (L.cp.map (·.1))&&ou ((L.cs++L.vs).map fun p=>p.1.key) &&
  (L.cs++L.vs).all (fun p=>match p.1 with | .l o _=>Hk o L.cp|_=>true) &&
  L.cs.all (fun p=>match p.1 with | .l _ _=>true|_=>false)
def ZX(pin:List Nat)(b:AL):Bool:=pin.all fun k=>(look b k).isSome
structure aaF(L:qv) where
 c:PV L.cs
 v:PV L.vs
 st:St
 a:AL
 b:AL
def YF(L:qv)(args:List af)(st:St):Option (aaF L):=
 match iT L.cs (CS L.n args st) with
 |none=>none
 |some s=>(match iT L.vs s with
  |none=>none
  |some s=>(match lC s L.cs with
   |none=>none
   |some (c,a)=>(match lC s L.vs with
    |none=>none
    |some (v,b)=>(bif Aj (a++b)&&y4 L.cp s&&yY L&&Nat.ble args.length L.n&&qOk L.vs s&&ZX L.pin b then some ⟨c,v,{st with cT:=s.cT},a,b⟩ else none))))
def O9(L:qv)(al:AL)(told:lm)(news:List (Nat×Nat×Nat))(s:St):Option (PV told):=
 match iT told s with
 |none=>none
 |some s=>(match lC s told with
  |none=>none
  |some (o,b)=>(bif vN s L.cs&&Aj (al++b)&&y4 L.cp s&&y4 (news.map fun p=>(p.1,p.2.1)) s&&qOk told s&&Gc L.pin b then some o else none))
def nmO(dst k:Nat):Nat:=(dst+1) * 1000000000+k
def IP:List (Nat×Nat×Nat)→Nat→Option Nat
 |[],_=>none
 |p::r,o=>bif Nat.beq p.1 o then some p.2.2 else IP r o
def Z9(news:List (Nat×Nat×Nat)):ai→ai
 |.lB o off=>(match IP news o with|some k=>.lB k off|none=>.lB o off)
 |l=>l
def zh(dst:Nat)(pin:List Nat)(news:List (Nat×Nat×Nat))(p:Pl)(s:mT)(x:s.V):ai:=bif fk p.key pin then .any else Z9 news (s.bR (nmO dst p.key) x)
def ju(dst:Nat)(pin:List Nat)(news:List (Nat×Nat×Nat)):(ps:lm)→PV ps→List (Nat×Nat×ai)
 |[],_=>[]
 |(.l o j,s)::r,v=>(o,j,zh dst pin news (.l o j) s v.1)::ju dst pin news r v.2
 |(.r _,_)::r,v=>ju dst pin news r v.2
 |(.q _ _,_)::r,v=>ju dst pin news r v.2
def KG(dst:Nat)(pin:List Nat)(news:List (Nat×Nat×Nat)):(ps:lm)→PV ps→List (Nat×af)
 |[],_=>[]
 |(.r i,s)::r,v=>(i,.one (zh dst pin news (.r i) s v.1))::KG dst pin news r v.2
 |(.l _ _,_)::r,v=>KG dst pin news r v.2
 |(.q _ _,_)::r,v=>KG dst pin news r v.2
def U9(dst:Nat)(pin:List Nat)(news:List (Nat×Nat×Nat)):(ps:lm)→PV ps→List (Nat×Nat×ai)
 |[],_=>[]
 |(.q i j,s)::r,v=>(i,j,zh dst pin news (.q i j) s v.1)::U9 dst pin news r v.2
 |(.r _,_)::r,v=>U9 dst pin news r v.2
 |(.l _ _,_)::r,v=>U9 dst pin news r v.2
def Sq(dst:Nat)(pin:List Nat)(news:List (Nat×Nat×Nat))(ps:lm)(v:PV ps):List (Nat×af):=KG dst pin news ps v++(XO ps ps).map fun p=>(p.1,.agg (qsh (U9 dst pin news ps v) p.1 0 p.2))
def sj(dst:Nat)(pin:List Nat):(ps:lm)→PV ps→List (Nat×jV)
 |[],_=>[]
 |(p,s)::r,v=>(match s.arr v.1 with|some A=>(bif fk p.key pin then sj dst pin r v.2 else(nmO dst p.key,A)::sj dst pin r v.2)|none=>sj dst pin r v.2)
def pg(pin:List Nat)(b:AL):(ps:lm)→PV ps→List (Nat×jV)
 |[],_=>[]
 |(p,s)::r,v=>(match s.arr v.1 with|some A=>(bif fk p.key pin then(match look b p.key with|some (some a,_)=>(a,A)::pg pin b r v.2|_=>pg pin b r v.2) else pg pin b r v.2)|none=>pg pin b r v.2)
def wO(tl:List (Nat×Nat×ai))(cs:lm)(o:Nat):Nat→List ai→List ai
 |_,[]=>[]
 |j,l::r=>(match et tl o j with|some x=>x|none=>bif zr o j cs then l else .any)::wO tl cs o (j+1) r
def LB(tl:List (Nat×Nat×ai))(k:Nat):Nat→Nat→List ai
 |_,0=>[]
 |j,n+1=>(match et tl k j with|some x=>x|none=>.any)::LB tl k (j+1) n
def Kk(b:AL):List Nat:=b.filterMap (·.2.1)
def wM(pin:List Nat)(b:AL):AL:=b.filter fun e=>!fk e.1 pin
def DY(pin:List Nat)(b:AL):AL:=b.filter fun e=>fk e.1 pin
def H4(dst:Nat)(L:qv)(told:lm)(o:PV told)(news:List (Nat×Nat×Nat))(a b:AL)(st:St):St:=
 {st with
  EM:=(Kk (a++DY L.pin b)).map (fun k=>(k,st.dH k+1))++st.EM
  cp:=(news.map fun p=>(p.2.2,LB (ju dst L.pin news told o) p.1 0 p.2.1))++((L.cp.map fun p=>(p.1,wO (ju dst L.pin news told o) L.cs p.1 0 ((st.dT p.1).getD [])))++st.cp)
  cT:=sj dst L.pin told o++(pg L.pin b told o++lu (Kk b) st.cT)}
def Oc:af→Bool×List ai
 |.one (.fy t d)=>(t.agg,ka t d)
 |.one l=>(false,[l])
 |.agg ls=>(true,ls)
 |_=>(false,[.any])
def Qg(l:List (Nat×af))(i:Nat):af:=match look l i with|some v=>v|none=>.one .any
def afz(l:List (Nat×af)):List Nat→af
 |[i]=>Qg l i
 |is=>.KN (is.map fun i=>Oc (Qg l i))
def VE(L:qv)(st:St):Bool:=
 L.cp.all fun p=>(List.range p.2).all fun j=>zr p.1 j L.cs ||(match (st.dT p.1).bind (·[j]?) with|some .vb=>false|_=>true)
def QY(pin:List Nat)(b:AL)(st:St):Bool:=b.all fun e=>match e.2.1 with|some a=>(look st.gc a).isNone&&(fk e.1 pin||!fk a st.pin)|none=>true
def D0(dst:Nat)(L:qv)(told:lm)(o:PV told)(news:List (Nat×Nat×Nat))(st:St):Bool:=
 ou (told.map fun p=>p.1.key)&&(sj dst L.pin told o).all (fun p=>(st.arr p.1).isNone&&!st.dj true p.1) &&
  news.all (fun p=>(st.dT p.2.2).isNone&&!st.dj false p.2.2&&!Hk p.1 L.cp)&&ou (news.map (·.1))&&ou (news.map (·.2.2)) &&
  told.all (fun p=>match p.1 with | .r _=>true | .q _ _=>true | .l q _=>!acf p.1.key L.cs&&(Hk q L.cp||fk q (news.map (·.1)))) &&
  told.all (fun p=>match p.2 with | .lit (.lB q _)=>Hk q L.cp||fk q (news.map (·.1))|_=>true)
where
 acf (k:Nat) (cs:lm):Bool:=fk k (cs.map fun p=>p.1.key)
abbrev DkO(W:Type):Type 1:=(R:Type)→W→((told:lm)→PV told→List (Nat×Nat×Nat)→List Nat→Option R)→(TypeId→List ai→Option R)→Option R
def acQ{W:Type}(dk:DkO W):Prop:=∀ x,(∃ told o news res,∀(R:Type) (f:(told:lm)→PV told→List (Nat×Nat×Nat)→List Nat→Option R) g,dk R x f g=f told o news res)∨
 ∃ T ls,∀(R:Type) (f:(told:lm)→PV told→List (Nat×Nat×Nat)→List Nat→Option R) g,dk R x f g=g T ls
def mg(L:qv){W:Type}(F:PV L.cs→PV L.vs→Option W)(dk:DkO W):iL where
 run dst args st K KP:=(match YF L args st with
  |none=>none
  |some e=>(bif VE L e.st&&QY L.pin e.b e.st then
    (F e.c e.v).bind fun x=>dk _ x (fun told o news res=>bif D0 dst L told o news e.st then K (afz (Sq dst L.pin news told o) res) (H4 dst L told o news e.a e.b e.st) else none)
     (fun T ls=>KP (.Au T ls) (H4 dst L [] () [] e.a e.b e.st))
   else none))
 Lh args st:=(L.cp.flatMap fun p=>((List.range p.2).filter fun j=>!zr p.1 j L.cs).map fun j=>qj.o p.1 j 1)++
  ((L.cp.flatMap fun p=>match st.dT p.1 with|some ls=>fZ (st.kg p.1 0 ls)|none=>[])++nJ args)
theorem T1(L:qv){W:Type}(F:PV L.cs→PV L.vs→Option W)(dk:DkO W)(hdk:acQ dk):pt (mg L F dk):=by
 intro R dst args st K KP;simp only[mg];split
 ·rfl
 ·refine dm (fW fun x=>?_) rfl
  rcases hdk x with ⟨told,o,news,res,h⟩|⟨T,ls,h⟩
  ·rw[h,h];exact dm rfl rfl
  ·rw[h,h];rfl
end Go.Fx
