/- Proved here: laws.FnHuntTries returns true at every input (the tied card), no condition beyond the card. -/
import Derived.Test.YtooajghcoijkaaaGreatDoorCb
import Derived.Test.YtooajghcoijkaaaGreatDoorRows
import Derived.Test.YtooajghcoijkaaaGreatDoorCards
import Derived.Test.YtooajghcoijkaaaGreatDoorTie
import Derived.WalkKit
import Derived.ProofKit
import Derived.OpenShut
import Derived.OpenVars
import Derived.ShutString
import Derived.ChangeOld
import Derived.ChangeArms
import Derived.ChangeMaps5
import Derived.Below
import Derived.Carry
import Derived.SizedLaws
import Derived.Lay
import Derived.LaidMore
import Derived.LaidOnce
import Derived.LaidSub
import Derived.MakeChecks
import Derived.Lib.LaidTab
import Derived.Lib.SmallJoins
import Derived.SevenTiedAt
import Derived.ChangeSlices
import Derived.Barred
import Derived.Test.YtooajghcoijkaaaGreatDoorQb
set_option linter.unusedVariables false
set_option linter.unusedSimpArgs false
set_option linter.unusedSectionVars false
set_option linter.defProp false
set_option maxRecDepth 100000
namespace Go.Fx.R5
open Go Go.Fx Go.Proofs Go.Proofs.YtooajghcoijkaaaGreatDoor Go.ChangeShapes Go.WideShapes Go.ChangeAt Go.RowKit
theorem Pj{H:Type}{enc:TypeId×Value→H}{P:Program}{w:World}{iG:Nat}{sp:Nat→Bool}{ahg:Bool}{F1:Nat}{t e:TypeId}{n:Nat}{cs:List Value}{zs:List ab}{p:List MemPlace}
  (ht:P.underlying t=some (.array n e)) (he:P.underlying e=some .string) (hce:P.cellsOf e=1) (hct:P.cellsOf t=n)
  (h:DataW.trod enc P w iG sp ahg F1 t cs=some (.agg (zs.map fun z=>.lit (.string z)),p)):cs=zs.map kw:=by
 cases F1 with
 |zero=>simp[DataW.trod] at h
 |succ F1=>
  simp only[DataW.trod,ht,hce,hct,Nat.mul_one] at h;split at h
  ·rename_i hl
   obtain⟨xs,hm,hx⟩:=aKa.1 h;have hxs:xs.map (·.1)=zs.map fun z=>(DataW.lit (.string z):DataW H):=by have:=bLa Prod.fst hx;simpa using this
   have hxl:xs.length=n:=by simpa using Lib.mapM_length hm
   have hzl:zs.length=n:=by have:=bLa List.length hxs;simp at this;omega
   apply bHa;intro i;by_cases hi:i<n
   ·obtain⟨b,hb,hf⟩:=Lib.mapM_at hm i i (by simp[hi])
    obtain⟨z,hc,rfl,_⟩:=DataW.trod_string he hf;have h1:cs[i]? = some (.string z):=by
     have:=bLa (·[0]?) hc
     simpa[List.getElem?_take,bNa] using this
    have h2:(xs.map (·.1))[i]? = some (DataW.lit (.string z.data.toList):DataW H):=by simp[hb]
    rw[hxs] at h2;simp only[bGa,aKa,DataW.lit.injEq,Lit.string.injEq] at h2;obtain⟨z',hz',rfl⟩:=h2;simp[h1,hz',kw]
   ·rw[bCa (by omega),bCa (by simp;omega)]
  ·cases h
theorem CJ{P:Program}{W:World}{name:String}{zs:List ab}{rest:List (String×DataW Unit)}{g:Nat}{t e:TypeId}{n:Nat}
  (hg:P.globalNamed name=some g) (hty:(P.globals[g]?).map (·.type)=some t) (ht:P.underlying t=some (.array n e)) (he:P.underlying e=some .string) (hce:P.cellsOf e=1) (hct:P.cellsOf t=n)
  (h:laidMet P ((name,.agg (zs.map fun z=>.lit (.string z)))::rest) W):∃ elem fz,W.heap[g]? = some (.cells (zs.map kw).toArray elem fz):=by
 obtain⟨ps,⟨g',t',cs,F1,p,q,hg',ht',Yd,hd,_,_⟩,_⟩:=h;obtain rfl:=bxa (hg.symm.trans hg');obtain rfl:=bxa (hty.symm.trans ht');unfold World.var? at Yd;rw[hg] at Yd;simp only[bza] at Yd;split at Yd
 ·rename_i arr elem fz hc
  obtain rfl:=bxa Yd;exact⟨elem,fz,by rw[hc,←Pj ht he hce hct hd]⟩
 ·cases Yd
theorem Jy{S:DN}:∀ l:List ab,RepL (gh S false .str) (l.map kw) l []
 |[]=>⟨rfl,rfl⟩
 |z::l=>⟨[kw z],_,[],[],rfl,rfl,⟨rfl,rfl⟩,Jy l⟩
abbrev laid:List (String×DataW Unit):=Rows.fnHuntTriesRow.laid
theorem ac6{W:World}(h:laidMetH Tryz.prog laid W):nG gt (fun b=>W.heap[b]?):=fun g D hg=>by
 rw[MakeChecks.laidMetH_plain _ _ _ (by kernel_rfl)] at h
 unfold gt at hg;split at hg
 ·cases hg
  have h2:=h.filter fun x=>x.1== "loop.example/sedge/impl.signTable";have e:(laid.filter fun x=>x.1== "loop.example/sedge/impl.signTable")=[("loop.example/sedge/impl.signTable",.agg (xW.map fun z=>.lit (.string z)))]:=by kernel_rfl
  rw[e] at h2;obtain⟨a,b,c⟩:=CJ (g:=0) (t:=175) (e:=9) (n:=30) (by kernel_rfl) (by kernel_rfl) (by kernel_rfl) (by kernel_rfl) (by kernel_rfl) (by kernel_rfl) h2
  exact⟨_,a,b,c,by simpa using Jy xW⟩
 ·cases hg
  have h2:=h.filter fun x=>x.1== "loop.example/sedge/impl.opSigns";have e:(laid.filter fun x=>x.1== "loop.example/sedge/impl.opSigns")=[("loop.example/sedge/impl.opSigns",.agg (Pm.map fun z=>.lit (.string z)))]:=by kernel_rfl
  rw[e] at h2;obtain⟨a,b,c⟩:=CJ (g:=3) (t:=194) (e:=9) (n:=14) (by kernel_rfl) (by kernel_rfl) (by kernel_rfl) (by kernel_rfl) (by kernel_rfl) (by kernel_rfl) h2
  exact⟨_,a,b,c,by simpa using Jy Pm⟩
 ·cases hg
  have h2:=h.filter fun x=>x.1== "loop.example/sedge/impl.cmpSigns";have e:(laid.filter fun x=>x.1== "loop.example/sedge/impl.cmpSigns")=[("loop.example/sedge/impl.cmpSigns",.agg (gl4.map fun z=>.lit (.string z)))]:=by kernel_rfl
  rw[e] at h2;obtain⟨a,b,c⟩:=CJ (g:=4) (t:=200) (e:=9) (n:=7) (by kernel_rfl) (by kernel_rfl) (by kernel_rfl) (by kernel_rfl) (by kernel_rfl) (by kernel_rfl) h2
  exact⟨_,a,b,c,by simpa using Jy gl4⟩
 ·cases hg
theorem gz:ownKnob Tryz.prog.godebug=none:=by kernel_rfl
theorem WK:laidOutB Tryz.prog=true:=by kernel_rfl
theorem V8{H:Type}{enc:TypeId×Value→H}{P:Program}{W:World}{sp:Nat→Bool}{a b c:String}:∀{gs:List (DataW H)} {ps:List MemPlace},DataW.TrodVars enc P W sp [a,b,c] gs ps→∃ x y z,gs=[x,y,z]
 |[],_,h=>h.elim
 |[_],_,⟨_,_,_,_,_,_,_,_,_,_,h,_⟩=>h.elim
 |[_,_],_,⟨_,_,_,_,_,_,_,_,_,_,⟨_,_,_,_,_,_,_,_,_,_,h,_⟩,_⟩=>h.elim
 |[x,y,z],_,_=>⟨x,y,z,rfl⟩
 |_::_::_::_::_,_,⟨_,_,_,_,_,_,_,_,_,_,⟨_,_,_,_,_,_,_,_,_,_,⟨_,_,_,_,_,_,_,_,_,_,h,_⟩,_⟩,_⟩=>h.elim
end Go.Fx.R5
namespace Go.Fx.R5
open Go Go.Fx Go.Proofs Go.Proofs.YtooajghcoijkaaaGreatDoor Go.ChangeShapes Go.WideShapes Go.ChangeAt Go.RowKit
def Wc(k:IntKind)(w:World)(a:Option Addr)(len cap:Nat)(zs:List Int):Prop:=
 (a=none∧len=0∧cap=0∧zs=[])∨
 ∃ x,a=some x∧len≤cap∧zs.length=cap∧(∀ i,i<zs.length→w.cell? (x.add i)=some (.int k (zs.getD i 0)))∧∀ n∈zs,(Lit.int k n).wf=true
theorem Uv{S:DN}{k:IntKind}:∀(l:List Int),RepL (gh S false (.int k)) (l.map fun n=>.int k n) l []
 |[]=>⟨rfl,rfl⟩
 |n::l=>⟨[.int k n],_,[],[],rfl,rfl,⟨rfl,rfl⟩,Uv l⟩
theorem Xf{k:IntKind}{w:World}{a:Option Addr}{len cap:Nat}{zs:List Int}(h:Wc k w a len cap zs):aS (ghD (fun b=>w.heap[b]?)) (.eZ (.slice (.int k)) (zs.take len)) (.slice a len cap):=by
 refine⟨[.slice a len cap],rfl,rfl,?_⟩;rcases h with ⟨rfl,rfl,rfl,rfl⟩|⟨x,rfl,hl,hz,hc,_⟩
 ·exact .inl ⟨rfl,none,0,rfl⟩
 ·by_cases h0:len=0
  ·subst h0
   exact .inl ⟨by simp,some x,cap,rfl⟩
  ·right
   have afC:∀ i,(x.add i).block=x.block:=fun i=>block_add x i;have c0:=hc 0 (by omega)
   unfold World.cell? at c0;rw[afC] at c0;split at c0
   ·rename_i c elem fz hb
    have ZU:x.spot=none:=by
     split at c0
     ·cases c0
     ·rename_i hs
      have:(x.add 0).spot=x.spot:=by simp[Addr.add]
      rw[this] at hs;cases hsp:x.spot with
      |none=>rfl
      |some _=>rw[hsp] at hs;simp at hs
    have vK:∀ i,i<zs.length→c.toList[x.off+i]? = some (.int k (zs.getD i 0)):=fun i hi=>by
     have:=hc i hi;unfold World.cell? at this;rw[afC,hb] at this;have hs:(x.add i).spot=none:=by
      unfold Addr.add;split
      ·exact ZU
      ·rfl
     have ho:(x.add i).off=x.off+i:=by
      unfold Addr.add;split
      ·rename_i h;omega
      ·rfl
     simp only[hs,cIa,asa,Q9,ho] at this;simpa using this
    have Vl:x.off+zs.length≤c.toList.length:=by
     have:=vK (zs.length - 1) (by omega)
     have:=(aka.1 this).1;omega
    have jy:(zs.take len).length=len:=by simp;omega
    refine⟨x.block,cap,c,elem,fz,c.toList.take x.off,(zs.take len).map (fun n=>.int k n),c.toList.drop (x.off+len),?_,hb,?_,Uv _,by rw[jy];omega⟩
    ·have:(c.toList.take x.off).length=x.off:=by rw[cOa];omega
     rw[this,jy];obtain⟨b,o,sp⟩:=x;simp only at ZU;subst ZU;rfl
    ·have e:(zs.take len).map (fun n=>Value.int k n)=(c.toList.drop x.off).take len:=by
      apply bHa;intro i;by_cases hi:i<len
      ·rw[bGa,bqa hi,bqa hi,bNa,vK i (by omega)]
       simp[List.getD,show i<zs.length by omega]
      ·rw[bCa (by simp;omega),bCa (by simp;omega)]
     rw[e];have h1:c.toList=c.toList.take x.off++c.toList.drop x.off:=(bOa _ _).symm;have h2:c.toList.drop x.off=(c.toList.drop x.off).take len++(c.toList.drop x.off).drop len:=(bOa _ _).symm;rw[cla] at h2;rw[←h2];exact h1
   ·cases c0
theorem RF{P:Program}{f:FuncId}{args:Array Value}{w:World}{v1 v2:Value}{Q1 Q2:World→Prop}(hi:P.inits.idxOf? f=none)(h1:Calls P f args w fun e w'=>e=.returned v1∧Q1 w')(h2:Calls P f args w fun e w'=>e=.returned v2∧Q2 w'):v1=v2:=by
 obtain⟨e,w1,fr,⟨rfl,_⟩,⟨n,hn⟩,hf,hl⟩:=h1 [];obtain⟨e,w2,fr2,⟨rfl,_⟩,⟨m,hm⟩,hf2,Qr⟩:=h2 [];have a:runN P (n+1) (lone (Frame.enter P f args .normal) [] w)=.ended (.done v1) w1:=by rw[runN_add,hn];simp only[runN,step_leave_done hl (hf ▸ hi)]
 have b:runN P (m+1) (lone (Frame.enter P f args .normal) [] w)=.ended (.done v2) w2:=by rw[runN_add,hm];simp only[runN,step_leave_done Qr (hf2 ▸ hi)]
 exact Outcome.done.inj (runN_same_end a b)
theorem YF{a:Option Addr}{len cap:Nat}{zs:List Int}{W:World}(hr:Wc .u8 W a len cap zs)(h:laidMetH Tryz.prog laid W){k1 k2:Nat}{s1 s2:ab}(h1:iK k1 (zs.take len)=some (s1,()))(h2:iK k2 (zs.take len)=some (s2,())):s1=s2:=by
 have go:∀{k:Nat} {s:ab},iK k (zs.take len)=some (s,())→Calls Tryz.prog 30 #[.slice a len cap] W fun e W'=>e=.returned (kw s)∧Below W.heap.size W W':=fun {k s} e=>
  Nf (Ea k).ok.ok (S:=fun b=>W.heap[b]?) (w:=W) rfl (fun _ _ h=>h) (ac6 h) (avs:=[.one (.eZ (.slice U) (zs.take len))])
   (vs:=[.slice a len cap]) (d:=(zs.take len,())) (y:=(s,())) e ⟨Xf hr,trivial⟩ rfl rfl
 have:=RF (by kernel_rfl) (go h1) (go h2)
 simpa[kw] using this
end Go.Fx.R5
namespace Go.Proofs.YtooajghcoijkaaaGreatDoor.fnHuntTries
open Go.ChangeShapes Go.WideShapes Go.ChangeAt Go.RowKit Go.Fx.R5
open Go.ChangeMaps (open_string shut_string)
theorem ah0{a:Option Addr}{len cap:Nat}{zs:List Int}{W:World}(hr:Wc .u8 W a len cap zs)(h:laidMetH Tryz.prog laid W):Calls Tryz.prog 6 #[.slice a len cap] W fun e W'=>e=.returned (.bool true)∧Below W.heap.size W W':=by
 have hb:∀ x∈zs.take len,0≤x∧x≤255:=fun x hx=>by
  rcases hr with ⟨_,_,_,rfl⟩|⟨_,_,_,_,_,hw⟩
  ·simp at hx
  ·have:=hw x (List.mem_of_mem_take hx)
   simp only[Lit.wf,Bool.and_eq_true,decide_eq_true_eq] at this;exact⟨this.1,this.2⟩
 obtain⟨k,hk⟩:=Pq (zs.take len) hb (fun _ _ _ _ e1 e2=>YF hr h e1 e2);exact Go.Fx.Nf (Hs k).ok.ok (S:=fun b=>W.heap[b]?) (w:=W) rfl (fun _ _ h=>h) (ac6 h) (avs:=[.one (.eZ (.slice Go.Fx.U) (zs.take len))])
  (vs:=[.slice a len cap]) (d:=(zs.take len,())) (y:=(true,())) hk ⟨Xf hr,trivial⟩ rfl rfl
set_option maxRecDepth 100000 in
theorem aeu(os:Os)(SD:os.Started)(H:Type)(enc:TypeId×Value→H):
  ReturnsInHanded {} Tryz.checked os 6 .any (fun w args=>(Rows.fnHuntTriesSpec.pre enc Tryz.prog Tryz.f6 Rows.fnHuntTriesRow.domain false w args∧laidMetH Tryz.prog laid w)∧sizedMet enc Tryz.prog Tryz.f6 (OpenSpec.ofChange Rows.fnHuntTriesSpec) false w args)
   (Rows.fnHuntTriesSpec.post enc Tryz.prog Tryz.f6 false true false false):=by
 refine returnsInHanded_of_change_and (C:=Tryz.checked) (X:=fun w _=>laidMetH Tryz.prog laid w) (fun _ _ _ hh h=>h.of_heap hh) gz SD (by kernel_rfl) Tryz.func6
  (ChangeSpec.witness_at (enc:=enc) (C:=Tryz.checked) (os:=os) (X:=fun w _=>laidMetH Tryz.prog laid w) false (World.laidAll Tryz.prog os laid) #[.slice none 0 0] 8 (World.laidAll_os _ _ _) (by kernel_rfl) (by kernel_rfl) (by kernel_rfl) (by kernel_rfl) (by kernel_rfl)
   (by rw[MakeChecks.laidMetH_plain _ _ _ (by kernel_rfl)];exact laidMet_laidAll _ (by kernel_rfl) (by kernel_rfl))) ?_
 intro W iG args ds gs ag4 adm hW ah8 _ hL _;have aga:∀(j:Nat) t v,Tryz.f6.params[j]? = some t→args[j]? = some v→Value.okWide Tryz.prog W .any iG t v:=adm;have hW':=hW;obtain⟨p,q,hA0,hV,rfl,hfz,HO⟩:=hW;have hA:DataW.TrodAll enc Tryz.prog W 0 (fun _=>true) true Tryz.f6.params.toList args.toList ds p:=hA0;rw[Tryz.params6] at hA aga;obtain⟨v0,vs0,d0,ds0,p0,q0,ha0,rfl,rfl,h0,r0⟩:=trodAll_cons hA;obtain⟨rfl,rfl,rfl⟩:=trodAll_nil r0;obtain rfl:args = #[v0]:=by cases args;simp_all
 obtain⟨a0,agk,Za,rfl⟩:=okWide_slice Tryz.underlying29 (aga 0 29 v0 rfl rfl);have k0:=h0;have lt0:∀ x∈p0,x.block<W.heap.size:=by obtain⟨m,hm⟩:=k0;exact DataW.trod_lt m _ _ _ hm
 obtain⟨z0,w0⟩:∃ zs,Wc .u8 W a0 agk Za zs:=by
  obtain⟨F1,hf⟩:=h0;rcases open_ints Tryz.underlying29 Tryz.underlying5 (by kernel_rfl) hf with ⟨DJ,_⟩|⟨x,l,c,zs,DJ,_,hl,hm,hz,_,rF,hwz⟩
  ·simp[Value.cells] at DJ
   obtain⟨rfl,rfl,rfl⟩:=DJ;exact⟨[],.inl ⟨rfl,rfl,rfl,rfl⟩⟩
  ·simp[Value.cells] at DJ
   obtain⟨rfl,rfl,rfl⟩:=DJ;exact⟨zs,.inr ⟨_,rfl,hl,by simpa using hz,rF,hwz⟩⟩
 obtain⟨x1,x2,x3,rfl⟩:=V8 hV;clear hA0 adm;refine(ah0 w0 hL).mono fun e W' ⟨he,bel⟩=>?_;subst he;exact⟨_,rfl,_,_,_,[],_,_,hW',trodAll_mk1 (shut_bool Tryz.underlying4 _),(trodAll_cons_mk (Below.trod WK (by kernel_rfl) (of_decide_eq_true (by kernel_rfl)) k0 bel lt0) trodAll_mk0),bel.trodVars WK (by kernel_rfl) hV,bel.frame _,fun h=>by cases h⟩
theorem ahL:Rows.fnHuntTriesRow.holds Tryz.pinned (OpenSpec.ofChange Rows.fnHuntTriesSpec):=
 OpenClaim.holds_of_wide 6 Tryz.f6 rfl rfl rfl rfl rfl rfl rfl ⟨rfl,rfl,rfl,rfl,rfl⟩ rfl rfl rfl rfl rfl (by kernel_rfl) Tryz.func6 (by kernel_rfl)
  (of_decide_eq_true (by kernel_rfl)) (by unfold Func.isWrapper;first|(rw[if_pos (by decide +kernel)];kernel_rfl)|(rw[if_neg (by decide +kernel)];exact⟨rfl,rfl⟩))
  (fun os SD H enc _=>aeu os SD H enc)
theorem card_holds:Rows.FnHuntTriesCardSaid:=
 Claim7.holds_tied_plain_at .later [] [.data,.data,.data,.sentinel,.sentinel,.data,.data,.data] true (true,"55956d1f155cc7195b9f31c81cb504538310efd51427c496ec42be7105ba61dc") true ahL (fun _ h=>by cases h) (by kernel_rfl) (fun _ h=>by cases h) fnHuntTries_row_tie rfl ⟨rfl,rfl⟩ (by kernel_rfl) rfl
  (fun f fn hf hfn=>by
   obtain rfl:f=6:=Option.some.inj ((show Tryz.prog.funcNamed "loop.example/sedge/laws.FnHuntTries" = some 6 by kernel_rfl).symm.trans hf) |>.symm
   obtain rfl:fn=Tryz.f6:=(Option.some.inj (Tryz.func6.symm.trans hfn)).symm;exact⟨by kernel_rfl,fun j t ht=>by
    rw[Tryz.params6] at ht;have hm:t∈[29]:=by simpa using Array.mem_of_getElem? ht
    have fk:([29].all fun u=>!Tryz.prog.wantsStandIn u)=true:=by kernel_rfl
    exact(show Tryz.prog.wantsStandIn t=false by simpa using List.all_eq_true.1 fk t hm)⟩)
  (by kernel_rfl)
#print axioms card_holds
end Go.Proofs.YtooajghcoijkaaaGreatDoor.fnHuntTries
namespace Go.Proofs.YtooajghcoijkaaaGreatDoor
theorem fnHuntTries_holds:Rows.FnHuntTriesCardSaid:=fnHuntTries.card_holds
end Go.Proofs.YtooajghcoijkaaaGreatDoor
