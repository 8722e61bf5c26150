/- Proved here: laws.FnExactEngineTop returns true at every input (the tied card), no condition beyond the card. -/
import Derived.Test.YtldbfcdfogojfaaGreatDoorCb
import Derived.Test.YtldbfcdfogojfaaGreatDoorRows
import Derived.Test.YtldbfcdfogojfaaGreatDoorCards
import Derived.Test.YtldbfcdfogojfaaGreatDoorTie
import Derived.WalkKit
import Derived.ProofKit
import Derived.OpenShut
import Derived.OpenVars
import Derived.ShutString
import Derived.ChangeOld
import Derived.ChangeArms
import Derived.ChangeMaps5
import Derived.Below
import Derived.Carry
import Derived.SizedLaws
import Derived.Lay
import Derived.LaidMore
import Derived.LaidOnce
import Derived.LaidSub
import Derived.MakeChecks
import Derived.Lib.LaidTab
import Derived.Lib.SmallJoins
import Derived.SevenTiedAt
import Derived.Test.YtldbfcdfogojfaaGreatDoorQb
set_option linter.unusedVariables false
set_option linter.unusedSimpArgs false
set_option linter.unusedSectionVars false
set_option linter.defProp false
set_option maxRecDepth 100000
namespace Go.Fx.R5
open Go Go.Fx Go.Proofs Go.Proofs.YtldbfcdfogojfaaGreatDoor Go.ChangeShapes Go.WideShapes Go.ChangeAt Go.RowKit
theorem Pd{H:Type}{enc:TypeId×Value→H}{P:Program}{w:World}{iL:Nat}{sp:Nat→Bool}{agv:Bool}{He:Nat}{t e:TypeId}{n:Nat}{cs:List Value}{zs:List ak}{p:List MemPlace}
  (ht:P.underlying t=some (.array n e)) (he:P.underlying e=some .string) (hce:P.cellsOf e=1) (hct:P.cellsOf t=n)
  (h:DataW.trod enc P w iL sp agv He t cs=some (.agg (zs.map fun z=>.lit (.string z)),p)):cs=zs.map kl:=by
 cases He with
 |zero=>simp[DataW.trod] at h
 |succ He=>
  simp only[DataW.trod,ht,hce,hct,Nat.mul_one] at h;split at h
  ·rename_i hl
   obtain⟨xs,hm,hx⟩:=aIa.1 h;have hxs:xs.map (·.1)=zs.map fun z=>(DataW.lit (.string z):DataW H):=by have:=bGa Prod.fst hx;simpa using this
   have hxl:xs.length=n:=by simpa using Lib.mapM_length hm
   have hzl:zs.length=n:=by have:=bGa List.length hxs;simp at this;omega
   apply bHa;intro i;by_cases hi:i<n
   ·obtain⟨b,hb,hf⟩:=Lib.mapM_at hm i i (by simp[hi])
    obtain⟨z,hc,rfl,_⟩:=DataW.trod_string he hf;have h1:cs[i]? = some (.string z):=by
     have:=bGa (·[0]?) hc
     simpa[List.getElem?_take,bRa] using this
    have h2:(xs.map (·.1))[i]? = some (DataW.lit (.string z.data.toList):DataW H):=by simp[hb]
    rw[hxs] at h2;simp only[bIa,aIa,DataW.lit.injEq,Lit.string.injEq] at h2;obtain⟨z',hz',rfl⟩:=h2;simp[h1,hz',kl]
   ·rw[bTa (by omega),bTa (by simp;omega)]
  ·cases h
theorem Cv{P:Program}{W:World}{name:String}{zs:List ak}{rest:List (String×DataW Unit)}{g:Nat}{t e:TypeId}{n:Nat}
  (hg:P.globalNamed name=some g) (hty:(P.globals[g]?).map (·.type)=some t) (ht:P.underlying t=some (.array n e)) (he:P.underlying e=some .string) (hce:P.cellsOf e=1) (hct:P.cellsOf t=n)
  (h:laidMet P ((name,.agg (zs.map fun z=>.lit (.string z)))::rest) W):∃ elem fz,W.heap[g]? = some (.cells (zs.map kl).toArray elem fz):=by
 obtain⟨ps,⟨g',t',cs,He,p,q,hg',ht',XY,hd,_,_⟩,_⟩:=h;obtain rfl:=bta (hg.symm.trans hg');obtain rfl:=bta (hty.symm.trans ht');unfold World.var? at XY;rw[hg] at XY;simp only[bOa] at XY;split at XY
 ·rename_i arr elem fz hc
  obtain rfl:=bta XY;exact⟨elem,fz,by rw[hc,←Pd ht he hce hct hd]⟩
 ·cases XY
theorem Jo{S:DB}:∀ l:List ak,RepL (fW S false .str) (l.map kl) l []
 |[]=>⟨rfl,rfl⟩
 |z::l=>⟨[kl z],_,[],[],rfl,rfl,⟨rfl,rfl⟩,Jo l⟩
abbrev laid:List (String×DataW Unit):=Rows.fnExactEngineTopRow.laid
theorem aeT{W:World}(h:laidMetH Tryz.prog laid W):nv gt (fun b=>W.heap[b]?):=fun g D hg=>by
 rw[MakeChecks.laidMetH_plain _ _ _ (by kernel_rfl)] at h
 unfold gt at hg;split at hg
 ·cases hg
  have h2:=h.filter fun x=>x.1== "loop.example/sedge/impl.signTable";have e:(laid.filter fun x=>x.1== "loop.example/sedge/impl.signTable")=[("loop.example/sedge/impl.signTable",.agg (xo.map fun z=>.lit (.string z)))]:=by kernel_rfl
  rw[e] at h2;obtain⟨a,b,c⟩:=Cv (g:=0) (t:=193) (e:=9) (n:=30) (by kernel_rfl) (by kernel_rfl) (by kernel_rfl) (by kernel_rfl) (by kernel_rfl) (by kernel_rfl) h2
  exact⟨_,a,b,c,by simpa using Jo xo⟩
 ·cases hg
  have h2:=h.filter fun x=>x.1== "loop.example/sedge/impl.opSigns";have e:(laid.filter fun x=>x.1== "loop.example/sedge/impl.opSigns")=[("loop.example/sedge/impl.opSigns",.agg (Pg.map fun z=>.lit (.string z)))]:=by kernel_rfl
  rw[e] at h2;obtain⟨a,b,c⟩:=Cv (g:=3) (t:=214) (e:=9) (n:=14) (by kernel_rfl) (by kernel_rfl) (by kernel_rfl) (by kernel_rfl) (by kernel_rfl) (by kernel_rfl) h2
  exact⟨_,a,b,c,by simpa using Jo Pg⟩
 ·cases hg
  have h2:=h.filter fun x=>x.1== "loop.example/sedge/impl.cmpSigns";have e:(laid.filter fun x=>x.1== "loop.example/sedge/impl.cmpSigns")=[("loop.example/sedge/impl.cmpSigns",.agg (gl4.map fun z=>.lit (.string z)))]:=by kernel_rfl
  rw[e] at h2;obtain⟨a,b,c⟩:=Cv (g:=4) (t:=220) (e:=9) (n:=7) (by kernel_rfl) (by kernel_rfl) (by kernel_rfl) (by kernel_rfl) (by kernel_rfl) (by kernel_rfl) h2
  exact⟨_,a,b,c,by simpa using Jo gl4⟩
 ·cases hg
theorem pd:ownKnob Tryz.prog.godebug=none:=by kernel_rfl
theorem abx:laidOutB Tryz.prog=true:=by kernel_rfl
theorem VX{H:Type}{enc:TypeId×Value→H}{P:Program}{W:World}{sp:Nat→Bool}{a b c:String}:∀{gs:List (DataW H)} {ps:List MemPlace},DataW.TrodVars enc P W sp [a,b,c] gs ps→∃ x y z,gs=[x,y,z]
 |[],_,h=>h.elim
 |[_],_,⟨_,_,_,_,_,_,_,_,_,_,h,_⟩=>h.elim
 |[_,_],_,⟨_,_,_,_,_,_,_,_,_,_,⟨_,_,_,_,_,_,_,_,_,_,h,_⟩,_⟩=>h.elim
 |[x,y,z],_,_=>⟨x,y,z,rfl⟩
 |_::_::_::_::_,_,⟨_,_,_,_,_,_,_,_,_,_,⟨_,_,_,_,_,_,_,_,_,_,⟨_,_,_,_,_,_,_,_,_,_,h,_⟩,_⟩,_⟩=>h.elim
end Go.Fx.R5
namespace Go.Proofs.YtldbfcdfogojfaaGreatDoor.fnExactEngineTop
open Go.ChangeShapes Go.WideShapes Go.ChangeAt Go.RowKit Go.Fx.R5
open Go.ChangeMaps (open_string shut_string)
theorem ahf(s0:ByteArray)(n1:Int){W:World}(h:laidMetH Tryz.prog laid W):Calls Tryz.prog 3 #[.string s0,.int .i64 n1] W fun e W'=>e=.returned (.bool true)∧Below W.heap.size W W':=by
 obtain⟨k,hk⟩:=Pe s0.data.toList n1;exact Go.Fx.U1 (AX k).ok.ok (S:=fun b=>W.heap[b]?) (w:=W) rfl (fun _ _ h=>h) (aeT h) (avs:=[.one (.eV (.str) s0.data.toList),.one (.eV Go.Fx.I n1)])
  (vs:=[.string s0,.int .i64 n1]) (d:=(s0.data.toList,n1,())) (y:=(true,())) hk ⟨⟨[.string s0],rfl,by simp[Go.Fx.fW,Go.Fx.kl]⟩,⟨[.int .i64 n1],rfl,rfl,rfl⟩,trivial⟩ rfl rfl
set_option maxRecDepth 100000 in
theorem adV(os:Os)(Sq:os.Started)(H:Type)(enc:TypeId×Value→H):
  ReturnsInHanded {} Tryz.checked os 3 .any (fun w args=>(Rows.fnExactEngineTopSpec.pre enc Tryz.prog Tryz.f3 Rows.fnExactEngineTopRow.domain false w args∧laidMetH Tryz.prog laid w)∧sizedMet enc Tryz.prog Tryz.f3 (OpenSpec.ofChange Rows.fnExactEngineTopSpec) false w args)
   (Rows.fnExactEngineTopSpec.post enc Tryz.prog Tryz.f3 false true false false):=by
 refine returnsInHanded_of_change_and (C:=Tryz.checked) (X:=fun w _=>laidMetH Tryz.prog laid w) (fun _ _ _ hh h=>h.of_heap hh) pd Sq (by kernel_rfl) Tryz.func3
  (ChangeSpec.witness_at (enc:=enc) (C:=Tryz.checked) (os:=os) (X:=fun w _=>laidMetH Tryz.prog laid w) false (World.laidAll Tryz.prog os laid) #[.string ⟨#[]⟩,.int .i64 0] 8 (World.laidAll_os _ _ _) (by kernel_rfl) (by kernel_rfl) (by kernel_rfl) (by kernel_rfl) (by kernel_rfl)
   (by rw[MakeChecks.laidMetH_plain _ _ _ (by kernel_rfl)];exact laidMet_laidAll _ (by kernel_rfl) (by kernel_rfl))) ?_
 intro W iL args ds gs agk acK hW ahn _ hL _;have adN:∀(j:Nat) t v,Tryz.f3.params[j]? = some t→args[j]? = some v→Value.okWide Tryz.prog W .any iL t v:=acK;have hW':=hW;obtain⟨p,q,hA0,hV,rfl,hfz,IU⟩:=hW;have hA:DataW.TrodAll enc Tryz.prog W 0 (fun _=>true) true Tryz.f3.params.toList args.toList ds p:=hA0;rw[Tryz.params3] at hA adN;obtain⟨v0,vs0,d0,ds0,p0,q0,ha0,rfl,rfl,h0,r0⟩:=trodAll_cons hA;obtain⟨v1,vs1,d1,ds1,p1,q1,ha1,rfl,rfl,h1,r1⟩:=trodAll_cons r0;obtain⟨rfl,rfl,rfl⟩:=trodAll_nil r1;subst ha1;obtain rfl:args = #[v0,v1]:=by cases args;simp_all
 obtain⟨s0,rfl,rfl,rfl,w0⟩:=open_string Tryz.underlying9 (adN 0 9 v0 rfl rfl) h0;obtain⟨n1,rfl,rfl,rfl,w1⟩:=open_int Tryz.underlying3 (adN 1 3 v1 rfl rfl) h1;obtain⟨x1,x2,x3,rfl⟩:=VX hV;clear hA0 acK;refine(ahf s0 n1 hL).mono fun e W' ⟨he,bel⟩=>?_;subst he;exact⟨_,rfl,_,_,_,[],_,_,hW',trodAll_mk1 (shut_bool Tryz.underlying4 _),(trodAll_cons_mk (shut_string Tryz.underlying9 w0) (trodAll_cons_mk (shut_int Tryz.underlying3 w1) trodAll_mk0)),bel.trodVars abx (by kernel_rfl) hV,bel.frame _,fun h=>by cases h⟩
theorem ag0:Rows.fnExactEngineTopRow.holds Tryz.pinned (OpenSpec.ofChange Rows.fnExactEngineTopSpec):=
 OpenClaim.holds_of_wide 3 Tryz.f3 rfl rfl rfl rfl rfl rfl rfl ⟨rfl,rfl,rfl,rfl,rfl⟩ rfl rfl rfl rfl rfl (by kernel_rfl) Tryz.func3 (by kernel_rfl)
  (of_decide_eq_true (by kernel_rfl)) (by unfold Func.isWrapper;first|(rw[if_pos (by decide +kernel)];kernel_rfl)|(rw[if_neg (by decide +kernel)];exact⟨rfl,rfl⟩))
  (fun os Sq H enc _=>adV os Sq H enc)
theorem card_holds:Rows.FnExactEngineTopCardSaid:=
 Claim7.holds_tied_plain_at .later [] [.data,.data,.data,.sentinel,.sentinel,.data,.data,.data] true (true,"b2298d636e7a49051c83dcf0bf3b7087261909aac68fed56d768e5c62c6ee055") true ag0 (fun _ h=>by cases h) (by kernel_rfl) (fun _ h=>by cases h) fnExactEngineTop_row_tie rfl ⟨rfl,rfl⟩ (by kernel_rfl) rfl
  (fun f fn hf hfn=>by
   obtain rfl:f=3:=Option.some.inj ((show Tryz.prog.funcNamed "loop.example/sedge/laws.FnExactEngineTop" = some 3 by kernel_rfl).symm.trans hf) |>.symm
   obtain rfl:fn=Tryz.f3:=(Option.some.inj (Tryz.func3.symm.trans hfn)).symm;exact⟨by kernel_rfl,fun j t ht=>by
    rw[Tryz.params3] at ht;have hm:t∈[9,3]:=by simpa using Array.mem_of_getElem? ht
    have fd:([9,3].all fun u=>!Tryz.prog.wantsStandIn u)=true:=by kernel_rfl
    exact(show Tryz.prog.wantsStandIn t=false by simpa using List.all_eq_true.1 fd t hm)⟩)
  (by kernel_rfl)
#print axioms card_holds
end Go.Proofs.YtldbfcdfogojfaaGreatDoor.fnExactEngineTop
namespace Go.Proofs.YtldbfcdfogojfaaGreatDoor
theorem fnExactEngineTop_holds:Rows.FnExactEngineTopCardSaid:=fnExactEngineTop.card_holds
end Go.Proofs.YtldbfcdfogojfaaGreatDoor
