/- Proved here: laws.FnExactEngineSteps returns true at every input (the tied card), no condition beyond the card. -/
import Derived.Test.YtooajghcoijkaaaGreatDoorC
import Derived.Test.YtooajghcoijkaaaGreatDoorRows
import Derived.Test.YtooajghcoijkaaaGreatDoorCards
import Derived.Test.YtooajghcoijkaaaGreatDoorTie
import Derived.WalkKit
import Derived.ProofKit
import Derived.OpenShut
import Derived.OpenVars
import Derived.ShutString
import Derived.ChangeOld
import Derived.ChangeArms
import Derived.ChangeMaps5
import Derived.Below
import Derived.Carry
import Derived.SizedLaws
import Derived.Lay
import Derived.LaidMore
import Derived.LaidOnce
import Derived.LaidSub
import Derived.MakeChecks
import Derived.Lib.LaidTab
import Derived.Lib.SmallJoins
import Derived.SevenTiedAt
import Derived.Test.YtooajghcoijkaaaGreatDoorQb
set_option linter.unusedVariables false
set_option linter.unusedSimpArgs false
set_option linter.unusedSectionVars false
set_option maxRecDepth 100000
namespace Go.Fx.R5
open Go Go.Fx Go.Proofs Go.Proofs.YtooajghcoijkaaaGreatDoor Go.ChangeShapes Go.WideShapes Go.ChangeAt Go.RowKit
theorem MA{H:Type}{enc:TypeId×Value→H}{P:Program}{w:World}{iH:Nat}{sp:Nat→Bool}{aaW:Bool}{Fd:Nat}{t e:TypeId}{n:Nat}{cs:List Value}{zs:List ao}{p:List MemPlace}
  (ht:P.underlying t=some (.array n e)) (he:P.underlying e=some .string) (hce:P.cellsOf e=1) (hct:P.cellsOf t=n)
  (h:DataW.trod enc P w iH sp aaW Fd t cs=some (.agg (zs.map fun z=>.lit (.string z)),p)):cs=zs.map ke:=by
 cases Fd with
 |zero=>simp [DataW.trod] at h
 |succ Fd=>
  simp only [DataW.trod,ht,hce,hct,Nat.mul_one] at h;split at h
  ·rename_i hl
   obtain⟨xs,hm,hx⟩:=Option.map_eq_some_iff.1 h;have hxs:xs.map (·.1)=zs.map fun z=>(DataW.lit (.string z):DataW H):=by have:=congrArg Prod.fst hx;simpa using this
   have hxl:xs.length=n:=by simpa using Lib.mapM_length hm
   have hzl:zs.length=n:=by have:=congrArg List.length hxs;simp at this;omega
   apply List.ext_getElem?;intro i;by_cases hi:i < n
   ·obtain⟨b,hb,hf⟩:=Lib.mapM_at hm i i (by simp [hi])
    obtain⟨z,hc,rfl,_⟩:=DataW.trod_string he hf;have h1:cs[i]? = some (.string z):=by
     have:=congrArg (·[0]?) hc
     simpa [List.getElem?_take,List.getElem?_drop] using this
    have h2:(xs.map (·.1))[i]? = some (DataW.lit (.string z.data.toList):DataW H):=by simp [hb]
    rw [hxs] at h2;simp only [List.getElem?_map,Option.map_eq_some_iff,DataW.lit.injEq,Lit.string.injEq] at h2;obtain⟨z',O9,rfl⟩:=h2;simp [h1,O9,ke]
   ·rw [List.getElem?_eq_none (by omega),List.getElem?_eq_none (by simp;omega)]
  ·cases h
theorem A5{P:Program}{W:World}{name:String}{zs:List ao}{rest:List (String×DataW Unit)}{g:Nat}{t e:TypeId}{n:Nat}
  (hg:P.globalNamed name=some g) (hty:(P.globals[g]?).map (·.type)=some t) (ht:P.underlying t=some (.array n e)) (he:P.underlying e=some .string) (hce:P.cellsOf e=1) (hct:P.cellsOf t=n)
  (h:laidMet P ((name,.agg (zs.map fun z=>.lit (.string z))) :: rest) W):∃ elem fz,W.heap[g]? = some (.cells (zs.map ke).toArray elem fz):=by
 obtain⟨ps,⟨g',t',cs,Fd,p,q,hg',ht',Vf,hd,_,_⟩,_⟩:=h;obtain rfl:=Option.some.inj (hg.symm.trans hg');obtain rfl:=Option.some.inj (hty.symm.trans ht');unfold World.var? at Vf;rw [hg] at Vf;simp only [Option.bind_some] at Vf;split at Vf
 ·rename_i arr elem fz hc
  obtain rfl:=Option.some.inj Vf;exact⟨elem,fz,by rw [hc,←MA ht he hce hct hd]⟩
 ·cases Vf
theorem He{S:Ce}:∀ l:List ao,RepL (fY S false .str) (l.map ke) l []
 |[]=>⟨rfl,rfl⟩
 |z :: l=>⟨[ke z],_,[],[],rfl,rfl,⟨rfl,rfl⟩,He l⟩
abbrev laid:List (String×DataW Unit):=Rows.fnExactEngineStepsRow.laid
theorem ace{W:World}(h:laidMetH Tryz.prog laid W):mX gt (fun b=>W.heap[b]?):=fun g D hg=>by
 rw [MakeChecks.laidMetH_plain _ _ _ (by kernel_rfl)] at h
 unfold gt at hg;split at hg
 ·cases hg
  have h2:=h.filter fun x=>x.1 == "loop.example/sedge/impl.signTable";have e:(laid.filter fun x=>x.1 == "loop.example/sedge/impl.signTable") = [("loop.example/sedge/impl.signTable",.agg (wq.map fun z=>.lit (.string z)))]:=by kernel_rfl
  rw [e] at h2;obtain⟨a,b,c⟩:=A5 (g:=0) (t:=175) (e:=9) (n:=30) (by kernel_rfl) (by kernel_rfl) (by kernel_rfl) (by kernel_rfl) (by kernel_rfl) (by kernel_rfl) h2
  exact⟨_,a,b,c,by simpa using He wq⟩
 ·cases hg
  have h2:=h.filter fun x=>x.1 == "loop.example/sedge/impl.opSigns";have e:(laid.filter fun x=>x.1 == "loop.example/sedge/impl.opSigns") = [("loop.example/sedge/impl.opSigns",.agg (MC.map fun z=>.lit (.string z)))]:=by kernel_rfl
  rw [e] at h2;obtain⟨a,b,c⟩:=A5 (g:=3) (t:=194) (e:=9) (n:=14) (by kernel_rfl) (by kernel_rfl) (by kernel_rfl) (by kernel_rfl) (by kernel_rfl) (by kernel_rfl) h2
  exact⟨_,a,b,c,by simpa using He MC⟩
 ·cases hg
  have h2:=h.filter fun x=>x.1 == "loop.example/sedge/impl.cmpSigns";have e:(laid.filter fun x=>x.1 == "loop.example/sedge/impl.cmpSigns") = [("loop.example/sedge/impl.cmpSigns",.agg (P6.map fun z=>.lit (.string z)))]:=by kernel_rfl
  rw [e] at h2;obtain⟨a,b,c⟩:=A5 (g:=4) (t:=200) (e:=9) (n:=7) (by kernel_rfl) (by kernel_rfl) (by kernel_rfl) (by kernel_rfl) (by kernel_rfl) (by kernel_rfl) h2
  exact⟨_,a,b,c,by simpa using He P6⟩
 ·cases hg
theorem oW:ownKnob Tryz.prog.godebug=none:=by kernel_rfl
theorem YZ:laidOutB Tryz.prog=true:=by kernel_rfl
theorem Tw{H:Type}{enc:TypeId×Value→H}{P:Program}{W:World}{sp:Nat→Bool}{a b c:String}:∀{gs:List (DataW H)} {ps:List MemPlace},DataW.TrodVars enc P W sp [a,b,c] gs ps→∃ x y z,gs = [x,y,z]
 |[],_,h=>h.elim
 |[_],_,⟨_,_,_,_,_,_,_,_,_,_,h,_⟩=>h.elim
 |[_,_],_,⟨_,_,_,_,_,_,_,_,_,_,⟨_,_,_,_,_,_,_,_,_,_,h,_⟩,_⟩=>h.elim
 |[x,y,z],_,_=>⟨x,y,z,rfl⟩
 |_ :: _ :: _ :: _ :: _,_,⟨_,_,_,_,_,_,_,_,_,_,⟨_,_,_,_,_,_,_,_,_,_,⟨_,_,_,_,_,_,_,_,_,_,h,_⟩,_⟩,_⟩=>h.elim
end Go.Fx.R5
namespace Go.Proofs.YtooajghcoijkaaaGreatDoor.fnExactEngineSteps
open Go.ChangeShapes Go.WideShapes Go.ChangeAt Go.RowKit Go.Fx.R5
open Go.ChangeMaps (open_string shut_string)
theorem aez(s:ByteArray){W:World}(h:laidMetH Tryz.prog laid W):Calls Tryz.prog 3 #[.string s] W fun e W'=>e = .returned (.bool true)∧Below W.heap.size W W':=by
 obtain⟨k,hk⟩:=Jt s.data.toList;exact Go.Fx.Sy (xY k).ok.ok (S:=fun b=>W.heap[b]?) (w:=W) rfl (fun _ _ h=>h) (ace h) (avs:=[.one (.eX (.str) s.data.toList)])
  (vs:=[.string s]) (d:=(s.data.toList,())) (y:=(true,())) hk ⟨⟨[.string s],rfl,by simp [Go.Fx.fY,Go.Fx.ke]⟩,trivial⟩ rfl rfl
set_option maxRecDepth 100000 in
theorem abh(os:Os)(PP:os.Started)(H:Type)(enc:TypeId×Value→H):
  ReturnsInHanded {} Tryz.checked os 3 .any (fun w args=>(Rows.fnExactEngineStepsSpec.pre enc Tryz.prog Tryz.f3 Rows.fnExactEngineStepsRow.domain false w args∧laidMetH Tryz.prog laid w)∧sizedMet enc Tryz.prog Tryz.f3 (OpenSpec.ofChange Rows.fnExactEngineStepsSpec) false w args)
   (Rows.fnExactEngineStepsSpec.post enc Tryz.prog Tryz.f3 false true false false):=by
 refine returnsInHanded_of_change_and (C:=Tryz.checked) (X:=fun w _=>laidMetH Tryz.prog laid w) (fun _ _ _ hh h=>h.of_heap hh) oW PP (by kernel_rfl) Tryz.func3
  (ChangeSpec.witness_at (enc:=enc) (C:=Tryz.checked) (os:=os) (X:=fun w _=>laidMetH Tryz.prog laid w) false (World.laidAll Tryz.prog os laid) #[.string ⟨#[]⟩] 8 (World.laidAll_os _ _ _) (by kernel_rfl) (by kernel_rfl) (by kernel_rfl) (by kernel_rfl) (by kernel_rfl)
   (by rw [MakeChecks.laidMetH_plain _ _ _ (by kernel_rfl)];exact laidMet_laidAll _ (by kernel_rfl) (by kernel_rfl))) ?_
 intro W iH args ds gs adE Z8 hW aeH _ hL _;have acP:∀(j:Nat) t v,Tryz.f3.params[j]? = some t→args[j]? = some v→Value.okWide Tryz.prog W .any iH t v:=Z8;have hW':=hW;obtain⟨p,q,hA0,hV,rfl,hfz,GC⟩:=hW;have hA:DataW.TrodAll enc Tryz.prog W 0 (fun _=>true) true Tryz.f3.params.toList args.toList ds p:=hA0;rw [Tryz.params3] at hA acP;obtain⟨v0,d0,rfl,rfl,h0⟩:=trodAll_one hA;obtain⟨s0,rfl,rfl,rfl,w0⟩:=open_string Tryz.underlying9 (acP 0 9 v0 rfl rfl) h0;obtain⟨x1,x2,x3,rfl⟩:=Tw hV;clear hA0 Z8;refine(aez s0 hL).mono fun e W' ⟨he,bel⟩=>?_;subst he;exact⟨_,rfl,_,_,_,[],_,_,hW',trodAll_mk1 (shut_bool Tryz.underlying4 _),(trodAll_cons_mk (shut_string Tryz.underlying9 w0) trodAll_mk0),bel.trodVars YZ (by kernel_rfl) hV,bel.frame _,fun h=>by cases h⟩
theorem aek:Rows.fnExactEngineStepsRow.holds Tryz.pinned (OpenSpec.ofChange Rows.fnExactEngineStepsSpec):=
 OpenClaim.holds_of_wide 3 Tryz.f3 rfl rfl rfl rfl rfl rfl rfl ⟨rfl,rfl,rfl,rfl,rfl⟩ rfl rfl rfl rfl rfl (by kernel_rfl) Tryz.func3 (by kernel_rfl)
  (of_decide_eq_true (by kernel_rfl)) (by unfold Func.isWrapper;first |(rw [if_pos (by decide +kernel)];kernel_rfl) |(rw [if_neg (by decide +kernel)];exact⟨rfl,rfl⟩))
  (fun os PP H enc _=>abh os PP H enc)
theorem card_holds:Rows.FnExactEngineStepsCardSaid:=
 Claim7.holds_tied_plain_at .later [] [.data,.data,.data,.sentinel,.sentinel,.data,.data,.data] true (true,"55956d1f155cc7195b9f31c81cb504538310efd51427c496ec42be7105ba61dc") true aek (fun _ h=>by cases h) (by kernel_rfl) (fun _ h=>by cases h) fnExactEngineSteps_row_tie rfl ⟨rfl,rfl⟩ (by kernel_rfl) rfl
  (fun f fn hf hfn=>by
   obtain rfl:f=3:=Option.some.inj ((show Tryz.prog.funcNamed "loop.example/sedge/laws.FnExactEngineSteps" = some 3 by kernel_rfl).symm.trans hf) |>.symm
   obtain rfl:fn=Tryz.f3:=(Option.some.inj (Tryz.func3.symm.trans hfn)).symm;exact⟨by kernel_rfl,fun j t ht=>by
    rw [Tryz.params3] at ht;have hm:t∈[9]:=by simpa using Array.mem_of_getElem? ht
    have fj:([9].all fun u=>!Tryz.prog.wantsStandIn u)=true:=by kernel_rfl
    exact(show Tryz.prog.wantsStandIn t=false by simpa using List.all_eq_true.1 fj t hm)⟩)
  (by kernel_rfl)
#print axioms card_holds
end Go.Proofs.YtooajghcoijkaaaGreatDoor.fnExactEngineSteps
namespace Go.Proofs.YtooajghcoijkaaaGreatDoor
theorem fnExactEngineSteps_holds:Rows.FnExactEngineStepsCardSaid:=fnExactEngineSteps.card_holds
end Go.Proofs.YtooajghcoijkaaaGreatDoor
