/- Proved here: laws.FnExactHuntTry returns true at every input (the tied card), no condition beyond the card. -/
import Derived.Test.YtooajghcoijkaaaGreatDoorC
import Derived.Test.YtooajghcoijkaaaGreatDoorRows
import Derived.Test.YtooajghcoijkaaaGreatDoorCards
import Derived.Test.YtooajghcoijkaaaGreatDoorTie
import Derived.WalkKit
import Derived.ProofKit
import Derived.OpenShut
import Derived.OpenVars
import Derived.ShutString
import Derived.ChangeOld
import Derived.ChangeArms
import Derived.ChangeMaps5
import Derived.Below
import Derived.Carry
import Derived.SizedLaws
import Derived.Lay
import Derived.LaidMore
import Derived.LaidOnce
import Derived.LaidSub
import Derived.MakeChecks
import Derived.Lib.LaidTab
import Derived.Lib.SmallJoins
import Derived.SevenTiedAt
import Derived.Test.YtooajghcoijkaaaGreatDoorQb
set_option linter.unusedVariables false
set_option linter.unusedSimpArgs false
set_option linter.unusedSectionVars false
set_option maxRecDepth 100000
namespace Go.Fx.R5
open Go Go.Fx Go.Proofs Go.Proofs.YtooajghcoijkaaaGreatDoor Go.ChangeShapes Go.WideShapes Go.ChangeAt Go.RowKit
theorem Nv{H:Type}{enc:TypeId×Value→H}{P:Program}{w:World}{ix:Nat}{sp:Nat→Bool}{abS:Bool}{F0:Nat}{t e:TypeId}{n:Nat}{cs:List Value}{zs:List an}{p:List MemPlace}
  (ht:P.underlying t=some (.array n e)) (he:P.underlying e=some .string) (hce:P.cellsOf e=1) (hct:P.cellsOf t=n)
  (h:DataW.trod enc P w ix sp abS F0 t cs=some (.agg (zs.map fun z=>.lit (.string z)),p)):cs=zs.map kl:=by
 cases F0 with
 |zero=>simp [DataW.trod] at h
 |succ F0=>
  simp only [DataW.trod,ht,hce,hct,Nat.mul_one] at h;split at h
  ·rename_i hl
   obtain⟨xs,hm,hx⟩:=Option.map_eq_some_iff.1 h;have hxs:xs.map (·.1)=zs.map fun z=>(DataW.lit (.string z):DataW H):=by have:=congrArg Prod.fst hx;simpa using this
   have hxl:xs.length=n:=by simpa using Lib.mapM_length hm
   have hzl:zs.length=n:=by have:=congrArg List.length hxs;simp at this;omega
   apply List.ext_getElem?;intro i;by_cases hi:i < n
   ·obtain⟨b,hb,hf⟩:=Lib.mapM_at hm i i (by simp [hi])
    obtain⟨z,hc,rfl,_⟩:=DataW.trod_string he hf;have h1:cs[i]? = some (.string z):=by
     have:=congrArg (·[0]?) hc
     simpa [List.getElem?_take,List.getElem?_drop] using this
    have h2:(xs.map (·.1))[i]? = some (DataW.lit (.string z.data.toList):DataW H):=by simp [hb]
    rw [hxs] at h2;simp only [List.getElem?_map,Option.map_eq_some_iff,DataW.lit.injEq,Lit.string.injEq] at h2;obtain⟨z',P9,rfl⟩:=h2;simp [h1,P9,kl]
   ·rw [List.getElem?_eq_none (by omega),List.getElem?_eq_none (by simp;omega)]
  ·cases h
theorem BG{P:Program}{W:World}{name:String}{zs:List an}{rest:List (String×DataW Unit)}{g:Nat}{t e:TypeId}{n:Nat}
  (hg:P.globalNamed name=some g) (hty:(P.globals[g]?).map (·.type)=some t) (ht:P.underlying t=some (.array n e)) (he:P.underlying e=some .string) (hce:P.cellsOf e=1) (hct:P.cellsOf t=n)
  (h:laidMet P ((name,.agg (zs.map fun z=>.lit (.string z))) :: rest) W):∃ elem fz,W.heap[g]? = some (.cells (zs.map kl).toArray elem fz):=by
 obtain⟨ps,⟨g',t',cs,F0,p,q,hg',ht',V4,hd,_,_⟩,_⟩:=h;obtain rfl:=Option.some.inj (hg.symm.trans hg');obtain rfl:=Option.some.inj (hty.symm.trans ht');unfold World.var? at V4;rw [hg] at V4;simp only [Option.bind_some] at V4;split at V4
 ·rename_i arr elem fz hc
  obtain rfl:=Option.some.inj V4;exact⟨elem,fz,by rw [hc,←Nv ht he hce hct hd]⟩
 ·cases V4
theorem H7{S:CS}:∀ l:List an,RepL (gc S false .str) (l.map kl) l []
 |[]=>⟨rfl,rfl⟩
 |z :: l=>⟨[kl z],_,[],[],rfl,rfl,⟨rfl,rfl⟩,H7 l⟩
abbrev laid:List (String×DataW Unit):=Rows.fnExactHuntTryRow.laid
theorem adf{W:World}(h:laidMetH Tryz.prog laid W):m9 gt (fun b=>W.heap[b]?):=fun g D hg=>by
 rw [MakeChecks.laidMetH_plain _ _ _ (by kernel_rfl)] at h
 unfold gt at hg;split at hg
 ·cases hg
  have h2:=h.filter fun x=>x.1 == "loop.example/sedge/impl.signTable";have e:(laid.filter fun x=>x.1 == "loop.example/sedge/impl.signTable") = [("loop.example/sedge/impl.signTable",.agg (wR.map fun z=>.lit (.string z)))]:=by kernel_rfl
  rw [e] at h2;obtain⟨a,b,c⟩:=BG (g:=0) (t:=175) (e:=9) (n:=30) (by kernel_rfl) (by kernel_rfl) (by kernel_rfl) (by kernel_rfl) (by kernel_rfl) (by kernel_rfl) h2
  exact⟨_,a,b,c,by simpa using H7 wR⟩
 ·cases hg
  have h2:=h.filter fun x=>x.1 == "loop.example/sedge/impl.opSigns";have e:(laid.filter fun x=>x.1 == "loop.example/sedge/impl.opSigns") = [("loop.example/sedge/impl.opSigns",.agg (Nx.map fun z=>.lit (.string z)))]:=by kernel_rfl
  rw [e] at h2;obtain⟨a,b,c⟩:=BG (g:=3) (t:=194) (e:=9) (n:=14) (by kernel_rfl) (by kernel_rfl) (by kernel_rfl) (by kernel_rfl) (by kernel_rfl) (by kernel_rfl) h2
  exact⟨_,a,b,c,by simpa using H7 Nx⟩
 ·cases hg
  have h2:=h.filter fun x=>x.1 == "loop.example/sedge/impl.cmpSigns";have e:(laid.filter fun x=>x.1 == "loop.example/sedge/impl.cmpSigns") = [("loop.example/sedge/impl.cmpSigns",.agg (gl4.map fun z=>.lit (.string z)))]:=by kernel_rfl
  rw [e] at h2;obtain⟨a,b,c⟩:=BG (g:=4) (t:=200) (e:=9) (n:=7) (by kernel_rfl) (by kernel_rfl) (by kernel_rfl) (by kernel_rfl) (by kernel_rfl) (by kernel_rfl) h2
  exact⟨_,a,b,c,by simpa using H7 gl4⟩
 ·cases hg
theorem pe:ownKnob Tryz.prog.godebug=none:=by kernel_rfl
theorem ZS:laidOutB Tryz.prog=true:=by kernel_rfl
theorem Ul{H:Type}{enc:TypeId×Value→H}{P:Program}{W:World}{sp:Nat→Bool}{a b c:String}:∀{gs:List (DataW H)} {ps:List MemPlace},DataW.TrodVars enc P W sp [a,b,c] gs ps→∃ x y z,gs = [x,y,z]
 |[],_,h=>h.elim
 |[_],_,⟨_,_,_,_,_,_,_,_,_,_,h,_⟩=>h.elim
 |[_,_],_,⟨_,_,_,_,_,_,_,_,_,_,⟨_,_,_,_,_,_,_,_,_,_,h,_⟩,_⟩=>h.elim
 |[x,y,z],_,_=>⟨x,y,z,rfl⟩
 |_ :: _ :: _ :: _ :: _,_,⟨_,_,_,_,_,_,_,_,_,_,⟨_,_,_,_,_,_,_,_,_,_,⟨_,_,_,_,_,_,_,_,_,_,h,_⟩,_⟩,_⟩=>h.elim
end Go.Fx.R5
namespace Go.Proofs.YtooajghcoijkaaaGreatDoor.fnExactHuntTry
open Go.ChangeShapes Go.WideShapes Go.ChangeAt Go.RowKit Go.Fx.R5
open Go.ChangeMaps (open_string shut_string)
theorem afB(s0:ByteArray)(n1:Int){W:World}(h:laidMetH Tryz.prog laid W):Calls Tryz.prog 4 #[.string s0,.int .i64 n1] W fun e W'=>e = .returned (.bool true)∧Below W.heap.size W W':=by
 obtain⟨k,hk⟩:=RV s0.data.toList n1;exact Go.Fx.To (Cz k).ok.ok (S:=fun b=>W.heap[b]?) (w:=W) rfl (fun _ _ h=>h) (adf h) (avs:=[.one (.eZ (.str) s0.data.toList),.one (.eZ Go.Fx.I n1)])
  (vs:=[.string s0,.int .i64 n1]) (d:=(s0.data.toList,n1,())) (y:=(true,())) hk ⟨⟨[.string s0],rfl,by simp [Go.Fx.gc,Go.Fx.kl]⟩,⟨[.int .i64 n1],rfl,rfl,rfl⟩,trivial⟩ rfl rfl
set_option maxRecDepth 100000 in
theorem acf(os:Os)(QK:os.Started)(H:Type)(enc:TypeId×Value→H):
  ReturnsInHanded {} Tryz.checked os 4 .any (fun w args=>(Rows.fnExactHuntTrySpec.pre enc Tryz.prog Tryz.f4 Rows.fnExactHuntTryRow.domain false w args∧laidMetH Tryz.prog laid w)∧sizedMet enc Tryz.prog Tryz.f4 (OpenSpec.ofChange Rows.fnExactHuntTrySpec) false w args)
   (Rows.fnExactHuntTrySpec.post enc Tryz.prog Tryz.f4 false true false false):=by
 refine returnsInHanded_of_change_and (C:=Tryz.checked) (X:=fun w _=>laidMetH Tryz.prog laid w) (fun _ _ _ hh h=>h.of_heap hh) pe QK (by kernel_rfl) Tryz.func4
  (ChangeSpec.witness_at (enc:=enc) (C:=Tryz.checked) (os:=os) (X:=fun w _=>laidMetH Tryz.prog laid w) false (World.laidAll Tryz.prog os laid) #[.string ⟨#[]⟩,.int .i64 0] 8 (World.laidAll_os _ _ _) (by kernel_rfl) (by kernel_rfl) (by kernel_rfl) (by kernel_rfl) (by kernel_rfl)
   (by rw [MakeChecks.laidMetH_plain _ _ _ (by kernel_rfl)];exact laidMet_laidAll _ (by kernel_rfl) (by kernel_rfl))) ?_
 intro W ix args ds gs aeE aa4 hW afJ _ hL _;have ab6:∀(j:Nat) t v,Tryz.f4.params[j]? = some t→args[j]? = some v→Value.okWide Tryz.prog W .any ix t v:=aa4;have hW':=hW;obtain⟨p,q,hA0,hV,rfl,hfz,Hx⟩:=hW;have hA:DataW.TrodAll enc Tryz.prog W 0 (fun _=>true) true Tryz.f4.params.toList args.toList ds p:=hA0;rw [Tryz.params4] at hA ab6;obtain⟨v0,vs0,d0,ds0,p0,q0,ha0,rfl,rfl,h0,r0⟩:=trodAll_cons hA;obtain⟨v1,vs1,d1,ds1,p1,q1,ha1,rfl,rfl,h1,r1⟩:=trodAll_cons r0;obtain⟨rfl,rfl,rfl⟩:=trodAll_nil r1;subst ha1;obtain rfl:args = #[v0,v1]:=by cases args;simp_all
 obtain⟨s0,rfl,rfl,rfl,w0⟩:=open_string Tryz.underlying9 (ab6 0 9 v0 rfl rfl) h0;obtain⟨n1,rfl,rfl,rfl,w1⟩:=open_int Tryz.underlying3 (ab6 1 3 v1 rfl rfl) h1;obtain⟨x1,x2,x3,rfl⟩:=Ul hV;clear hA0 aa4;refine(afB s0 n1 hL).mono fun e W' ⟨he,bel⟩=>?_;subst he;exact⟨_,rfl,_,_,_,[],_,_,hW',trodAll_mk1 (shut_bool Tryz.underlying4 _),(trodAll_cons_mk (shut_string Tryz.underlying9 w0) (trodAll_cons_mk (shut_int Tryz.underlying3 w1) trodAll_mk0)),bel.trodVars ZS (by kernel_rfl) hV,bel.frame _,fun h=>by cases h⟩
theorem afl:Rows.fnExactHuntTryRow.holds Tryz.pinned (OpenSpec.ofChange Rows.fnExactHuntTrySpec):=
 OpenClaim.holds_of_wide 4 Tryz.f4 rfl rfl rfl rfl rfl rfl rfl ⟨rfl,rfl,rfl,rfl,rfl⟩ rfl rfl rfl rfl rfl (by kernel_rfl) Tryz.func4 (by kernel_rfl)
  (of_decide_eq_true (by kernel_rfl)) (by unfold Func.isWrapper;first |(rw [if_pos (by decide +kernel)];kernel_rfl) |(rw [if_neg (by decide +kernel)];exact⟨rfl,rfl⟩))
  (fun os QK H enc _=>acf os QK H enc)
theorem card_holds:Rows.FnExactHuntTryCardSaid:=
 Claim7.holds_tied_plain_at .later [] [.data,.data,.data,.sentinel,.sentinel,.data,.data,.data] true (true,"55956d1f155cc7195b9f31c81cb504538310efd51427c496ec42be7105ba61dc") true afl (fun _ h=>by cases h) (by kernel_rfl) (fun _ h=>by cases h) fnExactHuntTry_row_tie rfl ⟨rfl,rfl⟩ (by kernel_rfl) rfl
  (fun f fn hf hfn=>by
   obtain rfl:f=4:=Option.some.inj ((show Tryz.prog.funcNamed "loop.example/sedge/laws.FnExactHuntTry" = some 4 by kernel_rfl).symm.trans hf) |>.symm
   obtain rfl:fn=Tryz.f4:=(Option.some.inj (Tryz.func4.symm.trans hfn)).symm;exact⟨by kernel_rfl,fun j t ht=>by
    rw [Tryz.params4] at ht;have hm:t∈[9,3]:=by simpa using Array.mem_of_getElem? ht
    have fo:([9,3].all fun u=>!Tryz.prog.wantsStandIn u)=true:=by kernel_rfl
    exact(show Tryz.prog.wantsStandIn t=false by simpa using List.all_eq_true.1 fo t hm)⟩)
  (by kernel_rfl)
#print axioms card_holds
end Go.Proofs.YtooajghcoijkaaaGreatDoor.fnExactHuntTry
namespace Go.Proofs.YtooajghcoijkaaaGreatDoor
theorem fnExactHuntTry_holds:Rows.FnExactHuntTryCardSaid:=fnExactHuntTry.card_holds
end Go.Proofs.YtooajghcoijkaaaGreatDoor
