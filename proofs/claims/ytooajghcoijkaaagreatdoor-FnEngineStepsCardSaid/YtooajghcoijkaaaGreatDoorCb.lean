/- Proved here: laws.FnEngineSteps returns true at every input (the tied card), no condition beyond the card. -/
import Derived.Test.YtooajghcoijkaaaGreatDoorCa
set_option linter.unusedVariables false
set_option linter.unusedSimpArgs false
set_option linter.unusedSectionVars false
set_option linter.defProp false
set_option maxRecDepth 100000
namespace Go.Fx.R5
open Go Go.Fx Go.Proofs Go.Proofs.Tryz
noncomputable section
abbrev td:=XS→XS→XS→Int→XI→Int→Int→Option (ab×Int×Unit)
def sM(f:td):CF:=⟨⟨98,[(146,5),(118,2)],[(.l 146 0,.lit (.lB 118 0)),lD 146 1 sS,lD 146 2 sS,lD 146 3 sS,lI 146 4,lD 118 0 (.slice U)],[rP 0 146,rI 1,lI 118 1],[]⟩,[.ret [rD 500000 .str,lI 118 1] []],fun c v=>f c.2.1 c.2.2.1 c.2.2.2.1 c.2.2.2.2.1 c.2.2.2.2.2.1 v.2.2.1 v.2.1⟩
def CJ(f:td):iL:=mg (sM f).L (sM f).F (zJ [500000] (sM f).V)
def tm(ma:td)(k:Nat)(hG fU gK:XS)(less:Int)(b:XI)(p bA:Int):Option (ab×Int×Unit):=
 (aI b p 12).bind fun r1=>
 aa (fun(v:Bool)=>
  bif v then
   (aI b r1.2.1 2).bind fun r2=>
   bif r2.1==0 then
    (bK b r2.2.1 hG).bind fun r3=>
    some (r3.1,r3.2.1,())
   else
    (aI b r2.2.1 9).bind fun r4=>
    (ny k r4.1).bind fun r5=>
    some (r5.1,r4.2.1,())
  else
   bif r1.1==3 then
    (bK b r1.2.1 ([([49,48,48,48]:ab),([50,49,52,55,52,56,51,54,52,55]:ab),([54,53,53,51,54]:ab),([49,48,48]:ab)])).bind fun r6=>
    some (r6.1,r6.2.1,())
   else
    bif r1.1==4 then
     (ma hG fU gK less b r1.2.1 (bC (bA - 1))).bind fun r7=>
     (bE ([97,91]:ab) r7.1).bind fun s=>
     (bE s ([93]:ab)).bind fun s2=>
     some (s2,r7.2.1,())
    else
     aa (fun(v2:Bool)=>
      bif v2 then
       (bK b r1.2.1 fU).bind fun r8=>
       (bE ([42]:ab) r8.1).bind fun s3=>
       some (s3,r8.2.1,())
      else
       bif r1.1==6 then
        (ma hG fU gK less b r1.2.1 0).bind fun r9=>
        (bE ([45]:ab) r9.1).bind fun s4=>
        some (s4,r9.2.1,())
       else
        (bK b r1.2.1 ([([43]:ab),([45]:ab),([42]:ab),([47]:ab),([37]:ab),([38]:ab),([124]:ab),([94]:ab),([60,60]:ab),([62,62]:ab),([43,37]:ab),([45,37]:ab),([42,37]:ab),([43]:ab),([45]:ab),([43]:ab)])).bind fun kC=>
        (ma hG fU gK less b kC.2.1 (bC (bA - 1))).bind fun oc=>
        (bE oc.1 ([32]:ab)).bind fun s5=>
        (bE s5 kC.1).bind fun s6=>
        (bE s6 ([32]:ab)).bind fun s7=>
        (ma hG fU gK less b oc.2.1 (bC (bA - 1))).bind fun pf=>
        (bE s7 pf.1).bind fun s8=>
        (aI b pf.2.1 2).bind fun p7=>
        bif p7.1==0 then
         (bE ([40]:ab) s8).bind fun s9=>
         (bE s9 ([41]:ab)).bind fun s10=>
         some (s10,p7.2.1,())
        else
         some (s8,p7.2.1,())) fun jf=>
     bif r1.1==5 then
      jf (decide ((fU.length:Int) > 0))
     else
      jf false) fun cJ=>
 bif decide (bA≤0) then
  cJ true
 else
  cJ (decide (r1.1<3))
def cC:Nat→td
 |0=>fun _ _ _ _ _ _ _=>none
 |k+1=>tm (cC k) k
section
variable (ma:Gd bw 142 CJ)
def Lk(k:Nat):Cl bw:=lO ⟨[fF,xw k,uh,ma.cl],[],[]⟩ 142 f142 func142 call142 [500000] (sM (tm ma.1 k)) []
end
theorem Be:∀ k,ld prog gt 142 (CJ (cC k))
 |0=>cU (fun _ _=>rfl)
 |k+1=>(Lk ⟨_,Be k⟩ k).ok
def wJ(k:Nat):Cl bw:=⟨_,_,Be k⟩
abbrev pN:=XS→XS→XS→Int→XI→Int→Int→Option (ab×Int×Unit)
def sJ(f:pN):CF:=⟨⟨104,[(146,5),(118,2)],[(.l 146 0,.lit (.lB 118 0)),lD 146 1 sS,lD 146 2 sS,lD 146 3 sS,lI 146 4,lD 118 0 (.slice U)],[rP 0 146,rI 1,lI 118 1],[]⟩,[.ret [rD 500000 .str,lI 118 1] []],fun c v=>f c.2.1 c.2.2.1 c.2.2.2.1 c.2.2.2.2.1 c.2.2.2.2.2.1 v.2.2.1 v.2.1⟩
def CH(f:pN):iL:=mg (sJ f).L (sJ f).F (zJ [500000] (sJ f).V)
def qt(dW:pN)(q:Nat)(b2:XI)(IC:XS)(p2:Int):Option (Int×ab×Unit):=
 (bK b2 p2 IC).bind fun r8=>
 (bE r8.1 ([32]:ab)).bind fun s8=>
 (bK b2 r8.2.1 ([([61,61]:ab),([33,61]:ab),([60]:ab),([60,61]:ab),([62]:ab),([62,61]:ab)])).bind fun r9=>
 (bE s8 r9.1).bind fun s9=>
 (bE s9 ([32]:ab)).bind fun s10=>
 (aI b2 r9.2.1 12).bind fun kC=>
 (ny q kC.1).bind fun oc=>
 (bE s10 oc.1).bind fun s11=>
 some (kC.2.1,s11,())
def tj(dW:pN)(k:Nat)(hG fU gK:XS)(less:Int)(b:XI)(p bA:Int):Option (ab×Int×Unit):=
 (aI b p 9).bind fun r1=>
 aa (fun(v:Bool)=>
  bif v then
   (dW hG fU gK less b r1.2.1 (bC (bA - 1))).bind fun r2=>
   (bE r2.1 ([32,97,110,100,32]:ab)).bind fun s=>
   (dW hG fU gK less b r2.2.1 (bC (bA - 1))).bind fun r3=>
   (bE s r3.1).bind fun s2=>
   some (s2,r3.2.1,())
  else
   aa (fun(v2:Bool)=>
    bif v2 then
     (dW hG fU gK less b r1.2.1 (bC (bA - 1))).bind fun r4=>
     (bE r4.1 ([32,111,114,32]:ab)).bind fun s3=>
     (dW hG fU gK less b r4.2.1 (bC (bA - 1))).bind fun r5=>
     (bE s3 r5.1).bind fun s4=>
     some (s4,r5.2.1,())
    else
     aa (fun(v3:Bool)=>
      bif v3 then
       (dW hG fU gK less b r1.2.1 (bC (bA - 1))).bind fun r6=>
       (bE ([110,111,116,32,91]:ab) r6.1).bind fun s5=>
       (bE s5 ([93]:ab)).bind fun s6=>
       some (s6,r6.2.1,())
      else
       aa (fun(v4:Bool)=>
        bif v4 then
         (bK b r1.2.1 fU).bind fun r7=>
         (bE ([110,117,108,108,32]:ab) r7.1).bind fun s7=>
         some (s7,r7.2.1,())
        else
         bif decide (r1.1<6) then
          (qt dW k b hG r1.2.1).bind fun o=>
          some (o.2.1,o.1,())
         else
          (cC k hG fU gK less b r1.2.1 1).bind fun r8=>
          (bE r8.1 ([32]:ab)).bind fun s8=>
          (bK b r8.2.1 ([([61,61]:ab),([33,61]:ab),([60]:ab),([60,61]:ab),([62]:ab),([62,61]:ab)])).bind fun r9=>
          (bE s8 r9.1).bind fun s9=>
          (bE s9 ([32]:ab)).bind fun s10=>
          (cC k hG fU gK less b r9.2.1 1).bind fun kC=>
          (bE s10 kC.1).bind fun s11=>
          some (s11,kC.2.1,())) fun jx4=>
       bif r1.1==3 then
        jx4 (decide ((fU.length:Int) > 0))
       else
        jx4 false) fun wg=>
     bif decide (bA > 0) then
      wg (r1.1==2)
     else
      wg false) fun jf=>
   bif decide (bA > 0) then
    jf (r1.1==1)
   else
    jf false) fun cJ=>
 bif decide (bA > 0) then
  cJ (r1.1==0)
 else
  cJ false
def fV:Nat→pN
 |0=>fun _ _ _ _ _ _ _=>none
 |k+1=>tj (fV k) k
section
variable (dW:Gd bw 143 CH)
def xl(k:Nat):mS:=⟨⟨104,[(118,2),(146,5)],[lD 118 0 (.slice U),(.l 146 0,.lit (.lB 118 0)),lD 146 1 sS,lD 146 2 sS,lD 146 3 sS,lI 146 4,rP 0 146],[lI 118 1],[]⟩,[.ex .normal [lI 118 1,rD 4 .str]],fun q c v=>qt dW.1 k c.1 c.2.2.1 v.1⟩
def Cz(k:Nat):Ev bw:=⟨[fF,xw k,uh,wJ k,dW.cl],[rg 11 (xl dW k)],[]⟩
def Ft(k:Nat):Cd bw:=rgC (Cz dW k) f143 11 (xl dW k) [[0,1,2,3,4,7,12,13,14,15,5,6,8,9,10,11,16,17,18,19],[0,1,2,3,4,7,12,13,14,15,8,5,6,9,10,11,16,17,18,19]]
def Li(k:Nat):Cl bw:=lO (Cz dW k) 143 f143 func143 call143 [500000] (sJ (tj dW.1 k)) [Ft dW k]
end
theorem Bc:∀ k,ld prog gt 143 (CH (fV k))
 |0=>cU (fun _ _=>rfl)
 |k+1=>(Li ⟨_,Bc k⟩ k).ok
def K9(k:Nat):Cl bw:=⟨_,_,Bc k⟩
def uI(k:Nat)(hG fU gK:XS)(less:Int)(b:XI)(p k1:Int):Option (ab×Int×Unit):=
 bif decide (k1<13) then
  (bK b p ([([105]:ab),([105]:ab),([120]:ab),([51]:ab),([55]:ab),([105,32,43,32,49]:ab)])).bind fun r1=>
  (bE ([97,91]:ab) r1.1).bind fun s=>
  (bE s ([93,32,61,32]:ab)).bind fun s2=>
  (cC k hG fU gK less b r1.2.1 1).bind fun r2=>
  (bE s2 r2.1).bind fun s3=>
  (bE s3 ([59,10]:ab)).bind fun s4=>
  some (s4,r2.2.1,())
 else
  bif k1==13 then
   (bK b p gK).bind fun r3=>
   (bE ([114,101,97,100,32]:ab) r3.1).bind fun s5=>
   (bE s5 ([59,10]:ab)).bind fun s6=>
   some (s6,r3.2.1,())
  else
   bif k1==14 then
    (cC k hG fU gK less b p 2).bind fun r4=>
    (bE ([112,114,105,110,116,32]:ab) r4.1).bind fun s7=>
    (bE s7 ([59,10]:ab)).bind fun s8=>
    some (s8,r4.2.1,())
   else
    aa (fun(v:Bool)=>
     bif v then
      (bK b p fU).bind fun r5=>
      (bE r5.1 ([32,61,32,38]:ab)).bind fun s9=>
      (bK b r5.2.1 ([([97]:ab),([98]:ab)])).bind fun r6=>
      (bE s9 r6.1).bind fun s10=>
      (bE s10 ([91]:ab)).bind fun s11=>
      (bK b r6.2.1 ([([105]:ab),([48]:ab),([50]:ab),([120]:ab)])).bind fun r7=>
      (bE s11 r7.1).bind fun s12=>
      (bE s12 ([93,59,10]:ab)).bind fun s13=>
      some (s13,r7.2.1,())
     else
      aa (fun(v2:Bool)=>
       bif v2 then
        (bK b p fU).bind fun r8=>
        (bE ([42]:ab) r8.1).bind fun s14=>
        (bE s14 ([32,61,32]:ab)).bind fun s15=>
        (cC k hG fU gK less b r8.2.1 1).bind fun r9=>
        (bE s15 r9.1).bind fun s16=>
        (bE s16 ([59,10]:ab)).bind fun s17=>
        some (s17,r9.2.1,())
       else
        aa (fun(v3:Bool)=>
         bif v3 then
          (bK b p fU).bind fun kC=>
          (bE kC.1 ([32,43,61,32]:ab)).bind fun s18=>
          (bK b kC.2.1 ([([49]:ab),([49]:ab),([120]:ab),([45,49]:ab)])).bind fun oc=>
          (bE s18 oc.1).bind fun s19=>
          (bE s19 ([59,10]:ab)).bind fun s20=>
          some (s20,oc.2.1,())
         else
          aa (fun(v4:Bool)=>
           bif v4 then
            (bK b p fU).bind fun pf=>
            (bE pf.1 ([32,61,32]:ab)).bind fun s21=>
            (bK b pf.2.1 ([([112]:ab),([113]:ab),([110,117,108,108]:ab)])).bind fun p7=>
            (bE s21 p7.1).bind fun s22=>
            (bE s22 ([59,10]:ab)).bind fun s23=>
            some (s23,p7.2.1,())
           else
            bif k1==19 then
             (bK b p gK).bind fun rY=>
             (bE rY.1 ([32,61,32,102,40]:ab)).bind fun s24=>
             (cC k hG fU gK less b rY.2.1 1).bind fun qW=>
             (bE s24 qW.1).bind fun s25=>
             (bE s25 ([44,32]:ab)).bind fun s26=>
             (cC k hG fU gK less b qW.2.1 0).bind fun th=>
             (bE s26 th.1).bind fun s27=>
             (bE s27 ([41,59,10]:ab)).bind fun s28=>
             some (s28,th.2.1,())
            else
             bif k1==20 then
              (bK b p gK).bind fun vA=>
              (bE vA.1 ([32,61,32,104,40]:ab)).bind fun s29=>
              (cC k hG fU gK less b vA.2.1 1).bind fun rW=>
              (bE s29 rW.1).bind fun s30=>
              (bE s30 ([41,59,10]:ab)).bind fun s31=>
              some (s31,rW.2.1,())
             else
              aa (fun(jv:Bool×Int)=>
               bif (jv.1) then
                (bK b (jv.2) ([([115,116,111,112,59,10]:ab),([114,101,116,117,114,110,32,120,59,10]:ab)])).bind fun vB=>
                some (vB.1,vB.2.1,())
               else
                some (([120,32,61,32,120,32,43,32,49,59,10]:ab),(jv.2),())) fun jx5=>
              bif k1==21 then
               (aI b p 4).bind fun qX=>
               jx5 (qX.1==0,qX.2.1)
              else
               jx5 (false,p)) fun jx4=>
          bif k1==18 then
           jx4 (decide ((fU.length:Int) > 0))
          else
           jx4 false) fun wg=>
        bif k1==17 then
         wg (decide ((fU.length:Int) > 0))
        else
         wg false) fun jf=>
      bif k1==16 then
       jf (decide ((fU.length:Int) > 0))
      else
       jf false) fun cJ=>
    bif k1==15 then
     cJ (decide ((fU.length:Int) > 0))
    else
     cJ false
def JA(k:Nat):Cl bw:=lO ⟨[fF,uh,wJ k],[],[]⟩ 145 f145 func145 call145 [500000] ⟨⟨168,[(146,5),(118,2)],[(.l 146 0,.lit (.lB 118 0)),lD 146 1 sS,lD 146 2 sS,lD 146 3 sS,lI 146 4,lD 118 0 (.slice U)],[rP 0 146,rI 1,lI 118 1],[]⟩,[.ret [rD 500000 .str,lI 118 1] []],fun c v=>uI k c.2.1 c.2.2.1 c.2.2.2.1 c.2.2.2.2.1 c.2.2.2.2.2.1 v.2.2.1 v.2.1⟩ []
abbrev kq:=XS→XS→XS→Int→XI→Int→Int→Option (ab×Int×Int×Unit)
def sK(f:kq):CF:=⟨⟨192,[(146,5),(118,2)],[(.l 146 0,.lit (.lB 118 0)),lD 146 1 sS,lD 146 2 sS,lD 146 3 sS,lD 118 0 (.slice U)],[rP 0 146,rI 1,lI 146 4,lI 118 1],[]⟩,[.ret [rD 500000 .str,lI 118 1,lI 146 4] []],fun c v=>f c.2.1 c.2.2.1 c.2.2.2.1 v.2.2.1 c.2.2.2.2.1 v.2.2.2.1 v.2.1⟩
def CI(f:kq):iL:=mg (sK f).L (sK f).F (zJ [500000] (sK f).V)
abbrev jD:=XS→XS→XS→Int→XI→Int→Int→Int→Option (ab×Int×Int×Unit)
def qY(f:jD):CF:=⟨⟨21,[(146,5),(118,2)],[(.l 146 0,.lit (.lB 118 0)),lD 146 1 sS,lD 146 2 sS,lD 146 3 sS,lD 118 0 (.slice U)],[rP 0 146,rI 1,rI 2,lI 146 4,lI 118 1],[]⟩,[.ret [rD 500000 .str,lI 118 1,lI 146 4] []],fun c v=>f c.2.1 c.2.2.1 c.2.2.2.1 v.2.2.2.1 c.2.2.2.2.1 v.2.2.2.2.1 v.2.1 v.2.2.1⟩
def AU(f:jD):iL:=mg (qY f).L (qY f).F (zJ [500000] (qY f).V)
def uH(ck:kq)(bc:jD)(q:Nat)(b2:XI)(IC NX U4:XS)(kZ p2 No:Int):Option (Int×Int×ab×Unit):=
 (aI b2 p2 3).bind fun qX=>
 (ny q qX.1).bind fun vB=>
 (bE ([102,111,114,32,105,32,61,32]:ab) vB.1).bind fun s25=>
 (bE s25 ([32,46,46,32]:ab)).bind fun s26=>
 (bK b2 qX.2.1 ([([52]:ab),([56]:ab),([120]:ab),([57]:ab)])).bind fun y8=>
 (bE s26 y8.1).bind fun s27=>
 (bE s27 ([32]:ab)).bind fun s28=>
 (aI b2 y8.2.1 2).bind fun Kf=>
 (bc IC NX U4 No b2 Kf.2.1 (bC (kZ - 1)) (bC (1+Kf.1))).bind fun I3=>
 (bE s28 I3.1).bind fun s29=>
 (bE s29 ([10]:ab)).bind fun s30=>
 some (I3.2.1,I3.2.2.1,s30,())
def pX(ck:kq)(bc:jD)(k:Nat)(hG fU gK:XS)(less:Int)(b:XI)(p bA:Int):Option (ab×Int×Int×Unit):=
 (aI b p 22).bind fun r1=>
 bif decide ((bC (less - 1))<0) then
  some (([120,32,61,32,120,59,10]:ab),r1.2.1,(bC (less - 1)),())
 else
  aa (fun(v2:Bool)=>
   bif v2 then
    (bK b r1.2.1 gK).bind fun r2=>
    (bE r2.1 ([32,61,32]:ab)).bind fun s=>
    (cC k hG fU gK (bC (less - 1)) b r2.2.1 2).bind fun r3=>
    (bE s r3.1).bind fun s2=>
    (bE s2 ([59,10]:ab)).bind fun s3=>
    some (s3,r3.2.1,(bC (less - 1)),())
   else
    bif r1.1==5 then
     (fV k hG fU gK (bC (less - 1)) b r1.2.1 1).bind fun r4=>
     (bE ([105,102,32]:ab) r4.1).bind fun s4=>
     (bE s4 ([32]:ab)).bind fun s5=>
     (aI b r4.2.1 2).bind fun r5=>
     (bc hG fU gK (bC (less - 1)) b r5.2.1 (bC (bA - 1)) (bC (1+r5.1))).bind fun r6=>
     (bE s5 r6.1).bind fun s6=>
     (bE s6 ([32,101,108,115,101,32]:ab)).bind fun s7=>
     (aI b r6.2.1 2).bind fun r7=>
     (bc hG fU gK r6.2.2.1 b r7.2.1 (bC (bA - 1)) r7.1).bind fun r8=>
     (bE s7 r8.1).bind fun s8=>
     (bE s8 ([10]:ab)).bind fun s9=>
     some (s9,r8.2.1,r8.2.2.1,())
    else
     bif r1.1==6 then
      (fV k hG fU gK (bC (less - 1)) b r1.2.1 2).bind fun r9=>
      (bE ([105,102,32]:ab) r9.1).bind fun s10=>
      (bE s10 ([32]:ab)).bind fun s11=>
      (aI b r9.2.1 2).bind fun kC=>
      (bc hG fU gK (bC (less - 1)) b kC.2.1 (bC (bA - 1)) (bC (1+kC.1))).bind fun oc=>
      (bE s11 oc.1).bind fun s12=>
      (bE s12 ([10]:ab)).bind fun s13=>
      some (s13,oc.2.1,oc.2.2.1,())
     else
      bif r1.1==7 then
       (bK b r1.2.1 gK).bind fun pf=>
       (bE ([119,104,105,108,101,32]:ab) pf.1).bind fun s14=>
       (bE s14 ([32,60,32]:ab)).bind fun s15=>
       (aI b pf.2.1 14).bind fun p7=>
       (ny k p7.1).bind fun rY=>
       (bE s15 rY.1).bind fun s16=>
       (bE s16 ([32]:ab)).bind fun s17=>
       (aI b p7.2.1 2).bind fun qW=>
       (bc hG fU gK (bC (less - 1)) b qW.2.1 (bC (bA - 1)) qW.1).bind fun th=>
       (sub th.1 0 2).bind fun l=>
       (bE s17 l).bind fun s18=>
       (bE s18 pf.1).bind fun s19=>
       (bE s19 ([32,61,32]:ab)).bind fun s20=>
       (bE s20 pf.1).bind fun s21=>
       (bE s21 ([32,43,32]:ab)).bind fun s22=>
       (aI b th.2.1 3).bind fun vA=>
       (ny k (bC (1+vA.1))).bind fun rW=>
       (bE s22 rW.1).bind fun s23=>
       (bE s23 ([59,10,125,10]:ab)).bind fun s24=>
       some (s24,vA.2.1,th.2.2.1,())
      else
       bif r1.1==8 then
        (uH ck bc k b hG fU gK bA r1.2.1 (bC (less - 1))).bind fun o=>
        some (o.2.2.1,o.1,o.2.1,())
       else
        bif r1.1==9 then
         (fV k hG fU gK (bC (less - 1)) b r1.2.1 1).bind fun qX=>
         (bE ([119,104,105,108,101,32]:ab) qX.1).bind fun s25=>
         (bE s25 ([32]:ab)).bind fun s26=>
         (aI b qX.2.1 2).bind fun vB=>
         (bc hG fU gK (bC (less - 1)) b vB.2.1 (bC (bA - 1)) (bC (1+vB.1))).bind fun y8=>
         (bE s26 y8.1).bind fun s27=>
         (bE s27 ([10]:ab)).bind fun s28=>
         some (s28,y8.2.1,y8.2.2.1,())
        else
         bif r1.1==10 then
          (fV k hG fU gK (bC (less - 1)) b r1.2.1 1).bind fun Kf=>
          (bE ([97,115,115,101,114,116,32]:ab) Kf.1).bind fun s29=>
          (bE s29 ([59,10]:ab)).bind fun s30=>
          some (s30,Kf.2.1,(bC (less - 1)),())
         else
          (uI k hG fU gK (bC (less - 1)) b r1.2.1 r1.1).bind fun I3=>
          some (I3.1,I3.2.1,(bC (less - 1)),())) fun jf=>
  bif decide (r1.1<5) then
   jf true
  else
   aa (fun(v:Bool)=>
    jf v) fun cJ=>
   bif decide (bA≤0) then
    cJ (decide (r1.1<11))
   else
    cJ false
def lT(ck:kq)(bc:jD)(q:Nat):Nat→XI→XS→XS→XS→Int→Int→Int→Int→ab→Int→Option (Int×Int×ab×Unit)
 |0,_,_,_,_,_,_,_,_,_,_=>none
 |k+1,b2,IC,NX,U4,kZ,n2,p2,No,out,k1=>
  bif decide (k1<n2) then
   (ck IC NX U4 No b2 p2 kZ).bind fun r1=>
   (bE out r1.1).bind fun s=>
   lT ck bc q k b2 IC NX U4 kZ n2 r1.2.1 r1.2.2.1 s (bC (k1+1))
  else
   some (p2,No,out,())
def o9(ck:kq)(bc:jD)(k:Nat)(hG fU gK:XS)(less:Int)(b:XI)(p bA n:Int):Option (ab×Int×Int×Unit):=
 (lT ck bc k k b hG fU gK bA n p less ([123,10]:ab) 0).bind fun o=>
 (bE o.2.2.1 ([125]:ab)).bind fun s=>
 some (s,o.1,o.2.1,())
def lR:Nat→kq×jD
 |0=>(fun _ _ _ _ _ _ _=>none,fun _ _ _ _ _ _ _ _=>none)
 |k+1=>(pX (lR k).1 (lR k).2 k,o9 (lR k).1 (lR k).2 k)
def mO(k:Nat):kq:=(lR k).1
def o8(k:Nat):jD:=(lR k).2
section
variable (ck:Gd bw 116 CI) (bc:Gd bw 144 AU)
def xm(k:Nat):mS:=⟨⟨192,[(118,2),(146,5)],[lD 118 0 (.slice U),(.l 146 0,.lit (.lB 118 0)),lD 146 1 sS,lD 146 2 sS,lD 146 3 sS,rP 0 146,rI 1],[lI 118 1,lI 146 4],[]⟩,[.ex .normal [lI 118 1,lI 146 4,rD 4 .str]],fun q c v=>uH ck.1 bc.1 k c.1 c.2.2.1 c.2.2.2.1 c.2.2.2.2.1 c.2.2.2.2.2.2.1 v.1 v.2.1⟩
def CA(k:Nat):Ev bw:=⟨[fF,xw k,uh,wJ k,K9 k,bc.cl,JA k],[rg 15 (xm ck bc k)],[]⟩
def Fu(k:Nat):Cd bw:=rgC (CA ck bc k) f116 15 (xm ck bc k) [[0,1,2,3,8,13,14,15,16,17,18,19,4,5,6,7,9,10,11,12,20,21,22,23,24,25],[0,1,2,3,8,13,14,15,16,17,18,19,4,9,5,6,7,10,11,12,20,21,22,23,24,25],[0,1,2,3,8,13,14,15,16,17,18,19,9,4,5,6,7,10,11,12,20,21,22,23,24,25]]
def Lj(k:Nat):Cl bw:=lO (CA ck bc k) 116 f116 func116 call116 [500000] (sK (pX ck.1 bc.1 k)) [Fu ck bc k]
def xj(k:Nat):mS:=⟨⟨21,[(118,2),(146,5)],[lD 118 0 (.slice U),(.l 146 0,.lit (.lB 118 0)),lD 146 1 sS,lD 146 2 sS,lD 146 3 sS,rP 0 146,rI 1,rI 2],[lI 118 1,lI 146 4,rD 7 .str,rI 8],[]⟩,[.ex (.exit 0) [lI 118 1,lI 146 4,rD 7 .str]],fun q c v=>lT ck.1 bc.1 k q c.1 c.2.2.1 c.2.2.2.1 c.2.2.2.2.1 c.2.2.2.2.2.2.1 c.2.2.2.2.2.2.2.1 v.1 v.2.1 v.2.2.1 v.2.2.2.1⟩
def AM(k:Nat):Ev bw:=⟨[ck.cl],[lp 0 (xj ck bc k) k],[]⟩
def Fr(k q:Nat):Cd bw:=oM (AM ck bc k) f144 0 (xj ck bc k) q []
def JL(k:Nat):Cl bw:=lO (AM ck bc k) 144 f144 func144 call144 [500000] (qY (o9 ck.1 bc.1 k)) [Fr ck bc k k]
end
theorem qC:∀ k,ld prog gt 116 (CI (mO k))∧ld prog gt 144 (AU (o8 k))
 |0=>⟨cU (fun _ _=>rfl),cU (fun _ _=>rfl)⟩
 |k+1=>have ih:=qC k;⟨(Lj ⟨_,ih.1⟩ ⟨_,ih.2⟩ k).ok,(JL ⟨_,ih.1⟩ ⟨_,ih.2⟩ k).ok⟩
def La(k:Nat):Cl bw:=⟨_,_,(qC k).1⟩
def W3(k:Nat):Cl bw:=⟨_,_,(qC k).2⟩
def mV(q:Nat):Nat→XI→XS→XS→XS→Int→Int→ab→Int→Option (Int×Int×ab×Unit)
 |0,_,_,_,_,_,_,_,_=>none
 |k+1,b2,IC,NX,U4,p2,No,out,k1=>
  bif decide (k1 > 0) then
   (mO q IC NX U4 No b2 p2 2).bind fun r2=>
   (bE out r2.1).bind fun s=>
   mV q k b2 IC NX U4 r2.2.1 r2.2.2.1 s (bC (k1 - 1))
  else
   some (p2,No,out,())
def p8(k:Nat)(hG fU gK:XS)(less:Int)(b:XI)(p n:Int):Option (ab×Int×Int×Unit):=
 (aI b p (bC (2 * n))).bind fun r1=>
 (mV k k b hG fU gK r1.2.1 less ([]:ab) (bC (1+r1.1))).bind fun o=>
 some (o.2.2.1,o.1,o.2.1,())
def yT(k:Nat):mS:=⟨⟨24,[(118,2),(146,5)],[lD 118 0 (.slice U),(.l 146 0,.lit (.lB 118 0)),lD 146 1 sS,lD 146 2 sS,lD 146 3 sS,rP 0 146],[lI 118 1,lI 146 4,rD 5 .str,rI 6],[]⟩,[.ex (.exit 0) [lI 118 1,lI 146 4,rD 5 .str]],fun q c v=>mV k q c.1 c.2.2.1 c.2.2.2.1 c.2.2.2.2.1 v.1 v.2.1 v.2.2.1 v.2.2.2.1⟩
def Cy(k:Nat):Ev bw:=⟨[fF,La k],[lp 0 (yT k) k],[]⟩
def GG(k q:Nat):Cd bw:=oM (Cy k) f81 0 (yT k) q []
def K8(k:Nat):Cl bw:=lO (Cy k) 81 f81 func81 call81 [500000] ⟨⟨24,[(146,5),(118,2)],[(.l 146 0,.lit (.lB 118 0)),lD 146 1 sS,lD 146 2 sS,lD 146 3 sS,lD 118 0 (.slice U)],[rP 0 146,rI 1,lI 146 4,lI 118 1],[]⟩,[.ret [rD 500000 .str,lI 118 1,lI 146 4] []],fun c v=>p8 k c.2.1 c.2.2.1 c.2.2.2.1 v.2.2.1 c.2.2.2.2.1 v.2.2.2.1 v.2.1⟩ [GG k k]
def vT(k:Nat)(b:XI)(p:Int):Option (ab×Int×Unit):=
 (aI b p 16).bind fun r1=>
 (aI b r1.2.1 5).bind fun r2=>
 (ny k (bC (1+r2.1))).bind fun r3=>
 (bE ([97,114,114,97,121,32,97,91,56,93,59,10,97,114,114,97,121,32,98,91]:ab) r3.1).bind fun s=>
 (bE s ([93,59,10,118,97,114,32,103,59,10,118,97,114,32,110,59,10]:ab)).bind fun s2=>
 (p8 k ([([120]:ab),([121]:ab),([103]:ab)]) [] ([([120]:ab),([103]:ab)]) (bC (5+r1.1)) b r2.2.1 1).bind fun r4=>
 (bE ([102,117,110,99,32,102,40,120,44,32,121,41,32,123,10,118,97,114,32,105,59,10]:ab) r4.1).bind fun s3=>
 (bE s3 ([114,101,116,117,114,110,32,120,59,10,125,10]:ab)).bind fun s4=>
 (p8 k ([([120]:ab),([121]:ab),([103]:ab)]) [] ([([120]:ab),([103]:ab)]) r4.2.2.1 b r4.2.1 1).bind fun r5=>
 (bE ([102,117,110,99,32,104,40,120,41,32,123,10,118,97,114,32,105,44,32,121,59,10]:ab) r5.1).bind fun s5=>
 (bE s5 ([114,101,116,117,114,110,32,121,59,10,125,10]:ab)).bind fun s6=>
 (aI b r5.2.1 14).bind fun r6=>
 (p8 k ([([120]:ab),([121]:ab),([122]:ab),([103]:ab),([110]:ab),([105]:ab)]) ([([112]:ab),([113]:ab)]) ([([120]:ab),([121]:ab),([122]:ab),([103]:ab),([110]:ab)]) (bC (4+r6.1)) b r6.2.1 5).bind fun r7=>
 (bE ([102,117,110,99,32,109,97,105,110,40,41,32,123,10,118,97,114,32,105,44,32,120,44,32,121,44,32,122,59,10,114,101,102,32,112,44,32,113,59,10]:ab) r7.1).bind fun s7=>
 (bE s7 ([125,10]:ab)).bind fun s8=>
 (aI b r7.2.1 4).bind fun r8=>
 bif r8.1==0 then
  (bE s2 s8).bind fun s9=>
  (bE s9 s6).bind fun s10=>
  (bE s10 s4).bind fun s11=>
  some (s11,r8.2.1,())
 else
  (bE s2 s4).bind fun s12=>
  (bE s12 s6).bind fun s13=>
  (bE s13 s8).bind fun s14=>
  some (s14,r8.2.1,())
def Lc(k:Nat):Cl bw:=lO ⟨[fF,xw k,K8 k],[],[(13,146)]⟩ 51 f51 func51 call51 [500000] ⟨⟨75,[(118,2)],[lD 118 0 (.slice U)],[rP 0 118,lI 118 1],[]⟩,[.ret [rD 500000 .str,lI 118 1] []],fun c v=>vT k c.1 v.2.1⟩ []
end
end Go.Fx.R5
namespace Go.Fx.R5
open Go Go.Fx Go.Proofs Go.Proofs.Tryz
noncomputable section
def wA(b:XI)(p:Int):Option (ab×Int×Unit):=
 (aI b p 8).bind fun r1=>
 bif decide (r1.1<2) then
  (aI b r1.2.1 17).bind fun r2=>
  (bL ([([97,114,114,97,121]:ab),([118,97,114]:ab),([114,101,102]:ab),([102,117,110,99]:ab),([105,102]:ab),([101,108,115,101]:ab),([119,104,105,108,101]:ab),([102,111,114]:ab),([114,101,97,100]:ab),([112,114,105,110,116]:ab),([97,115,115,101,114,116]:ab),([115,116,111,112]:ab),([114,101,116,117,114,110]:ab),([97,110,100]:ab),([111,114]:ab),([110,111,116]:ab),([110,117,108,108]:ab)]) r2.1).bind fun x1=>
  (bL ([([97,114,114,97,121]:ab),([118,97,114]:ab),([114,101,102]:ab),([102,117,110,99]:ab),([105,102]:ab),([101,108,115,101]:ab),([119,104,105,108,101]:ab),([102,111,114]:ab),([114,101,97,100]:ab),([112,114,105,110,116]:ab),([97,115,115,101,114,116]:ab),([115,116,111,112]:ab),([114,101,116,117,114,110]:ab),([97,110,100]:ab),([111,114]:ab),([110,111,116]:ab),([110,117,108,108]:ab)]) (r2.1.toNat:Int)).bind fun x2=>
  some (x2,r2.2.1,())
 else
  bif decide (r1.1<4) then
   (aI b r1.2.1 5).bind fun r3=>
   (bL ([([120]:ab),([109,97,105,110]:ab),([97,49]:ab),([97,98,99,100,101,102,103,104]:ab),([118,97,114,97]:ab)]) r3.1).bind fun x3=>
   (bL ([([120]:ab),([109,97,105,110]:ab),([97,49]:ab),([97,98,99,100,101,102,103,104]:ab),([118,97,114,97]:ab)]) (r3.1.toNat:Int)).bind fun x4=>
   some (x4,r3.2.1,())
  else
   bif r1.1==4 then
    (aI b r1.2.1 4).bind fun r4=>
    (bL ([([48]:ab),([55]:ab),([49,48]:ab),([50,49,52,55,52,56,51,54,52,55]:ab)]) r4.1).bind fun x5=>
    (bL ([([48]:ab),([55]:ab),([49,48]:ab),([50,49,52,55,52,56,51,54,52,55]:ab)]) (r4.1.toNat:Int)).bind fun x6=>
    some (x6,r4.2.1,())
   else
    (xO).bind fun r5=>
    (aI b r1.2.1 (r5.1.length:Int)).bind fun r6=>
    (bL r5.1 r6.1).bind fun x7=>
    some (x7,r6.2.1,())
def OB:Cl bw:=lO ⟨[fF,DR],[],[]⟩ 82 f82 func82 call82 [500000] ⟨⟨36,[(118,2)],[lD 118 0 (.slice U)],[rP 0 118,lI 118 1],[]⟩,[.ret [rD 500000 .str,lI 118 1] []],fun c v=>wA c.1 v.2.1⟩ []
def Cp(b:XI)(p:Int):Option (ab×Int×Unit):=
 (aI b p 15).bind fun r1=>
 (bL ([([97,98,99,100,101,102,103,104,105]:ab),([50,49,52,55,52,56,51,54,52,56]:ab),([48,49]:ab),([57,57,57,57,57,57,57,57,57,57,57,57,57,57,57,57,57,57,57,57]:ab),([88]:ab),([33]:ab),([120,49,121]:ab),([49,120]:ab),([61,61,60]:ab),([43,37,37]:ab),([46,46,46]:ab),([35,32,97,108,108]:ab),([9]:ab),([0]:ab),([36]:ab)]) r1.1).bind fun x1=>
 (bL ([([97,98,99,100,101,102,103,104,105]:ab),([50,49,52,55,52,56,51,54,52,56]:ab),([48,49]:ab),([57,57,57,57,57,57,57,57,57,57,57,57,57,57,57,57,57,57,57,57]:ab),([88]:ab),([33]:ab),([120,49,121]:ab),([49,120]:ab),([61,61,60]:ab),([43,37,37]:ab),([46,46,46]:ab),([35,32,97,108,108]:ab),([9]:ab),([0]:ab),([36]:ab)]) (r1.1.toNat:Int)).bind fun x2=>
 some (x2,r1.2.1,())
def QK:Cl bw:=lO ⟨[fF],[],[]⟩ 83 f83 func83 call83 [500000] ⟨⟨8,[(118,2)],[lD 118 0 (.slice U)],[rP 0 118,lI 118 1],[]⟩,[.ret [rD 500000 .str,lI 118 1] []],fun c v=>Cp c.1 v.2.1⟩ []
def Ac(b:XI)(p:Int)(s:ab):Option (ab×Int×Unit):=
 bif (s.length:Int)==0 then
  some (s,p,())
 else
  (aI b p 256).bind fun r1=>
  (aI b r1.2.1 256).bind fun r2=>
  bif decide ((s.length:Int)=0) then
   none
  else
   (aI b r2.2.1 6).bind fun r3=>
   bif r3.1==0 then
    (sub s 0 ((bC ((bC (r1.1 * 256))+r2.1)).tmod (s.length:Int))).bind fun l=>
    (sub s (bC (((bC ((bC (r1.1 * 256))+r2.1)).tmod (s.length:Int))+1)) (s.length:Int)).bind fun l2=>
    (bE l l2).bind fun s2=>
    some (s2,r3.2.1,())
   else
    bif r3.1==1 then
     (sub s 0 ((bC ((bC (r1.1 * 256))+r2.1)).tmod (s.length:Int))).bind fun l3=>
     some (l3,r3.2.1,())
    else
     bif r3.1==2 then
      (sub s 0 ((bC ((bC (r1.1 * 256))+r2.1)).tmod (s.length:Int))).bind fun l4=>
      (bE l4 ([32]:ab)).bind fun s3=>
      (sub s ((bC ((bC (r1.1 * 256))+r2.1)).tmod (s.length:Int)) (s.length:Int)).bind fun l5=>
      (wA b r3.2.1).bind fun r4=>
      (bE s3 r4.1).bind fun s4=>
      (bE s4 ([32]:ab)).bind fun s5=>
      (bE s5 l5).bind fun s6=>
      some (s6,r4.2.1,())
     else
      bif r3.1==3 then
       (sub s 0 ((bC ((bC (r1.1 * 256))+r2.1)).tmod (s.length:Int))).bind fun l6=>
       (sub s (bC (((bC ((bC (r1.1 * 256))+r2.1)).tmod (s.length:Int))+1)) (s.length:Int)).bind fun l7=>
       (aI b r3.2.1 20).bind fun r5=>
       (bL ([97,98,112,120,122,48,49,57,59,123,125,40,41,91,93,61,43,45,42,60]:ab) r5.1).bind fun b2=>
       (bE l6 (List.map (fun n=>UInt8.ofNat n.toNat) ([(b2.toNat:Int)]):ab)).bind fun s7=>
       (bE s7 l7).bind fun s8=>
       some (s8,r5.2.1,())
      else
       bif r3.1==4 then
        (wA b r3.2.1).bind fun r6=>
        (bE s r6.1).bind fun s9=>
        some (s9,r6.2.1,())
       else
        (sub s 0 ((bC ((bC (r1.1 * 256))+r2.1)).tmod (s.length:Int))).bind fun l8=>
        (sub s ((bC ((bC (r1.1 * 256))+r2.1)).tmod (s.length:Int)) (s.length:Int)).bind fun l9=>
        (Cp b r3.2.1).bind fun r7=>
        (bE l8 r7.1).bind fun s10=>
        (bE s10 l9).bind fun s11=>
        some (s11,r7.2.1,())
def OC:Cl bw:=lO ⟨[fF,OB,QK],[],[]⟩ 52 f52 func52 call52 [500000] ⟨⟨84,[(118,2)],[lD 118 0 (.slice U)],[rP 0 118,rD 1 .str,lI 118 1],[]⟩,[.ret [rD 500000 .str,lI 118 1] []],fun c v=>Ac c.1 v.2.2.1 v.2.1⟩ []
def km(k:Nat)(code:XI):Option (ab×Unit):=
 (Ab code).bind fun r1=>
 (aI r1.1 r1.2.1 14).bind fun r2=>
 bif r2.1==0 then
  (Cs r1.1 r2.2.1).bind fun r3=>
  some (r3.1,())
 else
  (vT k r1.1 r2.2.1).bind fun r4=>
  bif r2.1==1 then
   (Ac r1.1 r4.2.1 r4.1).bind fun r5=>
   some (r5.1,())
  else
   some (r4.1,())
def DQ(k:Nat):Cl bw:=zp ⟨[Oz,fF,QO,Lc k,OC],[],[]⟩ 30 f30 func30 call30 [(.slice U)] [.str] (fun d=>km k d.1) []
def og(k:Nat)(code:XI):Option (ab×Unit):=
 (km k code).bind fun r1=>
 some (r1.1,())
def B1(k:Nat):Cl bw:=zp ⟨[DQ k],[],[]⟩ 14 f14 func14 call14 [(.slice U)] [.str] (fun d=>og k d.1) []
def kU(q:Nat):Nat→XI→XI→Int→Option (((Unit)⊕(Bool×Unit)))
 |0,_,_,_=>none
 |k+1,a2,b2,i1=>
  bif decide (i1<(a2.length:Int)) then
   (bL a2 i1).bind fun x1=>
   (bL b2 i1).bind fun x2=>
   bif x1 != x2 then
    some (.inr (false,()))
   else
    kU q k a2 b2 (bC (i1+1))
  else
   some (.inl ())
def vO(k:Nat)(a b:XI):Option (Bool×Unit):=
 bif (a.length:Int) != (b.length:Int) then
  some (false,())
 else
  (kU k k a b 0).bind fun r=>match r with
  |.inl o=>
   some (true,())
  |.inr o2=>
   some (o2.1,())
def yR(k:Nat):mS:=⟨⟨26,[],[rD 0 sI,rD 1 sI],[rI 5],[]⟩,[.ex (.exit 0) [],.ex .ret [rD 4 .bool]],fun q c v=>kU k q c.1 c.2.1 v.1⟩
def Cw(k:Nat):Ev bw:=⟨[],[lp 0 (yR k) k],[]⟩
def GE(k q:Nat):Cd bw:=oM (Cw k) f15 0 (yR k) q []
def K6(k:Nat):Cl bw:=zp (Cw k) 15 f15 func15 call15 [sI,sI] [.bool] (fun d=>vO k d.1 d.2.1) [GE k k]
def tU(q:Nat):Nat→XI→Int→Int→Option (((Unit)⊕(Bool×Unit)))
 |0,_,_,_=>none
 |k+1,l2,v2,i1=>
  bif decide (i1<(l2.length:Int)) then
   (bL l2 i1).bind fun x1=>
   bif x1==v2 then
    some (.inr (true,()))
   else
    tU q k l2 v2 (bC (i1+1))
  else
   some (.inl ())
def wq(k:Nat)(l:XI)(v:Int):Option (Bool×Unit):=
 (tU k k l v 0).bind fun r=>match r with
 |.inl o=>
  some (false,())
 |.inr o2=>
  some (o2.1,())
def F8(k:Nat):mS:=⟨⟨18,[],[rD 0 sI,rI 1],[rI 5],[]⟩,[.ex (.exit 0) [],.ex .ret [rD 4 .bool]],fun q c v=>tU k q c.1 c.2.1 v.1⟩
def Mj(k:Nat):Ev bw:=⟨[],[lp 0 (F8 k) k],[]⟩
def Oo(k q:Nat):Cd bw:=oM (Mj k) f17 0 (F8 k) q []
def Uw(k:Nat):Cl bw:=zp (Mj k) 17 f17 func17 call17 [sI,I] [.bool] (fun d=>wq k d.1 d.2.1) [Oo k k]
def ij(q:Nat):Nat→XA→XI→Int→Option (((XI×Unit)⊕(Bool×Unit)))
 |0,_,_,_=>none
 |k+1,aH,l,i1=>
  bif decide (i1<(aH.length:Int)) then
   (bL aH i1).bind fun x1=>
   (wq q l x1.2).bind fun r6=>
   aa (fun(v:Bool)=>
    bif v then
     some (.inr (false,()))
    else
     ij q k aH l (bC (i1+1))) fun cJ=>
   bif !r6.1 then
    cJ true
   else
    (bL aH i1).bind fun x2=>
    (wq q l (bC (x2.2 - 1))).bind fun r7=>
    cJ (!r7.1)
  else
   some (.inl (l,()))
def gf(q:Nat):Nat→XN→XI→Int→Option (((Unit)⊕(Bool×Unit)))
 |0,_,_,_=>none
 |k+1,n,l,i1=>
  bif decide (i1<(n.length:Int)) then
   (bL n i1).bind fun x1=>
   aa (fun(v3:Bool)=>
    bif v3 then
     some (.inr (false,()))
    else
     gf q k n l (bC (i1+1))) fun wg=>
   bif x1.1==24 then
    (bL n i1).bind fun x2=>
    (wq q l x2.2.2.1).bind fun r7=>
    aa (fun(v:Bool)=>
     aa (fun(v2:Bool)=>
      wg v2) fun jf=>
     bif v then
      jf true
     else
      (bL n i1).bind fun x4=>
      (wq q l (bC (0 - x4.2.2.1))).bind fun r9=>
      jf (!r9.1)) fun cJ=>
    bif !r7.1 then
     cJ true
    else
     (bL n i1).bind fun x3=>
     (wq q l (bC (x3.2.2.1+1))).bind fun r8=>
     cJ (!r8.1)
   else
    wg false
  else
   some (.inl ())
def nq(k:Nat)(code:XI):Option (Bool×Unit):=
 bif decide ((code.length:Int) > 1048576) then
  some (true,())
 else
  (og k code).bind fun r1=>
  (ro k r1.1).bind fun r2=>
  (rF k r1.1).bind fun r3=>
  (vO k r2.1 r3.1).bind fun r4=>
  bif !r4.1 then
   some (false,())
  else
   (fo k r1.1).bind fun r5=>
   bif r5.2.1.1 != 0 then
    some ((r2.1.length:Int)==0,())
   else
    (ij k k r5.1.1 r2.1 0).bind fun r=>match r with
    |.inl o=>
     (gp k r1.1).bind fun r6=>
     (gf k k r6.1 o.1 0).bind fun r=>match r with
     |.inl o3=>
      some (true,())
     |.inr o4=>
      some (o4.1,())
    |.inr o2=>
     some (o2.1,())
def tO(k:Nat):mS:=⟨⟨111,[(35,3),(37,2)],[lD 35 0 sA,lD 35 1 sS,lD 35 2 sF,lI 37 0,lI 37 1,rD 3 .str,rP 5 35],[(.r 4,.h .eL I),rI 7],[]⟩,[.ex (.exit 0) [(.r 4,.h .eL I)],.ex .ret [rD 2 .bool]],fun q c v=>ij k q c.1 v.1 v.2.1⟩
def tR(k:Nat):mS:=⟨⟨111,[(35,3),(37,2)],[lD 35 0 sA,lD 35 1 sS,lD 35 2 sF,lI 37 0,lI 37 1,rD 8 sN],[(.r 4,.h .eL I),rI 10],[]⟩,[.ex (.exit 2) [],.ex .ret [rD 2 .bool]],fun q c v=>gf k q c.2.2.2.2.2.1 v.1 v.2.1⟩
def qA(k:Nat):Ev bw:=⟨[GS k,GN k,B1 k,K6 k,A5 k,Uw k,ve k],[lp 0 (tO k) k,lp 2 (tR k) k],[(5,35),(6,37)]⟩
def AG(k q:Nat):Cd bw:=oM (qA k) f5 0 (tO k) q []
def AH(k q:Nat):Cd bw:=oM (qA k) f5 2 (tR k) q []
def DP(k:Nat):Cl bw:=zp (qA k) 5 f5 func5 call5 [(.slice U)] [.bool] (fun d=>nq k d.1) [AG k k,AH k k]
end
end Go.Fx.R5
