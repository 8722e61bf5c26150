/- Proved here: laws.FnHuntTries returns true at every input (the tied card), no condition beyond the card. -/
import Derived.Test.YtooajghcoijkaaaGreatDoorCa
set_option linter.unusedVariables false
set_option linter.unusedSimpArgs false
set_option linter.unusedSectionVars false
set_option linter.defProp false
set_option maxRecDepth 100000
namespace Go.Fx.R5
open Go Go.Fx Go.Proofs Go.Proofs.Tryz
noncomputable section
def CH(b:XI)(p:Int):Option (ab×Int×Unit):=
 (aA b p 30).bind fun r1=>
 (bC ([([102,117,110,99,32,109,97,105,110,40,41,32,123,32,118,97,114,32,120,44,32,120,59,32,125]:ab),([118,97,114,32,109,97,105,110,59,32,102,117,110,99,32,109,97,105,110,40,41,32,123,32,125]:ab),([97,114,114,97,121,32,97,91,48,93,59,32,102,117,110,99,32,109,97,105,110,40,41,32,123,32,125]:ab),([97,114,114,97,121,32,97,91,54,53,93,59,32,102,117,110,99,32,109,97,105,110,40,41,32,123,32,125]:ab),([102,117,110,99,32,102,40,41,32,123,32,125]:ab),([102,117,110,99,32,109,97,105,110,40,120,41,32,123,32,125]:ab),([102,117,110,99,32,109,97,105,110,40,41,32,123,32,120,32,61,32,49,59,32,125]:ab),([102,117,110,99,32,109,97,105,110,40,41,32,123,32,118,97,114,32,120,59,32,120,32,61,32,121,59,32,125]:ab),([97,114,114,97,121,32,97,91,50,93,59,32,102,117,110,99,32,109,97,105,110,40,41,32,123,32,97,32,61,32,49,59,32,125]:ab),([102,117,110,99,32,109,97,105,110,40,41,32,123,32,114,101,102,32,112,59,32,112,32,61,32,49,59,32,125]:ab),([102,117,110,99,32,109,97,105,110,40,41,32,123,32,114,101,102,32,112,59,32,118,97,114,32,120,59,32,120,32,61,32,112,59,32,125]:ab),([102,117,110,99,32,109,97,105,110,40,41,32,123,32,114,101,102,32,112,59,32,118,97,114,32,120,59,32,112,32,61,32,120,59,32,125]:ab),([102,117,110,99,32,109,97,105,110,40,41,32,123,32,118,97,114,32,120,59,32,120,32,61,32,110,117,108,108,59,32,125]:ab),([102,117,110,99,32,109,97,105,110,40,41,32,123,32,118,97,114,32,105,59,32,102,111,114,32,105,32,61,32,48,32,46,46,32,51,32,123,32,105,32,61,32,49,59,32,125,32,125]:ab),([102,117,110,99,32,109,97,105,110,40,41,32,123,32,118,97,114,32,105,59,32,102,111,114,32,105,32,61,32,48,32,46,46,32,51,32,123,32,102,111,114,32,105,32,61,32,48,32,46,46,32,50,32,123,32,125,32,125,32,125]:ab),([118,97,114,32,103,59,32,102,117,110,99,32,109,97,105,110,40,41,32,123,32,102,111,114,32,103,32,61,32,48,32,46,46,32,51,32,123,32,125,32,125]:ab),([102,117,110,99,32,102,40,97,41,32,123,32,114,101,116,117,114,110,32,97,59,32,125,32,102,117,110,99,32,109,97,105,110,40,41,32,123,32,118,97,114,32,120,59,32,120,32,61,32,102,40,41,59,32,125]:ab),([102,117,110,99,32,102,40,97,41,32,123,32,114,101,116,117,114,110,32,97,59,32,125,32,102,117,110,99,32,109,97,105,110,40,41,32,123,32,118,97,114,32,120,59,32,120,32,61,32,102,40,49,44,32,50,41,59,32,125]:ab),([102,117,110,99,32,109,97,105,110,40,41,32,123,32,118,97,114,32,120,59,32,120,32,61,32,103,40,49,41,59,32,125]:ab),([102,117,110,99,32,109,97,105,110,40,41,32,123,32,118,97,114,32,97,44,32,98,44,32,99,44,32,100,44,32,101,44,32,102,44,32,103,44,32,104,44,32,105,59,32,125]:ab),([102,117,110,99,32,109,97,105,110,40,41,32,123,32,114,101,102,32,97,44,32,98,44,32,99,44,32,100,59,32,125]:ab),([102,117,110,99,32,102,40,97,44,32,98,44,32,99,44,32,100,41,32,123,32,125,32,102,117,110,99,32,109,97,105,110,40,41,32,123,32,125]:ab),([118,97,114,32,97,59,32,118,97,114,32,98,59,32,118,97,114,32,99,59,32,118,97,114,32,100,59,32,118,97,114,32,101,59,32,102,117,110,99,32,109,97,105,110,40,41,32,123,32,125]:ab),([97,114,114,97,121,32,97,91,49,93,59,32,97,114,114,97,121,32,98,91,49,93,59,32,97,114,114,97,121,32,99,91,49,93,59,32,97,114,114,97,121,32,100,91,49,93,59,32,97,114,114,97,121,32,101,91,49,93,59,32,102,117,110,99,32,109,97,105,110,40,41,32,123,32,125]:ab),([118,97,114,32,103,59,32,102,117,110,99,32,109,97,105,110,40,41,32,123,32,118,97,114,32,103,59,32,125]:ab),([102,117,110,99,32,109,97,105,110,40,41,32,123,32,118,97,114,32,105,59,32,102,111,114,32,105,32,61,32,48,32,46,46,32,51,32,123,32,114,101,97,100,32,105,59,32,125,32,125]:ab),([97,114,114,97,121,32,97,91,51,93,59,32,102,117,110,99,32,109,97,105,110,40,41,32,123,32,114,101,102,32,112,59,32,112,32,61,32,38,112,91,49,93,59,32,125]:ab),([97,114,114,97,121,32,97,91,51,93,59,32,102,117,110,99,32,109,97,105,110,40,41,32,123,32,118,97,114,32,120,59,32,42,120,32,61,32,49,59,32,125]:ab),([102,117,110,99,32,109,97,105,110,40,41,32,123,32,112,114,105,110,116,32,102,59,32,125]:ab),([102,117,110,99,32,97,40,41,32,123,32,125,32,102,117,110,99,32,98,40,41,32,123,32,125,32,102,117,110,99,32,99,40,41,32,123,32,125,32,102,117,110,99,32,100,40,41,32,123,32,125,32,102,117,110,99,32,101,40,41,32,123,32,125,32,102,117,110,99,32,102,40,41,32,123,32,125,32,102,117,110,99,32,109,97,105,110,40,41,32,123,32,125]:ab)]) r1.1).bind fun x1=>
 (bC ([([102,117,110,99,32,109,97,105,110,40,41,32,123,32,118,97,114,32,120,44,32,120,59,32,125]:ab),([118,97,114,32,109,97,105,110,59,32,102,117,110,99,32,109,97,105,110,40,41,32,123,32,125]:ab),([97,114,114,97,121,32,97,91,48,93,59,32,102,117,110,99,32,109,97,105,110,40,41,32,123,32,125]:ab),([97,114,114,97,121,32,97,91,54,53,93,59,32,102,117,110,99,32,109,97,105,110,40,41,32,123,32,125]:ab),([102,117,110,99,32,102,40,41,32,123,32,125]:ab),([102,117,110,99,32,109,97,105,110,40,120,41,32,123,32,125]:ab),([102,117,110,99,32,109,97,105,110,40,41,32,123,32,120,32,61,32,49,59,32,125]:ab),([102,117,110,99,32,109,97,105,110,40,41,32,123,32,118,97,114,32,120,59,32,120,32,61,32,121,59,32,125]:ab),([97,114,114,97,121,32,97,91,50,93,59,32,102,117,110,99,32,109,97,105,110,40,41,32,123,32,97,32,61,32,49,59,32,125]:ab),([102,117,110,99,32,109,97,105,110,40,41,32,123,32,114,101,102,32,112,59,32,112,32,61,32,49,59,32,125]:ab),([102,117,110,99,32,109,97,105,110,40,41,32,123,32,114,101,102,32,112,59,32,118,97,114,32,120,59,32,120,32,61,32,112,59,32,125]:ab),([102,117,110,99,32,109,97,105,110,40,41,32,123,32,114,101,102,32,112,59,32,118,97,114,32,120,59,32,112,32,61,32,120,59,32,125]:ab),([102,117,110,99,32,109,97,105,110,40,41,32,123,32,118,97,114,32,120,59,32,120,32,61,32,110,117,108,108,59,32,125]:ab),([102,117,110,99,32,109,97,105,110,40,41,32,123,32,118,97,114,32,105,59,32,102,111,114,32,105,32,61,32,48,32,46,46,32,51,32,123,32,105,32,61,32,49,59,32,125,32,125]:ab),([102,117,110,99,32,109,97,105,110,40,41,32,123,32,118,97,114,32,105,59,32,102,111,114,32,105,32,61,32,48,32,46,46,32,51,32,123,32,102,111,114,32,105,32,61,32,48,32,46,46,32,50,32,123,32,125,32,125,32,125]:ab),([118,97,114,32,103,59,32,102,117,110,99,32,109,97,105,110,40,41,32,123,32,102,111,114,32,103,32,61,32,48,32,46,46,32,51,32,123,32,125,32,125]:ab),([102,117,110,99,32,102,40,97,41,32,123,32,114,101,116,117,114,110,32,97,59,32,125,32,102,117,110,99,32,109,97,105,110,40,41,32,123,32,118,97,114,32,120,59,32,120,32,61,32,102,40,41,59,32,125]:ab),([102,117,110,99,32,102,40,97,41,32,123,32,114,101,116,117,114,110,32,97,59,32,125,32,102,117,110,99,32,109,97,105,110,40,41,32,123,32,118,97,114,32,120,59,32,120,32,61,32,102,40,49,44,32,50,41,59,32,125]:ab),([102,117,110,99,32,109,97,105,110,40,41,32,123,32,118,97,114,32,120,59,32,120,32,61,32,103,40,49,41,59,32,125]:ab),([102,117,110,99,32,109,97,105,110,40,41,32,123,32,118,97,114,32,97,44,32,98,44,32,99,44,32,100,44,32,101,44,32,102,44,32,103,44,32,104,44,32,105,59,32,125]:ab),([102,117,110,99,32,109,97,105,110,40,41,32,123,32,114,101,102,32,97,44,32,98,44,32,99,44,32,100,59,32,125]:ab),([102,117,110,99,32,102,40,97,44,32,98,44,32,99,44,32,100,41,32,123,32,125,32,102,117,110,99,32,109,97,105,110,40,41,32,123,32,125]:ab),([118,97,114,32,97,59,32,118,97,114,32,98,59,32,118,97,114,32,99,59,32,118,97,114,32,100,59,32,118,97,114,32,101,59,32,102,117,110,99,32,109,97,105,110,40,41,32,123,32,125]:ab),([97,114,114,97,121,32,97,91,49,93,59,32,97,114,114,97,121,32,98,91,49,93,59,32,97,114,114,97,121,32,99,91,49,93,59,32,97,114,114,97,121,32,100,91,49,93,59,32,97,114,114,97,121,32,101,91,49,93,59,32,102,117,110,99,32,109,97,105,110,40,41,32,123,32,125]:ab),([118,97,114,32,103,59,32,102,117,110,99,32,109,97,105,110,40,41,32,123,32,118,97,114,32,103,59,32,125]:ab),([102,117,110,99,32,109,97,105,110,40,41,32,123,32,118,97,114,32,105,59,32,102,111,114,32,105,32,61,32,48,32,46,46,32,51,32,123,32,114,101,97,100,32,105,59,32,125,32,125]:ab),([97,114,114,97,121,32,97,91,51,93,59,32,102,117,110,99,32,109,97,105,110,40,41,32,123,32,114,101,102,32,112,59,32,112,32,61,32,38,112,91,49,93,59,32,125]:ab),([97,114,114,97,121,32,97,91,51,93,59,32,102,117,110,99,32,109,97,105,110,40,41,32,123,32,118,97,114,32,120,59,32,42,120,32,61,32,49,59,32,125]:ab),([102,117,110,99,32,109,97,105,110,40,41,32,123,32,112,114,105,110,116,32,102,59,32,125]:ab),([102,117,110,99,32,97,40,41,32,123,32,125,32,102,117,110,99,32,98,40,41,32,123,32,125,32,102,117,110,99,32,99,40,41,32,123,32,125,32,102,117,110,99,32,100,40,41,32,123,32,125,32,102,117,110,99,32,101,40,41,32,123,32,125,32,102,117,110,99,32,102,40,41,32,123,32,125,32,102,117,110,99,32,109,97,105,110,40,41,32,123,32,125]:ab)]) (r1.1.toNat:Int)).bind fun x2=>
 some (x2,r1.2.1,())
def RA:Cl a8:=lB ⟨[eK],[],[]⟩ 50 f50 func50 call50 [500000] ⟨⟨8,[(118,2)],[lD 118 0 (.slice U)],[rP 0 118,lI 118 1],[]⟩,[.ret [rD 500000 .str,lI 118 1] []],fun c v=>CH c.1 v.2.1⟩ []
abbrev ub:=Int→Option (ab×Unit)
def Ix(f:ub):iF:=AN [I] [.str] (fun d=>f d.1) id
def GI(eo:ub)(q:Nat)(n2:Int):Option (ab×Unit):=
 (eo (bh (n2.tdiv (-10)))).bind fun r1=>
 (bD ([45]:ab) r1.1).bind fun s=>
 (bD s (List.map (fun n=>UInt8.ofNat n.toNat) ([(IntKind.u8.wrap ((bh (48 - (n2.tmod 10)))))]):ab)).bind fun s2=>
 some (s2,())
def GJ(eo:ub)(q:Nat)(n2:Int):Option (ab×Unit):=
 (eo (bh (n2.tdiv 10))).bind fun r1=>
 (bD r1.1 (List.map (fun n=>UInt8.ofNat n.toNat) ([(IntKind.u8.wrap ((bh (48+(n2.tmod 10)))))]):ab)).bind fun s2=>
 some (s2,())
def JG(eo:ub)(k:Nat)(n:Int):Option (ab×Unit):=
 bif decide (n<(-9)) then
  (GI eo k n).bind fun o=>
  some (o.1,())
 else
  bif decide (n<0) then
   (bD ([45]:ab) (List.map (fun n=>UInt8.ofNat n.toNat) ([(IntKind.u8.wrap ((bh (48 - n))))]):ab)).bind fun s=>
   some (s,())
  else
   bif decide (n<10) then
    some ((List.map (fun n=>UInt8.ofNat n.toNat) ([(IntKind.u8.wrap ((bh (48+n))))]):ab),())
   else
    (GJ eo k n).bind fun o2=>
    some (o2.1,())
def nq:Nat→ub
 |0=>fun _=>none
 |k+1=>JG (nq k) k
section
variable (eo:Gd a8 80 Ix)
def Dh(k:Nat):mn:=⟨⟨41,[],[rI 0],[],[]⟩,[.ex .normal [rD 2 .str]],fun q c v=>GI eo.1 k c.1⟩
def Di(k:Nat):mn:=⟨⟨41,[],[rI 0],[],[]⟩,[.ex .normal [rD 2 .str]],fun q c v=>GJ eo.1 k c.1⟩
def B8(k:Nat):Ev a8:=⟨[eo.cl],[rg 2 (Dh eo k),rg 7 (Di eo k)],[]⟩
def Lo(k:Nat):Cd a8:=rgC (B8 eo k) f80 2 (Dh eo k) [[0,1,4,5,6,7,2,3,8,9,10,11],[0,1,4,5,6,7,8,9,2,3,10,11]]
def Lp(k:Nat):Cd a8:=rgC (B8 eo k) f80 7 (Di eo k) [[0,1,3,4,5,6,2,7,8,9,10],[0,1,3,4,5,6,7,8,2,9,10]]
def RT(k:Nat):Cl a8:=wD (B8 eo k) 80 f80 func80 call80 [I] [.str] (fun d=>JG eo.1 k d.1) [Lo eo k,Lp eo k]
end
theorem Gt:∀ k,kZ prog gt 80 (Ix (nq k))
 |0=>Vf (fun _=>rfl)
 |k+1=>(RT ⟨_,Gt k⟩ k).ok
def xB(k:Nat):Cl a8:=⟨_,_,Gt k⟩
def bJ(b:XI)(p:Int)(l:XS):Option (ab×Int×Unit):=
 bif (l.length:Int)==0 then
  some (([120]:ab),p,())
 else
  (aA b p (l.length:Int)).bind fun r1=>
  (bC l r1.1).bind fun x1=>
  some (x1,r1.2.1,())
def uc:Cl a8:=lB ⟨[eK],[],[]⟩ 141 f141 func141 call141 [500000] ⟨⟨18,[(146,5),(118,2)],[(.l 146 0,.lit (.lw 118 0)),lD 146 1 sS,lD 146 2 sS,lD 146 3 sS,lI 146 4,lD 118 0 (.slice U)],[rP 0 146,rD 1 sS,lI 118 1],[]⟩,[.ret [rD 500000 .str,lI 118 1] []],fun c v=>bJ c.2.2.2.2.2.1 v.2.2.1 v.2.1⟩ []
abbrev ta:=XS→XS→XS→Int→XI→Int→Int→Option (ab×Int×Unit)
def sJ(f:ta):CV:=⟨⟨98,[(146,5),(118,2)],[(.l 146 0,.lit (.lw 118 0)),lD 146 1 sS,lD 146 2 sS,lD 146 3 sS,lI 146 4,lD 118 0 (.slice U)],[rP 0 146,rI 1,lI 118 1],[]⟩,[.ret [rD 500000 .str,lI 118 1] []],fun c v=>f c.2.1 c.2.2.1 c.2.2.2.1 c.2.2.2.2.1 c.2.2.2.2.2.1 v.2.2.1 v.2.1⟩
def CZ(f:ta):iF:=lZ (sJ f).L (sJ f).F (zQ [500000] (sJ f).V)
def th(lW:ta)(k:Nat)(gU fJ gz:XS)(less:Int)(b:XI)(p bx:Int):Option (ab×Int×Unit):=
 (aA b p 12).bind fun r1=>
 aa (fun(v:Bool)=>
  bif v then
   (aA b r1.2.1 2).bind fun r2=>
   bif r2.1==0 then
    (bJ b r2.2.1 gU).bind fun r3=>
    some (r3.1,r3.2.1,())
   else
    (aA b r2.2.1 9).bind fun r4=>
    (nq k r4.1).bind fun r5=>
    some (r5.1,r4.2.1,())
  else
   bif r1.1==3 then
    (bJ b r1.2.1 ([([49,48,48,48]:ab),([50,49,52,55,52,56,51,54,52,55]:ab),([54,53,53,51,54]:ab),([49,48,48]:ab)])).bind fun r6=>
    some (r6.1,r6.2.1,())
   else
    bif r1.1==4 then
     (lW gU fJ gz less b r1.2.1 (bh (bx - 1))).bind fun r7=>
     (bD ([97,91]:ab) r7.1).bind fun s=>
     (bD s ([93]:ab)).bind fun s2=>
     some (s2,r7.2.1,())
    else
     aa (fun(v2:Bool)=>
      bif v2 then
       (bJ b r1.2.1 fJ).bind fun r8=>
       (bD ([42]:ab) r8.1).bind fun s3=>
       some (s3,r8.2.1,())
      else
       bif r1.1==6 then
        (lW gU fJ gz less b r1.2.1 0).bind fun r9=>
        (bD ([45]:ab) r9.1).bind fun s4=>
        some (s4,r9.2.1,())
       else
        (bJ b r1.2.1 ([([43]:ab),([45]:ab),([42]:ab),([47]:ab),([37]:ab),([38]:ab),([124]:ab),([94]:ab),([60,60]:ab),([62,62]:ab),([43,37]:ab),([45,37]:ab),([42,37]:ab),([43]:ab),([45]:ab),([43]:ab)])).bind fun kz=>
        (lW gU fJ gz less b kz.2.1 (bh (bx - 1))).bind fun n8=>
        (bD n8.1 ([32]:ab)).bind fun s5=>
        (bD s5 kz.1).bind fun s6=>
        (bD s6 ([32]:ab)).bind fun s7=>
        (lW gU fJ gz less b n8.2.1 (bh (bx - 1))).bind fun o7=>
        (bD s7 o7.1).bind fun s8=>
        (aA b o7.2.1 2).bind fun pX=>
        bif pX.1==0 then
         (bD ([40]:ab) s8).bind fun s9=>
         (bD s9 ([41]:ab)).bind fun s10=>
         some (s10,pX.2.1,())
        else
         some (s8,pX.2.1,())) fun iR=>
     bif r1.1==5 then
      iR (decide ((fJ.length:Int) > 0))
     else
      iR false) fun cv=>
 bif decide (bx≤0) then
  cv true
 else
  cv (decide (r1.1<3))
def cw:Nat→ta
 |0=>fun _ _ _ _ _ _ _=>none
 |k+1=>th (cw k) k
section
variable (lW:Gd a8 142 CZ)
def LS(k:Nat):Cl a8:=lB ⟨[eK,xB k,uc,lW.cl],[],[]⟩ 142 f142 func142 call142 [500000] (sJ (th lW.1 k)) []
end
theorem Bq:∀ k,kZ prog gt 142 (CZ (cw k))
 |0=>cP (fun _ _=>rfl)
 |k+1=>(LS ⟨_,Bq k⟩ k).ok
def wL(k:Nat):Cl a8:=⟨_,_,Bq k⟩
abbrev pJ:=XS→XS→XS→Int→XI→Int→Int→Option (ab×Int×Unit)
def sG(f:pJ):CV:=⟨⟨104,[(146,5),(118,2)],[(.l 146 0,.lit (.lw 118 0)),lD 146 1 sS,lD 146 2 sS,lD 146 3 sS,lI 146 4,lD 118 0 (.slice U)],[rP 0 146,rI 1,lI 118 1],[]⟩,[.ret [rD 500000 .str,lI 118 1] []],fun c v=>f c.2.1 c.2.2.1 c.2.2.2.1 c.2.2.2.2.1 c.2.2.2.2.2.1 v.2.2.1 v.2.1⟩
def CX(f:pJ):iF:=lZ (sG f).L (sG f).F (zQ [500000] (sG f).V)
def qo(dQ:pJ)(q:Nat)(b2:XI)(I8:XS)(p2:Int):Option (Int×ab×Unit):=
 (bJ b2 p2 I8).bind fun r8=>
 (bD r8.1 ([32]:ab)).bind fun s8=>
 (bJ b2 r8.2.1 ([([61,61]:ab),([33,61]:ab),([60]:ab),([60,61]:ab),([62]:ab),([62,61]:ab)])).bind fun r9=>
 (bD s8 r9.1).bind fun s9=>
 (bD s9 ([32]:ab)).bind fun s10=>
 (aA b2 r9.2.1 12).bind fun kz=>
 (nq q kz.1).bind fun n8=>
 (bD s10 n8.1).bind fun s11=>
 some (kz.2.1,s11,())
def tg(dQ:pJ)(k:Nat)(gU fJ gz:XS)(less:Int)(b:XI)(p bx:Int):Option (ab×Int×Unit):=
 (aA b p 9).bind fun r1=>
 aa (fun(v:Bool)=>
  bif v then
   (dQ gU fJ gz less b r1.2.1 (bh (bx - 1))).bind fun r2=>
   (bD r2.1 ([32,97,110,100,32]:ab)).bind fun s=>
   (dQ gU fJ gz less b r2.2.1 (bh (bx - 1))).bind fun r3=>
   (bD s r3.1).bind fun s2=>
   some (s2,r3.2.1,())
  else
   aa (fun(v2:Bool)=>
    bif v2 then
     (dQ gU fJ gz less b r1.2.1 (bh (bx - 1))).bind fun r4=>
     (bD r4.1 ([32,111,114,32]:ab)).bind fun s3=>
     (dQ gU fJ gz less b r4.2.1 (bh (bx - 1))).bind fun r5=>
     (bD s3 r5.1).bind fun s4=>
     some (s4,r5.2.1,())
    else
     aa (fun(v3:Bool)=>
      bif v3 then
       (dQ gU fJ gz less b r1.2.1 (bh (bx - 1))).bind fun r6=>
       (bD ([110,111,116,32,91]:ab) r6.1).bind fun s5=>
       (bD s5 ([93]:ab)).bind fun s6=>
       some (s6,r6.2.1,())
      else
       aa (fun(v4:Bool)=>
        bif v4 then
         (bJ b r1.2.1 fJ).bind fun r7=>
         (bD ([110,117,108,108,32]:ab) r7.1).bind fun s7=>
         some (s7,r7.2.1,())
        else
         bif decide (r1.1<6) then
          (qo dQ k b gU r1.2.1).bind fun o=>
          some (o.2.1,o.1,())
         else
          (cw k gU fJ gz less b r1.2.1 1).bind fun r8=>
          (bD r8.1 ([32]:ab)).bind fun s8=>
          (bJ b r8.2.1 ([([61,61]:ab),([33,61]:ab),([60]:ab),([60,61]:ab),([62]:ab),([62,61]:ab)])).bind fun r9=>
          (bD s8 r9.1).bind fun s9=>
          (bD s9 ([32]:ab)).bind fun s10=>
          (cw k gU fJ gz less b r9.2.1 1).bind fun kz=>
          (bD s10 kz.1).bind fun s11=>
          some (s11,kz.2.1,())) fun jx4=>
       bif r1.1==3 then
        jx4 (decide ((fJ.length:Int) > 0))
       else
        jx4 false) fun uR=>
     bif decide (bx > 0) then
      uR (r1.1==2)
     else
      uR false) fun iR=>
   bif decide (bx > 0) then
    iR (r1.1==1)
   else
    iR false) fun cv=>
 bif decide (bx > 0) then
  cv (r1.1==0)
 else
  cv false
def fL:Nat→pJ
 |0=>fun _ _ _ _ _ _ _=>none
 |k+1=>tg (fL k) k
section
variable (dQ:Gd a8 143 CX)
def xq(k:Nat):mn:=⟨⟨104,[(118,2),(146,5)],[lD 118 0 (.slice U),(.l 146 0,.lit (.lw 118 0)),lD 146 1 sS,lD 146 2 sS,lD 146 3 sS,lI 146 4,rP 0 146],[lI 118 1],[]⟩,[.ex .normal [lI 118 1,rD 4 .str]],fun q c v=>qo dQ.1 k c.1 c.2.2.1 v.1⟩
def CP(k:Nat):Ev a8:=⟨[eK,xB k,uc,wL k,dQ.cl],[rg 11 (xq dQ k)],[]⟩
def FQ(k:Nat):Cd a8:=rgC (CP dQ k) f143 11 (xq dQ k) [[0,1,2,3,4,7,12,13,14,15,5,6,8,9,10,11,16,17,18,19],[0,1,2,3,4,7,12,13,14,15,8,5,6,9,10,11,16,17,18,19]]
def LQ(k:Nat):Cl a8:=lB (CP dQ k) 143 f143 func143 call143 [500000] (sG (tg dQ.1 k)) [FQ dQ k]
end
theorem Bp:∀ k,kZ prog gt 143 (CX (fL k))
 |0=>cP (fun _ _=>rfl)
 |k+1=>(LQ ⟨_,Bp k⟩ k).ok
def LH(k:Nat):Cl a8:=⟨_,_,Bp k⟩
def uF(k:Nat)(gU fJ gz:XS)(less:Int)(b:XI)(p k1:Int):Option (ab×Int×Unit):=
 bif decide (k1<13) then
  (bJ b p ([([105]:ab),([105]:ab),([120]:ab),([51]:ab),([55]:ab),([105,32,43,32,49]:ab)])).bind fun r1=>
  (bD ([97,91]:ab) r1.1).bind fun s=>
  (bD s ([93,32,61,32]:ab)).bind fun s2=>
  (cw k gU fJ gz less b r1.2.1 1).bind fun r2=>
  (bD s2 r2.1).bind fun s3=>
  (bD s3 ([59,10]:ab)).bind fun s4=>
  some (s4,r2.2.1,())
 else
  bif k1==13 then
   (bJ b p gz).bind fun r3=>
   (bD ([114,101,97,100,32]:ab) r3.1).bind fun s5=>
   (bD s5 ([59,10]:ab)).bind fun s6=>
   some (s6,r3.2.1,())
  else
   bif k1==14 then
    (cw k gU fJ gz less b p 2).bind fun r4=>
    (bD ([112,114,105,110,116,32]:ab) r4.1).bind fun s7=>
    (bD s7 ([59,10]:ab)).bind fun s8=>
    some (s8,r4.2.1,())
   else
    aa (fun(v:Bool)=>
     bif v then
      (bJ b p fJ).bind fun r5=>
      (bD r5.1 ([32,61,32,38]:ab)).bind fun s9=>
      (bJ b r5.2.1 ([([97]:ab),([98]:ab)])).bind fun r6=>
      (bD s9 r6.1).bind fun s10=>
      (bD s10 ([91]:ab)).bind fun s11=>
      (bJ b r6.2.1 ([([105]:ab),([48]:ab),([50]:ab),([120]:ab)])).bind fun r7=>
      (bD s11 r7.1).bind fun s12=>
      (bD s12 ([93,59,10]:ab)).bind fun s13=>
      some (s13,r7.2.1,())
     else
      aa (fun(v2:Bool)=>
       bif v2 then
        (bJ b p fJ).bind fun r8=>
        (bD ([42]:ab) r8.1).bind fun s14=>
        (bD s14 ([32,61,32]:ab)).bind fun s15=>
        (cw k gU fJ gz less b r8.2.1 1).bind fun r9=>
        (bD s15 r9.1).bind fun s16=>
        (bD s16 ([59,10]:ab)).bind fun s17=>
        some (s17,r9.2.1,())
       else
        aa (fun(v3:Bool)=>
         bif v3 then
          (bJ b p fJ).bind fun kz=>
          (bD kz.1 ([32,43,61,32]:ab)).bind fun s18=>
          (bJ b kz.2.1 ([([49]:ab),([49]:ab),([120]:ab),([45,49]:ab)])).bind fun n8=>
          (bD s18 n8.1).bind fun s19=>
          (bD s19 ([59,10]:ab)).bind fun s20=>
          some (s20,n8.2.1,())
         else
          aa (fun(v4:Bool)=>
           bif v4 then
            (bJ b p fJ).bind fun o7=>
            (bD o7.1 ([32,61,32]:ab)).bind fun s21=>
            (bJ b o7.2.1 ([([112]:ab),([113]:ab),([110,117,108,108]:ab)])).bind fun pX=>
            (bD s21 pX.1).bind fun s22=>
            (bD s22 ([59,10]:ab)).bind fun s23=>
            some (s23,pX.2.1,())
           else
            bif k1==19 then
             (bJ b p gz).bind fun rV=>
             (bD rV.1 ([32,61,32,102,40]:ab)).bind fun s24=>
             (cw k gU fJ gz less b rV.2.1 1).bind fun qS=>
             (bD s24 qS.1).bind fun s25=>
             (bD s25 ([44,32]:ab)).bind fun s26=>
             (cw k gU fJ gz less b qS.2.1 0).bind fun tf=>
             (bD s26 tf.1).bind fun s27=>
             (bD s27 ([41,59,10]:ab)).bind fun s28=>
             some (s28,tf.2.1,())
            else
             bif k1==20 then
              (bJ b p gz).bind fun vA=>
              (bD vA.1 ([32,61,32,104,40]:ab)).bind fun s29=>
              (cw k gU fJ gz less b vA.2.1 1).bind fun rS=>
              (bD s29 rS.1).bind fun s30=>
              (bD s30 ([41,59,10]:ab)).bind fun s31=>
              some (s31,rS.2.1,())
             else
              aa (fun(jv:Bool×Int)=>
               bif (jv.1) then
                (bJ b (jv.2) ([([115,116,111,112,59,10]:ab),([114,101,116,117,114,110,32,120,59,10]:ab)])).bind fun vB=>
                some (vB.1,vB.2.1,())
               else
                some (([120,32,61,32,120,32,43,32,49,59,10]:ab),(jv.2),())) fun jx5=>
              bif k1==21 then
               (aA b p 4).bind fun qT=>
               jx5 (qT.1==0,qT.2.1)
              else
               jx5 (false,p)) fun jx4=>
          bif k1==18 then
           jx4 (decide ((fJ.length:Int) > 0))
          else
           jx4 false) fun uR=>
        bif k1==17 then
         uR (decide ((fJ.length:Int) > 0))
        else
         uR false) fun iR=>
      bif k1==16 then
       iR (decide ((fJ.length:Int) > 0))
      else
       iR false) fun cv=>
    bif k1==15 then
     cv (decide ((fJ.length:Int) > 0))
    else
     cv false
def J4(k:Nat):Cl a8:=lB ⟨[eK,uc,wL k],[],[]⟩ 145 f145 func145 call145 [500000] ⟨⟨168,[(146,5),(118,2)],[(.l 146 0,.lit (.lw 118 0)),lD 146 1 sS,lD 146 2 sS,lD 146 3 sS,lI 146 4,lD 118 0 (.slice U)],[rP 0 146,rI 1,lI 118 1],[]⟩,[.ret [rD 500000 .str,lI 118 1] []],fun c v=>uF k c.2.1 c.2.2.1 c.2.2.2.1 c.2.2.2.2.1 c.2.2.2.2.2.1 v.2.2.1 v.2.1⟩ []
end
end Go.Fx.R5
namespace Go.Fx.R5
open Go Go.Fx Go.Proofs Go.Proofs.Tryz
noncomputable section
abbrev km:=XS→XS→XS→Int→XI→Int→Int→Option (ab×Int×Int×Unit)
def sH(f:km):CV:=⟨⟨192,[(146,5),(118,2)],[(.l 146 0,.lit (.lw 118 0)),lD 146 1 sS,lD 146 2 sS,lD 146 3 sS,lD 118 0 (.slice U)],[rP 0 146,rI 1,lI 146 4,lI 118 1],[]⟩,[.ret [rD 500000 .str,lI 118 1,lI 146 4] []],fun c v=>f c.2.1 c.2.2.1 c.2.2.2.1 v.2.2.1 c.2.2.2.2.1 v.2.2.2.1 v.2.1⟩
def CY(f:km):iF:=lZ (sH f).L (sH f).F (zQ [500000] (sH f).V)
abbrev jA:=XS→XS→XS→Int→XI→Int→Int→Int→Option (ab×Int×Int×Unit)
def qU(f:jA):CV:=⟨⟨21,[(146,5),(118,2)],[(.l 146 0,.lit (.lw 118 0)),lD 146 1 sS,lD 146 2 sS,lD 146 3 sS,lD 118 0 (.slice U)],[rP 0 146,rI 1,rI 2,lI 146 4,lI 118 1],[]⟩,[.ret [rD 500000 .str,lI 118 1,lI 146 4] []],fun c v=>f c.2.1 c.2.2.1 c.2.2.2.1 v.2.2.2.1 c.2.2.2.2.1 v.2.2.2.2.1 v.2.1 v.2.2.1⟩
def A7(f:jA):iF:=lZ (qU f).L (qU f).F (zQ [500000] (qU f).V)
def uE(ce:km)(aX:jA)(q:Nat)(b2:XI)(I8 OF VG:XS)(kW p2 N3:Int):Option (Int×Int×ab×Unit):=
 (aA b2 p2 3).bind fun qT=>
 (nq q qT.1).bind fun vB=>
 (bD ([102,111,114,32,105,32,61,32]:ab) vB.1).bind fun s25=>
 (bD s25 ([32,46,46,32]:ab)).bind fun s26=>
 (bJ b2 qT.2.1 ([([52]:ab),([56]:ab),([120]:ab),([57]:ab)])).bind fun zg=>
 (bD s26 zg.1).bind fun s27=>
 (bD s27 ([32]:ab)).bind fun s28=>
 (aA b2 zg.2.1 2).bind fun KK=>
 (aX I8 OF VG N3 b2 KK.2.1 (bh (kW - 1)) (bh (1+KK.1))).bind fun Jx=>
 (bD s28 Jx.1).bind fun s29=>
 (bD s29 ([10]:ab)).bind fun s30=>
 some (Jx.2.1,Jx.2.2.1,s30,())
def pT(ce:km)(aX:jA)(k:Nat)(gU fJ gz:XS)(less:Int)(b:XI)(p bx:Int):Option (ab×Int×Int×Unit):=
 (aA b p 22).bind fun r1=>
 bif decide ((bh (less - 1))<0) then
  some (([120,32,61,32,120,59,10]:ab),r1.2.1,(bh (less - 1)),())
 else
  aa (fun(v2:Bool)=>
   bif v2 then
    (bJ b r1.2.1 gz).bind fun r2=>
    (bD r2.1 ([32,61,32]:ab)).bind fun s=>
    (cw k gU fJ gz (bh (less - 1)) b r2.2.1 2).bind fun r3=>
    (bD s r3.1).bind fun s2=>
    (bD s2 ([59,10]:ab)).bind fun s3=>
    some (s3,r3.2.1,(bh (less - 1)),())
   else
    bif r1.1==5 then
     (fL k gU fJ gz (bh (less - 1)) b r1.2.1 1).bind fun r4=>
     (bD ([105,102,32]:ab) r4.1).bind fun s4=>
     (bD s4 ([32]:ab)).bind fun s5=>
     (aA b r4.2.1 2).bind fun r5=>
     (aX gU fJ gz (bh (less - 1)) b r5.2.1 (bh (bx - 1)) (bh (1+r5.1))).bind fun r6=>
     (bD s5 r6.1).bind fun s6=>
     (bD s6 ([32,101,108,115,101,32]:ab)).bind fun s7=>
     (aA b r6.2.1 2).bind fun r7=>
     (aX gU fJ gz r6.2.2.1 b r7.2.1 (bh (bx - 1)) r7.1).bind fun r8=>
     (bD s7 r8.1).bind fun s8=>
     (bD s8 ([10]:ab)).bind fun s9=>
     some (s9,r8.2.1,r8.2.2.1,())
    else
     bif r1.1==6 then
      (fL k gU fJ gz (bh (less - 1)) b r1.2.1 2).bind fun r9=>
      (bD ([105,102,32]:ab) r9.1).bind fun s10=>
      (bD s10 ([32]:ab)).bind fun s11=>
      (aA b r9.2.1 2).bind fun kz=>
      (aX gU fJ gz (bh (less - 1)) b kz.2.1 (bh (bx - 1)) (bh (1+kz.1))).bind fun n8=>
      (bD s11 n8.1).bind fun s12=>
      (bD s12 ([10]:ab)).bind fun s13=>
      some (s13,n8.2.1,n8.2.2.1,())
     else
      bif r1.1==7 then
       (bJ b r1.2.1 gz).bind fun o7=>
       (bD ([119,104,105,108,101,32]:ab) o7.1).bind fun s14=>
       (bD s14 ([32,60,32]:ab)).bind fun s15=>
       (aA b o7.2.1 14).bind fun pX=>
       (nq k pX.1).bind fun rV=>
       (bD s15 rV.1).bind fun s16=>
       (bD s16 ([32]:ab)).bind fun s17=>
       (aA b pX.2.1 2).bind fun qS=>
       (aX gU fJ gz (bh (less - 1)) b qS.2.1 (bh (bx - 1)) qS.1).bind fun tf=>
       (sub tf.1 0 2).bind fun l=>
       (bD s17 l).bind fun s18=>
       (bD s18 o7.1).bind fun s19=>
       (bD s19 ([32,61,32]:ab)).bind fun s20=>
       (bD s20 o7.1).bind fun s21=>
       (bD s21 ([32,43,32]:ab)).bind fun s22=>
       (aA b tf.2.1 3).bind fun vA=>
       (nq k (bh (1+vA.1))).bind fun rS=>
       (bD s22 rS.1).bind fun s23=>
       (bD s23 ([59,10,125,10]:ab)).bind fun s24=>
       some (s24,vA.2.1,tf.2.2.1,())
      else
       bif r1.1==8 then
        (uE ce aX k b gU fJ gz bx r1.2.1 (bh (less - 1))).bind fun o=>
        some (o.2.2.1,o.1,o.2.1,())
       else
        bif r1.1==9 then
         (fL k gU fJ gz (bh (less - 1)) b r1.2.1 1).bind fun qT=>
         (bD ([119,104,105,108,101,32]:ab) qT.1).bind fun s25=>
         (bD s25 ([32]:ab)).bind fun s26=>
         (aA b qT.2.1 2).bind fun vB=>
         (aX gU fJ gz (bh (less - 1)) b vB.2.1 (bh (bx - 1)) (bh (1+vB.1))).bind fun zg=>
         (bD s26 zg.1).bind fun s27=>
         (bD s27 ([10]:ab)).bind fun s28=>
         some (s28,zg.2.1,zg.2.2.1,())
        else
         bif r1.1==10 then
          (fL k gU fJ gz (bh (less - 1)) b r1.2.1 1).bind fun KK=>
          (bD ([97,115,115,101,114,116,32]:ab) KK.1).bind fun s29=>
          (bD s29 ([59,10]:ab)).bind fun s30=>
          some (s30,KK.2.1,(bh (less - 1)),())
         else
          (uF k gU fJ gz (bh (less - 1)) b r1.2.1 r1.1).bind fun Jx=>
          some (Jx.1,Jx.2.1,(bh (less - 1)),())) fun iR=>
  bif decide (r1.1<5) then
   iR true
  else
   aa (fun(v:Bool)=>
    iR v) fun cv=>
   bif decide (bx≤0) then
    cv (decide (r1.1<11))
   else
    cv false
def lQ(ce:km)(aX:jA)(q:Nat):Nat→XI→XS→XS→XS→Int→Int→Int→Int→ab→Int→Option (Int×Int×ab×Unit)
 |0,_,_,_,_,_,_,_,_,_,_=>none
 |k+1,b2,I8,OF,VG,kW,n2,p2,N3,out,k1=>
  bif decide (k1<n2) then
   (ce I8 OF VG N3 b2 p2 kW).bind fun r1=>
   (bD out r1.1).bind fun s=>
   lQ ce aX q k b2 I8 OF VG kW n2 r1.2.1 r1.2.2.1 s (bh (k1+1))
  else
   some (p2,N3,out,())
def oX(ce:km)(aX:jA)(k:Nat)(gU fJ gz:XS)(less:Int)(b:XI)(p bx n:Int):Option (ab×Int×Int×Unit):=
 (lQ ce aX k k b gU fJ gz bx n p less ([123,10]:ab) 0).bind fun o=>
 (bD o.2.2.1 ([125]:ab)).bind fun s=>
 some (s,o.1,o.2.1,())
def lO:Nat→km×jA
 |0=>(fun _ _ _ _ _ _ _=>none,fun _ _ _ _ _ _ _ _=>none)
 |k+1=>(pT (lO k).1 (lO k).2 k,oX (lO k).1 (lO k).2 k)
def mL(k:Nat):km:=(lO k).1
def oW(k:Nat):jA:=(lO k).2
section
variable (ce:Gd a8 116 CY) (aX:Gd a8 144 A7)
def xr(k:Nat):mn:=⟨⟨192,[(118,2),(146,5)],[lD 118 0 (.slice U),(.l 146 0,.lit (.lw 118 0)),lD 146 1 sS,lD 146 2 sS,lD 146 3 sS,rP 0 146,rI 1],[lI 118 1,lI 146 4],[]⟩,[.ex .normal [lI 118 1,lI 146 4,rD 4 .str]],fun q c v=>uE ce.1 aX.1 k c.1 c.2.2.1 c.2.2.2.1 c.2.2.2.2.1 c.2.2.2.2.2.2.1 v.1 v.2.1⟩
def CQ(k:Nat):Ev a8:=⟨[eK,xB k,uc,wL k,LH k,aX.cl,J4 k],[rg 15 (xr ce aX k)],[]⟩
def FR(k:Nat):Cd a8:=rgC (CQ ce aX k) f116 15 (xr ce aX k) [[0,1,2,3,8,13,14,15,16,17,18,19,4,5,6,7,9,10,11,12,20,21,22,23,24,25],[0,1,2,3,8,13,14,15,16,17,18,19,4,9,5,6,7,10,11,12,20,21,22,23,24,25],[0,1,2,3,8,13,14,15,16,17,18,19,9,4,5,6,7,10,11,12,20,21,22,23,24,25]]
def LR(k:Nat):Cl a8:=lB (CQ ce aX k) 116 f116 func116 call116 [500000] (sH (pT ce.1 aX.1 k)) [FR ce aX k]
def xp(k:Nat):mn:=⟨⟨21,[(118,2),(146,5)],[lD 118 0 (.slice U),(.l 146 0,.lit (.lw 118 0)),lD 146 1 sS,lD 146 2 sS,lD 146 3 sS,rP 0 146,rI 1,rI 2],[lI 118 1,lI 146 4,rD 7 .str,rI 8],[]⟩,[.ex (.exit 0) [lI 118 1,lI 146 4,rD 7 .str]],fun q c v=>lQ ce.1 aX.1 k q c.1 c.2.2.1 c.2.2.2.1 c.2.2.2.2.1 c.2.2.2.2.2.2.1 c.2.2.2.2.2.2.2.1 v.1 v.2.1 v.2.2.1 v.2.2.2.1⟩
def AY(k:Nat):Ev a8:=⟨[ce.cl],[lp 0 (xp ce aX k) k],[]⟩
def FP(k q:Nat):Cd a8:=nV (AY ce aX k) f144 0 (xp ce aX k) q []
def Kh(k:Nat):Cl a8:=lB (AY ce aX k) 144 f144 func144 call144 [500000] (qU (oX ce.1 aX.1 k)) [FP ce aX k k]
end
theorem qv:∀ k,kZ prog gt 116 (CY (mL k))∧kZ prog gt 144 (A7 (oW k))
 |0=>⟨cP (fun _ _=>rfl),cP (fun _ _=>rfl)⟩
 |k+1=>have ih:=qv k;⟨(LR ⟨_,ih.1⟩ ⟨_,ih.2⟩ k).ok,(Kh ⟨_,ih.1⟩ ⟨_,ih.2⟩ k).ok⟩
def LI(k:Nat):Cl a8:=⟨_,_,(qv k).1⟩
def XP(k:Nat):Cl a8:=⟨_,_,(qv k).2⟩
def mR(q:Nat):Nat→XI→XS→XS→XS→Int→Int→ab→Int→Option (Int×Int×ab×Unit)
 |0,_,_,_,_,_,_,_,_=>none
 |k+1,b2,I8,OF,VG,p2,N3,out,k1=>
  bif decide (k1 > 0) then
   (mL q I8 OF VG N3 b2 p2 2).bind fun r2=>
   (bD out r2.1).bind fun s=>
   mR q k b2 I8 OF VG r2.2.1 r2.2.2.1 s (bh (k1 - 1))
  else
   some (p2,N3,out,())
def pY(k:Nat)(gU fJ gz:XS)(less:Int)(b:XI)(p n:Int):Option (ab×Int×Int×Unit):=
 (aA b p (bh (2 * n))).bind fun r1=>
 (mR k k b gU fJ gz r1.2.1 less ([]:ab) (bh (1+r1.1))).bind fun o=>
 some (o.2.2.1,o.1,o.2.1,())
def y4(k:Nat):mn:=⟨⟨24,[(118,2),(146,5)],[lD 118 0 (.slice U),(.l 146 0,.lit (.lw 118 0)),lD 146 1 sS,lD 146 2 sS,lD 146 3 sS,rP 0 146],[lI 118 1,lI 146 4,rD 5 .str,rI 6],[]⟩,[.ex (.exit 0) [lI 118 1,lI 146 4,rD 5 .str]],fun q c v=>mR k q c.1 c.2.2.1 c.2.2.2.1 c.2.2.2.2.1 v.1 v.2.1 v.2.2.1 v.2.2.2.1⟩
def CO(k:Nat):Ev a8:=⟨[eK,LI k],[lp 0 (y4 k) k],[]⟩
def Hd(k q:Nat):Cd a8:=nV (CO k) f81 0 (y4 k) q []
def LG(k:Nat):Cl a8:=lB (CO k) 81 f81 func81 call81 [500000] ⟨⟨24,[(146,5),(118,2)],[(.l 146 0,.lit (.lw 118 0)),lD 146 1 sS,lD 146 2 sS,lD 146 3 sS,lD 118 0 (.slice U)],[rP 0 146,rI 1,lI 146 4,lI 118 1],[]⟩,[.ret [rD 500000 .str,lI 118 1,lI 146 4] []],fun c v=>pY k c.2.1 c.2.2.1 c.2.2.2.1 v.2.2.1 c.2.2.2.2.1 v.2.2.2.1 v.2.1⟩ [Hd k k]
def vU(k:Nat)(b:XI)(p:Int):Option (ab×Int×Unit):=
 (aA b p 16).bind fun r1=>
 (aA b r1.2.1 5).bind fun r2=>
 (nq k (bh (1+r2.1))).bind fun r3=>
 (bD ([97,114,114,97,121,32,97,91,56,93,59,10,97,114,114,97,121,32,98,91]:ab) r3.1).bind fun s=>
 (bD s ([93,59,10,118,97,114,32,103,59,10,118,97,114,32,110,59,10]:ab)).bind fun s2=>
 (pY k ([([120]:ab),([121]:ab),([103]:ab)]) [] ([([120]:ab),([103]:ab)]) (bh (5+r1.1)) b r2.2.1 1).bind fun r4=>
 (bD ([102,117,110,99,32,102,40,120,44,32,121,41,32,123,10,118,97,114,32,105,59,10]:ab) r4.1).bind fun s3=>
 (bD s3 ([114,101,116,117,114,110,32,120,59,10,125,10]:ab)).bind fun s4=>
 (pY k ([([120]:ab),([121]:ab),([103]:ab)]) [] ([([120]:ab),([103]:ab)]) r4.2.2.1 b r4.2.1 1).bind fun r5=>
 (bD ([102,117,110,99,32,104,40,120,41,32,123,10,118,97,114,32,105,44,32,121,59,10]:ab) r5.1).bind fun s5=>
 (bD s5 ([114,101,116,117,114,110,32,121,59,10,125,10]:ab)).bind fun s6=>
 (aA b r5.2.1 14).bind fun r6=>
 (pY k ([([120]:ab),([121]:ab),([122]:ab),([103]:ab),([110]:ab),([105]:ab)]) ([([112]:ab),([113]:ab)]) ([([120]:ab),([121]:ab),([122]:ab),([103]:ab),([110]:ab)]) (bh (4+r6.1)) b r6.2.1 5).bind fun r7=>
 (bD ([102,117,110,99,32,109,97,105,110,40,41,32,123,10,118,97,114,32,105,44,32,120,44,32,121,44,32,122,59,10,114,101,102,32,112,44,32,113,59,10]:ab) r7.1).bind fun s7=>
 (bD s7 ([125,10]:ab)).bind fun s8=>
 (aA b r7.2.1 4).bind fun r8=>
 bif r8.1==0 then
  (bD s2 s8).bind fun s9=>
  (bD s9 s6).bind fun s10=>
  (bD s10 s4).bind fun s11=>
  some (s11,r8.2.1,())
 else
  (bD s2 s4).bind fun s12=>
  (bD s12 s6).bind fun s13=>
  (bD s13 s8).bind fun s14=>
  some (s14,r8.2.1,())
def LK(k:Nat):Cl a8:=lB ⟨[eK,xB k,LG k],[],[(13,146)]⟩ 51 f51 func51 call51 [500000] ⟨⟨75,[(118,2)],[lD 118 0 (.slice U)],[rP 0 118,lI 118 1],[]⟩,[.ret [rD 500000 .str,lI 118 1] []],fun c v=>vU k c.1 v.2.1⟩ []
def wB(b:XI)(p:Int):Option (ab×Int×Unit):=
 (aA b p 8).bind fun r1=>
 bif decide (r1.1<2) then
  (aA b r1.2.1 17).bind fun r2=>
  (bC ([([97,114,114,97,121]:ab),([118,97,114]:ab),([114,101,102]:ab),([102,117,110,99]:ab),([105,102]:ab),([101,108,115,101]:ab),([119,104,105,108,101]:ab),([102,111,114]:ab),([114,101,97,100]:ab),([112,114,105,110,116]:ab),([97,115,115,101,114,116]:ab),([115,116,111,112]:ab),([114,101,116,117,114,110]:ab),([97,110,100]:ab),([111,114]:ab),([110,111,116]:ab),([110,117,108,108]:ab)]) r2.1).bind fun x1=>
  (bC ([([97,114,114,97,121]:ab),([118,97,114]:ab),([114,101,102]:ab),([102,117,110,99]:ab),([105,102]:ab),([101,108,115,101]:ab),([119,104,105,108,101]:ab),([102,111,114]:ab),([114,101,97,100]:ab),([112,114,105,110,116]:ab),([97,115,115,101,114,116]:ab),([115,116,111,112]:ab),([114,101,116,117,114,110]:ab),([97,110,100]:ab),([111,114]:ab),([110,111,116]:ab),([110,117,108,108]:ab)]) (r2.1.toNat:Int)).bind fun x2=>
  some (x2,r2.2.1,())
 else
  bif decide (r1.1<4) then
   (aA b r1.2.1 5).bind fun r3=>
   (bC ([([120]:ab),([109,97,105,110]:ab),([97,49]:ab),([97,98,99,100,101,102,103,104]:ab),([118,97,114,97]:ab)]) r3.1).bind fun x3=>
   (bC ([([120]:ab),([109,97,105,110]:ab),([97,49]:ab),([97,98,99,100,101,102,103,104]:ab),([118,97,114,97]:ab)]) (r3.1.toNat:Int)).bind fun x4=>
   some (x4,r3.2.1,())
  else
   bif r1.1==4 then
    (aA b r1.2.1 4).bind fun r4=>
    (bC ([([48]:ab),([55]:ab),([49,48]:ab),([50,49,52,55,52,56,51,54,52,55]:ab)]) r4.1).bind fun x5=>
    (bC ([([48]:ab),([55]:ab),([49,48]:ab),([50,49,52,55,52,56,51,54,52,55]:ab)]) (r4.1.toNat:Int)).bind fun x6=>
    some (x6,r4.2.1,())
   else
    (xT).bind fun r5=>
    (aA b r1.2.1 (r5.1.length:Int)).bind fun r6=>
    (bC r5.1 r6.1).bind fun x7=>
    some (x7,r6.2.1,())
def Pg:Cl a8:=lB ⟨[eK,Ec],[],[]⟩ 82 f82 func82 call82 [500000] ⟨⟨36,[(118,2)],[lD 118 0 (.slice U)],[rP 0 118,lI 118 1],[]⟩,[.ret [rD 500000 .str,lI 118 1] []],fun c v=>wB c.1 v.2.1⟩ []
def CE(b:XI)(p:Int):Option (ab×Int×Unit):=
 (aA b p 15).bind fun r1=>
 (bC ([([97,98,99,100,101,102,103,104,105]:ab),([50,49,52,55,52,56,51,54,52,56]:ab),([48,49]:ab),([57,57,57,57,57,57,57,57,57,57,57,57,57,57,57,57,57,57,57,57]:ab),([88]:ab),([33]:ab),([120,49,121]:ab),([49,120]:ab),([61,61,60]:ab),([43,37,37]:ab),([46,46,46]:ab),([35,32,97,108,108]:ab),([9]:ab),([0]:ab),([36]:ab)]) r1.1).bind fun x1=>
 (bC ([([97,98,99,100,101,102,103,104,105]:ab),([50,49,52,55,52,56,51,54,52,56]:ab),([48,49]:ab),([57,57,57,57,57,57,57,57,57,57,57,57,57,57,57,57,57,57,57,57]:ab),([88]:ab),([33]:ab),([120,49,121]:ab),([49,120]:ab),([61,61,60]:ab),([43,37,37]:ab),([46,46,46]:ab),([35,32,97,108,108]:ab),([9]:ab),([0]:ab),([36]:ab)]) (r1.1.toNat:Int)).bind fun x2=>
 some (x2,r1.2.1,())
def Rw:Cl a8:=lB ⟨[eK],[],[]⟩ 83 f83 func83 call83 [500000] ⟨⟨8,[(118,2)],[lD 118 0 (.slice U)],[rP 0 118,lI 118 1],[]⟩,[.ret [rD 500000 .str,lI 118 1] []],fun c v=>CE c.1 v.2.1⟩ []
def Ak(b:XI)(p:Int)(s:ab):Option (ab×Int×Unit):=
 bif (s.length:Int)==0 then
  some (s,p,())
 else
  (aA b p 256).bind fun r1=>
  (aA b r1.2.1 256).bind fun r2=>
  bif decide ((s.length:Int)=0) then
   none
  else
   (aA b r2.2.1 6).bind fun r3=>
   bif r3.1==0 then
    (sub s 0 ((bh ((bh (r1.1 * 256))+r2.1)).tmod (s.length:Int))).bind fun l=>
    (sub s (bh (((bh ((bh (r1.1 * 256))+r2.1)).tmod (s.length:Int))+1)) (s.length:Int)).bind fun l2=>
    (bD l l2).bind fun s2=>
    some (s2,r3.2.1,())
   else
    bif r3.1==1 then
     (sub s 0 ((bh ((bh (r1.1 * 256))+r2.1)).tmod (s.length:Int))).bind fun l3=>
     some (l3,r3.2.1,())
    else
     bif r3.1==2 then
      (sub s 0 ((bh ((bh (r1.1 * 256))+r2.1)).tmod (s.length:Int))).bind fun l4=>
      (bD l4 ([32]:ab)).bind fun s3=>
      (sub s ((bh ((bh (r1.1 * 256))+r2.1)).tmod (s.length:Int)) (s.length:Int)).bind fun l5=>
      (wB b r3.2.1).bind fun r4=>
      (bD s3 r4.1).bind fun s4=>
      (bD s4 ([32]:ab)).bind fun s5=>
      (bD s5 l5).bind fun s6=>
      some (s6,r4.2.1,())
     else
      bif r3.1==3 then
       (sub s 0 ((bh ((bh (r1.1 * 256))+r2.1)).tmod (s.length:Int))).bind fun l6=>
       (sub s (bh (((bh ((bh (r1.1 * 256))+r2.1)).tmod (s.length:Int))+1)) (s.length:Int)).bind fun l7=>
       (aA b r3.2.1 20).bind fun r5=>
       (bC ([97,98,112,120,122,48,49,57,59,123,125,40,41,91,93,61,43,45,42,60]:ab) r5.1).bind fun b2=>
       (bD l6 (List.map (fun n=>UInt8.ofNat n.toNat) ([(b2.toNat:Int)]):ab)).bind fun s7=>
       (bD s7 l7).bind fun s8=>
       some (s8,r5.2.1,())
      else
       bif r3.1==4 then
        (wB b r3.2.1).bind fun r6=>
        (bD s r6.1).bind fun s9=>
        some (s9,r6.2.1,())
       else
        (sub s 0 ((bh ((bh (r1.1 * 256))+r2.1)).tmod (s.length:Int))).bind fun l8=>
        (sub s ((bh ((bh (r1.1 * 256))+r2.1)).tmod (s.length:Int)) (s.length:Int)).bind fun l9=>
        (CE b r3.2.1).bind fun r7=>
        (bD l8 r7.1).bind fun s10=>
        (bD s10 l9).bind fun s11=>
        some (s11,r7.2.1,())
def Ph:Cl a8:=lB ⟨[eK,Pg,Rw],[],[]⟩ 52 f52 func52 call52 [500000] ⟨⟨84,[(118,2)],[lD 118 0 (.slice U)],[rP 0 118,rD 1 .str,lI 118 1],[]⟩,[.ret [rD 500000 .str,lI 118 1] []],fun c v=>Ak c.1 v.2.2.1 v.2.1⟩ []
def iK(k:Nat)(code:XI):Option (ab×Unit):=
 (wA code).bind fun r1=>
 (aA r1.1 r1.2.1 14).bind fun r2=>
 bif r2.1==0 then
  (CH r1.1 r2.2.1).bind fun r3=>
  some (r3.1,())
 else
  (vU k r1.1 r2.2.1).bind fun r4=>
  bif r2.1==1 then
   (Ak r1.1 r4.2.1 r4.1).bind fun r5=>
   some (r5.1,())
  else
   some (r4.1,())
def Ea(k:Nat):Cl a8:=wD ⟨[Gp,eK,RA,LK k,Ph],[],[]⟩ 30 f30 func30 call30 [(.slice U)] [.str] (fun d=>iK k d.1) []
def iI(q:Nat):Nat→XI→XI→Int→Option (((Unit)⊕(Bool×Unit)))
 |0,_,_,_=>none
 |k+1,a2,b2,i1=>
  bif decide (i1<(a2.length:Int)) then
   (bC a2 i1).bind fun x1=>
   (bC b2 i1).bind fun x2=>
   bif x1 != x2 then
    some (.inr (false,()))
   else
    iI q k a2 b2 (bh (i1+1))
  else
   some (.inl ())
def mI(k:Nat)(a b:XI):Option (Bool×Unit):=
 bif (a.length:Int) != (b.length:Int) then
  some (false,())
 else
  (iI k k a b 0).bind fun r=>match r with
  |.inl o=>
   some (true,())
  |.inr o2=>
   some (o2.1,())
def yX(k:Nat):mn:=⟨⟨26,[],[rD 0 sI,rD 1 sI],[rI 5],[]⟩,[.ex (.exit 0) [],.ex .ret [rD 4 .bool]],fun q c v=>iI k q c.1 c.2.1 v.1⟩
def CL(k:Nat):Ev a8:=⟨[],[lp 0 (yX k) k],[]⟩
def G6(k q:Nat):Cd a8:=nV (CL k) f15 0 (yX k) q []
def LD(k:Nat):Cl a8:=wD (CL k) 15 f15 func15 call15 [sI,sI] [.bool] (fun d=>mI k d.1 d.2.1) [G6 k k]
def rz(k:Nat)(code:XI):Option (ab×Int×Unit):=
 (wA code).bind fun r1=>
 (iK k code).bind fun r2=>
 (aA r1.1 r1.2.1 63).bind fun r3=>
 some (r2.1,(bh (r3.1 - 1)),())
def Ht(k:Nat):Cl a8:=wD ⟨[Ea k,Gp,eK],[],[]⟩ 19 f19 func19 call19 [(.slice U)] [.str,I] (fun d=>rz k d.1) []
def Je(code:XI)(i1:Int):Option (Int×Unit):=
 bif (code.length:Int)==0 then
  some ((IntKind.u8.wrap ((bh (i1 * 37)))),())
 else
  bif decide (i1<(code.length:Int)) then
   (bC code i1).bind fun x1=>
   some (x1,())
  else
   bif decide ((code.length:Int)=0) then
    none
   else
    (bC code (i1.tmod (code.length:Int))).bind fun x2=>
    bif decide ((code.length:Int)=0) then
     none
    else
     (bC code ((bh ((bh (i1 * 5))+1)).tmod (code.length:Int))).bind fun x3=>
     some ((IntKind.u8.wrap ((IntKind.u8.wrap ((IntKind.u8.wrap (x2 * 31))+x3))+(IntKind.u8.wrap (i1)))),())
def XO:Cl a8:=wD ⟨[],[],[]⟩ 20 f20 func20 call20 [(.slice U),I] [U] (fun d=>Je d.1 d.2.1) []
def kQ(k:Nat)(code:XI):Option (Bool×Unit):=
 bif decide ((code.length:Int) > 1048576) then
  some (true,())
 else
  (rz k code).bind fun r1=>
  (pu k r1.1 r1.2.1).bind fun r2=>
  (rA k r1.1 r1.2.1).bind fun r3=>
  (mI k r2.1 r3.1).bind fun r4=>
  bif !r4.1 then
   some (false,())
  else
   (dG k r1.1).bind fun r5=>
   aa (fun(v:Bool)=>
    aa (fun(v2:Bool)=>
     bif v2 then
      some ((r2.1.length:Int)==0,())
     else
      (Je code 5).bind fun r6=>
      (pu k r1.1 ((bh (r6.1)).tmod 60)).bind fun r7=>
      bif r1.2.1==((bh (r6.1)).tmod 60) then
       (mI k r2.1 r7.1).bind fun r8=>
       some (r8.1,())
      else
       (mI k r2.1 r7.1).bind fun r9=>
       aa (fun(v5:Bool)=>
        some (v5,())) fun jx5=>
       bif !r9.1 then
        aa (fun(v4:Bool)=>
         jx5 ((decide (r1.2.1<((bh (r6.1)).tmod 60)))==v4)) fun jx4=>
        bif decide ((r2.1.length:Int)<(r7.1.length:Int)) then
         jx4 true
        else
         aa (fun(v3:Bool)=>
          jx4 v3) fun uR=>
         bif (r2.1.length:Int)==(r7.1.length:Int) then
          uR (decide (r1.2.1<((bh (r6.1)).tmod 60)))
         else
          uR false
       else
        jx5 false) fun iR=>
    bif v then
     iR true
    else
     iR (decide (r1.2.1≥60))) fun cv=>
   bif r5.2.1.1 != 0 then
    cv true
   else
    cv (decide (r1.2.1<0))
def Hs(k:Nat):Cl a8:=wD ⟨[M6 k,M3 k,LD k,ve k,Ht k,XO],[],[(6,35),(7,37)]⟩ 6 f6 func6 call6 [(.slice U)] [.bool] (fun d=>kQ k d.1) []
end
end Go.Fx.R5
