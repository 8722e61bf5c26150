/- Proved here: laws.FnExactEngineTop returns true at every input (the tied card), no condition beyond the card. -/
import Derived.Test.YtldbfcdfogojfaaGreatDoorCa
set_option linter.unusedVariables false
set_option linter.unusedSimpArgs false
set_option linter.unusedSectionVars false
set_option linter.defProp false
set_option maxRecDepth 100000
namespace Go.Fx.R5
open Go Go.Fx Go.Proofs Go.Proofs.Tryz
noncomputable section
def kE(q:Nat):Nat→XQ→Int→Int→Option (XQ×Int×Unit)
 |0,_,_,_=>none
 |k+1,a2,k2,i1=>
  bif decide (i1<(a2.length:Int)) then
   (bA a2 i1).bind fun x1=>
   (bA a2 (i1.toNat:Int)).bind fun x2=>
   (bA (List.set a2 i1.toNat (k2,x2.2)) i1).bind fun x3=>
   (bA (List.set a2 i1.toNat (k2,x2.2)) (i1.toNat:Int)).bind fun x4=>
   (bA (List.set (List.set a2 i1.toNat (k2,x2.2)) i1.toNat (x4.1,(cm (k2+1)),x4.2.2)) i1).bind fun x5=>
   (bA (List.set (List.set a2 i1.toNat (k2,x2.2)) i1.toNat (x4.1,(cm (k2+1)),x4.2.2)) (i1.toNat:Int)).bind fun x6=>
   (bA (List.set (List.set (List.set a2 i1.toNat (k2,x2.2)) i1.toNat (x4.1,(cm (k2+1)),x4.2.2)) i1.toNat (x6.1,x6.2.1,(cm ((cm (k2+1))+1)),x6.2.2.2)) i1).bind fun x7=>
   (bA (List.set (List.set (List.set a2 i1.toNat (k2,x2.2)) i1.toNat (x4.1,(cm (k2+1)),x4.2.2)) i1.toNat (x6.1,x6.2.1,(cm ((cm (k2+1))+1)),x6.2.2.2)) (i1.toNat:Int)).bind fun x8=>
   kE q k (List.set (List.set (List.set (List.set a2 i1.toNat (k2,x2.2)) i1.toNat (x4.1,(cm (k2+1)),x4.2.2)) i1.toNat (x6.1,x6.2.1,(cm ((cm (k2+1))+1)),x6.2.2.2)) i1.toNat (x8.1,x8.2.1,x8.2.2.1,(cm ((cm ((cm (k2+1))+1))+1)))) (cm ((cm ((cm ((cm (k2+1))+1))+1))+1)) (cm (i1+1))
  else
   some (a2,k2,())
def pD(k:Nat)(a:XQ)(k1:Int):Option (Int×XQ×Unit):=
 (kE k k a k1 0).bind fun o=>
 some (o.2.1,o.1,())
def yx(k:Nat):lq:=⟨⟨41,[],[],[(.r 0,.h .dB tQ),rI 1,rI 5],[1000000]⟩,[.ex (.exit 0) [(.r 0,.h .dB tQ),rI 1]],fun q c v=>kE k q v.1 v.2.1 v.2.2.1⟩
def CB(k:Nat):Ev aW:=⟨[],[lp 0 (yx k) k],[]⟩
def GJ(k q:Nat):Cd aW:=nq (CB k) f17 0 (yx k) q []
def Lz(k:Nat):Cl aW:=ml (CB k) 17 f17 func17 call17 [500000] ⟨⟨41,[],[],[(.r 0,.h .dB tQ),rI 1],[1000000]⟩,[.ret [rI 500000,(.r 0,.h .dB tQ)] []],fun c v=>pD k v.1 v.2.1⟩ [GJ k k]
def kC(q:Nat):Nat→XI→Int→Int→Option (XI×Int×Unit)
 |0,_,_,_=>none
 |k+1,a2,k2,i1=>
  bif decide (i1<(a2.length:Int)) then
   (bA a2 i1).bind fun x1=>
   (bA a2 (i1.toNat:Int)).bind fun x2=>
   kC q k (List.set a2 i1.toNat k2) (cm (k2+1)) (cm (i1+1))
  else
   some (a2,k2,())
def rz(k:Nat)(a:XI)(k1:Int):Option (Int×XI×Unit):=
 (kC k k a k1 0).bind fun o=>
 some (o.2.1,o.1,())
def yw(k:Nat):lq:=⟨⟨19,[],[],[(.r 0,.h .dB I),rI 1,rI 5],[1000000]⟩,[.ex (.exit 0) [(.r 0,.h .dB I),rI 1]],fun q c v=>kC k q v.1 v.2.1 v.2.2.1⟩
def CA(k:Nat):Ev aW:=⟨[],[lp 0 (yw k) k],[]⟩
def GI(k q:Nat):Cd aW:=nq (CA k) f44 0 (yw k) q []
def CT(k:Nat):Cl aW:=ml (CA k) 44 f44 func44 call44 [500000] ⟨⟨19,[],[],[(.r 0,.h .dB I),rI 1],[1000000]⟩,[.ret [rI 500000,(.r 0,.h .dB I)] []],fun c v=>rz k v.1 v.2.1⟩ [GI k k]
def iE(q:Nat):Nat→List (Bool×XI×Int×Int×Int×Int)→Int→Int→Option (List (Bool×XI×Int×Int×Int×Int)×Int×Unit)
 |0,_,_,_=>none
 |k+1,a2,k2,i1=>
  bif decide (i1<(a2.length:Int)) then
   (bA a2 i1).bind fun x1=>
   (bA a2 (i1.toNat:Int)).bind fun e=>
   (bA (List.set a2 i1.toNat ((k2.tmod 3)==0,e.2)) i1).bind fun x2=>
   (bA (List.set a2 i1.toNat ((k2.tmod 3)==0,e.2)) (i1.toNat:Int)).bind fun x3=>
   (bA (List.set a2 i1.toNat ((k2.tmod 3)==0,e.2)) (i1.toNat:Int)).bind fun e2=>
   (rz q e2.2.1 (cm (k2+1))).bind fun r1=>
   (bA (List.set (List.set a2 i1.toNat ((k2.tmod 3)==0,e.2)) i1.toNat (e2.1,r1.2.1,e2.2.2)) i1).bind fun x4=>
   (bA (List.set (List.set a2 i1.toNat ((k2.tmod 3)==0,e.2)) i1.toNat (e2.1,r1.2.1,e2.2.2)) (i1.toNat:Int)).bind fun e3=>
   (bA (List.set (List.set (List.set a2 i1.toNat ((k2.tmod 3)==0,e.2)) i1.toNat (e2.1,r1.2.1,e2.2.2)) i1.toNat (e3.1,e3.2.1,r1.1,e3.2.2.2)) i1).bind fun x5=>
   (bA (List.set (List.set (List.set a2 i1.toNat ((k2.tmod 3)==0,e.2)) i1.toNat (e2.1,r1.2.1,e2.2.2)) i1.toNat (e3.1,e3.2.1,r1.1,e3.2.2.2)) (i1.toNat:Int)).bind fun e4=>
   (bA (List.set (List.set (List.set (List.set a2 i1.toNat ((k2.tmod 3)==0,e.2)) i1.toNat (e2.1,r1.2.1,e2.2.2)) i1.toNat (e3.1,e3.2.1,r1.1,e3.2.2.2)) i1.toNat (e4.1,e4.2.1,e4.2.2.1,(cm (r1.1+1)),e4.2.2.2.2)) i1).bind fun x6=>
   (bA (List.set (List.set (List.set (List.set a2 i1.toNat ((k2.tmod 3)==0,e.2)) i1.toNat (e2.1,r1.2.1,e2.2.2)) i1.toNat (e3.1,e3.2.1,r1.1,e3.2.2.2)) i1.toNat (e4.1,e4.2.1,e4.2.2.1,(cm (r1.1+1)),e4.2.2.2.2)) (i1.toNat:Int)).bind fun e5=>
   (bA (List.set (List.set (List.set (List.set (List.set a2 i1.toNat ((k2.tmod 3)==0,e.2)) i1.toNat (e2.1,r1.2.1,e2.2.2)) i1.toNat (e3.1,e3.2.1,r1.1,e3.2.2.2)) i1.toNat (e4.1,e4.2.1,e4.2.2.1,(cm (r1.1+1)),e4.2.2.2.2)) i1.toNat (e5.1,e5.2.1,e5.2.2.1,e5.2.2.2.1,(cm ((cm (r1.1+1))+1)),e5.2.2.2.2.2)) i1).bind fun x7=>
   (bA (List.set (List.set (List.set (List.set (List.set a2 i1.toNat ((k2.tmod 3)==0,e.2)) i1.toNat (e2.1,r1.2.1,e2.2.2)) i1.toNat (e3.1,e3.2.1,r1.1,e3.2.2.2)) i1.toNat (e4.1,e4.2.1,e4.2.2.1,(cm (r1.1+1)),e4.2.2.2.2)) i1.toNat (e5.1,e5.2.1,e5.2.2.1,e5.2.2.2.1,(cm ((cm (r1.1+1))+1)),e5.2.2.2.2.2)) (i1.toNat:Int)).bind fun e6=>
   iE q k (List.set (List.set (List.set (List.set (List.set (List.set a2 i1.toNat ((k2.tmod 3)==0,e.2)) i1.toNat (e2.1,r1.2.1,e2.2.2)) i1.toNat (e3.1,e3.2.1,r1.1,e3.2.2.2)) i1.toNat (e4.1,e4.2.1,e4.2.2.1,(cm (r1.1+1)),e4.2.2.2.2)) i1.toNat (e5.1,e5.2.1,e5.2.2.1,e5.2.2.2.1,(cm ((cm (r1.1+1))+1)),e5.2.2.2.2.2)) i1.toNat (e6.1,e6.2.1,e6.2.2.1,e6.2.2.2.1,e6.2.2.2.2.1,(cm ((cm ((cm (r1.1+1))+1))+1)))) (cm ((cm ((cm ((cm (r1.1+1))+1))+1))+1)) (cm (i1+1))
  else
   some (a2,k2,())
def uD(k:Nat)(a:List (Bool×XI×Int×Int×Int×Int))(k1:Int):Option (Int×List (Bool×XI×Int×Int×Int×Int)×Unit):=
 (iE k k a k1 0).bind fun o=>
 some (o.2.1,o.1,())
def ul(k:Nat):lq:=⟨⟨61,[],[],[(.r 0,.h .bK (.aO .bool (.aO sI tQ))),rI 1,rI 5],[1000000]⟩,[.ex (.exit 0) [(.r 0,.h .bK (.aO .bool (.aO sI tQ))),rI 1]],fun q c v=>iE k q v.1 v.2.1 v.2.2.1⟩
def xD(k:Nat):Ev aW:=⟨[(CT k).afC 0 0],[lp 0 (ul k) k],[]⟩
def Df(k q:Nat):Cd aW:=nq (xD k) f18 0 (ul k) q []
def GZ(k:Nat):Cl aW:=ml (xD k) 18 f18 func18 call18 [500000] ⟨⟨61,[],[],[(.r 0,.h .bK (.aO .bool (.aO sI tQ))),rI 1],[1000000]⟩,[.ret [rI 500000,(.r 0,.h .bK (.aO .bool (.aO sI tQ)))] []],fun c v=>uD k v.1 v.2.1⟩ [Df k k]
def Ao(k:Nat)(aD:XI)(k1:Int):Option (Int×XI×Unit):=
 (rz k aD k1).bind fun r1=>
 some (r1.1,r1.2.1,())
def Ly(k:Nat):Cl aW:=ml ⟨[CT k],[],[(2,26)]⟩ 19 f19 func19 call19 [500000] ⟨⟨10,[],[],[(.q 0 0,.d I),(.q 0 1,.h .dB I),rI 1],[20000001]⟩,[.ret [rI 500000,(.q 0 1,.h .dB I)] []],fun c v=>Ao k v.2.1 v.2.2.1⟩ []
def wV(k:Nat)(aeA:XQ)(aeB:List (Bool×XI×Int×Int×Int×Int))(ac8:XQ)(aD:XI)(k1:Int):Option (Int×XQ×List (Bool×XI×Int×Int×Int×Int)×XQ×XI×Unit):=
 (pD k aeA k1).bind fun r1=>
 (uD k aeB r1.1).bind fun r2=>
 (pD k ac8 r2.1).bind fun r3=>
 (Ao k aD r3.1).bind fun r4=>
 some (r4.1,r1.2.1,r2.2.1,r3.2.1,r4.2.1,())
def MW(k:Nat):Cl aW:=ml ⟨[Lz k,GZ k,Ly k],[],[(2,28)]⟩ 7 f7 func7 call7 [500000] ⟨⟨22,[],[],[(.q 0 0,.d .bool),(.q 0 1,.h .dB tQ),(.q 0 2,.h .bK (.aO .bool (.aO sI tQ))),(.q 0 3,.h .dB tQ),(.q 0 4,.d I),(.q 0 5,.h .dB I),rI 1],[20000001,20000002,20000003,20000005]⟩,[.ret [rI 500000,(.q 0 1,.h .dB tQ),(.q 0 2,.h .bK (.aO .bool (.aO sI tQ))),(.q 0 3,.h .dB tQ),(.q 0 5,.h .dB I)] []],fun c v=>wV k v.2.1 v.2.2.1 v.2.2.2.1 v.2.2.2.2.2.1 v.2.2.2.2.2.2.1⟩ []
def kB(q:Nat):Nat→XQ→Int→Int→Option (((Int×Unit)⊕(Int×Unit)))
 |0,_,_,_=>none
 |k+1,a2,k2,i1=>
  bif decide (i1<(a2.length:Int)) then
   (bA a2 i1).bind fun x1=>
   bif x1.1 != k2 then
    some (.inr ((-1),()))
   else
    (bA a2 i1).bind fun x2=>
    bif x2.2.1 != (cm (k2+1)) then
     some (.inr ((-1),()))
    else
     (bA a2 i1).bind fun x3=>
     bif x3.2.2.1 != (cm ((cm (k2+1))+1)) then
      some (.inr ((-1),()))
     else
      (bA a2 i1).bind fun x4=>
      bif x4.2.2.2 != (cm ((cm ((cm (k2+1))+1))+1)) then
       some (.inr ((-1),()))
      else
       kB q k a2 (cm ((cm ((cm ((cm (k2+1))+1))+1))+1)) (cm (i1+1))
  else
   some (.inl (k2,()))
def pC(k:Nat)(a:XQ)(k1:Int):Option (Int×Unit):=
 (kB k k a k1 0).bind fun r=>match r with
 |.inl o=>
  some (o.1,())
 |.inr o2=>
  some (o2.1,())
def yv(k:Nat):lq:=⟨⟨49,[],[rD 0 sQ],[rI 1,rI 5],[]⟩,[.ex (.exit 0) [rI 1],.ex .ret [rI 4]],fun q c v=>kB k q c.1 v.1 v.2.1⟩
def Cz(k:Nat):Ev aW:=⟨[],[lp 0 (yv k) k],[]⟩
def GH(k q:Nat):Cd aW:=nq (Cz k) f20 0 (yv k) q []
def Lx(k:Nat):Cl aW:=om (Cz k) 20 f20 func20 call20 [sQ,I] [I] (fun d=>pC k d.1 d.2.1) [GH k k]
def kA(q:Nat):Nat→XI→Int→Int→Option (((Int×Unit)⊕(Int×Unit)))
 |0,_,_,_=>none
 |k+1,a2,k2,i1=>
  bif decide (i1<(a2.length:Int)) then
   (bA a2 i1).bind fun x1=>
   bif x1 != k2 then
    some (.inr ((-1),()))
   else
    kA q k a2 (cm (k2+1)) (cm (i1+1))
  else
   some (.inl (k2,()))
def ry(k:Nat)(a:XI)(k1:Int):Option (Int×Unit):=
 (kA k k a k1 0).bind fun r=>match r with
 |.inl o=>
  some (o.1,())
 |.inr o2=>
  some (o2.1,())
def yu(k:Nat):lq:=⟨⟨21,[],[rD 0 sI],[rI 1,rI 5],[]⟩,[.ex (.exit 0) [rI 1],.ex .ret [rI 4]],fun q c v=>kA k q c.1 v.1 v.2.1⟩
def Cy(k:Nat):Ev aW:=⟨[],[lp 0 (yu k) k],[]⟩
def GG(k q:Nat):Cd aW:=nq (Cy k) f45 0 (yu k) q []
def CS(k:Nat):Cl aW:=om (Cy k) 45 f45 func45 call45 [sI,I] [I] (fun d=>ry k d.1 d.2.1) [GG k k]
def iD(q:Nat):Nat→List (Bool×XI×Int×Int×Int×Int)→Int→Int→Option (((Int×Unit)⊕(Int×Unit)))
 |0,_,_,_=>none
 |k+1,a2,k2,i1=>
  bif decide (i1<(a2.length:Int)) then
   (bA a2 i1).bind fun x1=>
   bif !(x1.1==((k2.tmod 3)==0)) then
    some (.inr ((-1),()))
   else
    (bA a2 i1).bind fun x2=>
    (ry q x2.2.1 (cm (k2+1))).bind fun r1=>
    bif decide (r1.1<0) then
     some (.inr ((-1),()))
    else
     (bA a2 i1).bind fun x3=>
     bif x3.2.2.1 != r1.1 then
      some (.inr ((-1),()))
     else
      (bA a2 i1).bind fun x4=>
      bif x4.2.2.2.1 != (cm (r1.1+1)) then
       some (.inr ((-1),()))
      else
       (bA a2 i1).bind fun x5=>
       bif x5.2.2.2.2.1 != (cm ((cm (r1.1+1))+1)) then
        some (.inr ((-1),()))
       else
        (bA a2 i1).bind fun x6=>
        bif x6.2.2.2.2.2 != (cm ((cm ((cm (r1.1+1))+1))+1)) then
         some (.inr ((-1),()))
        else
         iD q k a2 (cm ((cm ((cm ((cm (r1.1+1))+1))+1))+1)) (cm (i1+1))
  else
   some (.inl (k2,()))
def uC(k:Nat)(a:List (Bool×XI×Int×Int×Int×Int))(k1:Int):Option (Int×Unit):=
 (iD k k a k1 0).bind fun r=>match r with
 |.inl o=>
  some (o.1,())
 |.inr o2=>
  some (o2.1,())
def uk(k:Nat):lq:=⟨⟨73,[],[rD 0 (.slice (.aO .bool (.aO sI tQ)))],[rI 1,rI 5],[]⟩,[.ex (.exit 0) [rI 1],.ex .ret [rI 4]],fun q c v=>iD k q c.1 v.1 v.2.1⟩
def xC(k:Nat):Ev aW:=⟨[CS k],[lp 0 (uk k) k],[]⟩
def De(k q:Nat):Cd aW:=nq (xC k) f21 0 (uk k) q []
def GY(k:Nat):Cl aW:=om (xC k) 21 f21 func21 call21 [(.slice (.aO .bool (.aO sI tQ))),I] [I] (fun d=>uC k d.1 d.2.1) [De k k]
def An(k:Nat)(a:Int×XI)(k1:Int):Option (Int×Unit):=
 (ry k a.2 k1).bind fun r1=>
 bif decide (r1.1<0) then
  some ((-1),())
 else
  some (r1.1,())
def Lw(k:Nat):Cl aW:=om ⟨[CS k],[],[(2,26)]⟩ 22 f22 func22 call22 [(.aO I sI),I] [I] (fun d=>An k d.1 d.2.1) []
def tB(k:Nat)(a:Bool×XQ×List (Bool×XI×Int×Int×Int×Int)×XQ×Int×XI)(k1:Int):Option (Int×Unit):=
 (pC k a.2.1 k1).bind fun r1=>
 bif decide (r1.1<0) then
  some ((-1),())
 else
  (uC k a.2.2.1 r1.1).bind fun r2=>
  bif decide (r2.1<0) then
   some ((-1),())
  else
   (pC k a.2.2.2.1 r2.1).bind fun r3=>
   bif decide (r3.1<0) then
    some ((-1),())
   else
    (An k a.2.2.2.2 r3.1).bind fun r4=>
    bif decide (r4.1<0) then
     some ((-1),())
    else
     some (r4.1,())
def MV(k:Nat):Cl aW:=om ⟨[Lx k,GY k,Lw k],[],[(2,28)]⟩ 8 f8 func8 call8 [(.aO .bool (.aO sQ (.aO (.slice (.aO .bool (.aO sI tQ))) (.aO sQ (.aO I sI))))),I] [I] (fun d=>tB k d.1 d.2.1) []
def ni(k:Nat)(V0:ak)(aFn:Int):Option (Bool×Unit):=
 bif decide ((V0.length:Int) > 1048576) then
  some (true,())
 else
  (mR k V0 aFn).bind fun r1=>
  (kY k V0 aFn).bind fun r2=>
  (yG k (r2.1,r2.2.1,r2.2.2.1,r2.2.2.2.1,r2.2.2.2.2.1,r2.2.2.2.2.2.1) r1.1).bind fun r3=>
  bif !r3.1 then
   some (false,())
  else
   (wV k r2.2.1 r2.2.2.1 r2.2.2.2.1 r2.2.2.2.2.2.1 1).bind fun r4=>
   (tB k (r2.1,r4.2.1,r4.2.2.1,r4.2.2.2.1,r2.2.2.2.2.1,r4.2.2.2.2.1) 1).bind fun r5=>
   bif decide (r5.1<0) then
    some (false,())
   else
    bif r5.1 != r4.1 then
     some (false,())
    else
     (kY k V0 aFn).bind fun r6=>
     (yG k (r6.1,r6.2.1,r6.2.2.1,r6.2.2.2.1,r6.2.2.2.2.1,r6.2.2.2.2.2.1) r1.1).bind fun r7=>
     bif !r7.1 then
      some (false,())
     else
      (tB k (r2.1,r4.2.1,r4.2.2.1,r4.2.2.2.1,r2.2.2.2.2.1,r4.2.2.2.2.1) 1).bind fun r8=>
      bif decide (r8.1<0) then
       some (false,())
      else
       bif r8.1 != r4.1 then
        some (false,())
       else
        some (true,())
def AX(k:Nat):Cl aW:=om ⟨[JX k,JP k,Rh k,MW k,MV k],[],[(5,28)]⟩ 3 f3 func3 call3 [.str,I] [.bool] (fun d=>ni k d.1 d.2.1) []
end
end Go.Fx.R5
