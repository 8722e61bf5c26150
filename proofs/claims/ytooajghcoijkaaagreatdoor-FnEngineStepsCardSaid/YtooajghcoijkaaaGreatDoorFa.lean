/- Proved here: laws.FnEngineSteps returns true at every input (the tied card), no condition beyond the card. -/
import Derived.Calls
import Derived.Orders
import Derived.KernelRfl
import Derived.Below
import Derived.Deep.MidRow
import Derived.Laws.AppendOwn
import Derived.Laws.MakeOwn
import Derived.Laws.Strings
import Derived.Tactics
import Derived.ChangeKeysEq
import Derived.ArgAppend
set_option linter.unusedVariables false
set_option linter.unusedSimpArgs false
set_option linter.unusedSectionVars false
set_option linter.defProp false
set_option maxRecDepth 100000
namespace Go.Fx
def Ob:=@Option.some.injEq
def Q3:=@Bool.and_eq_true
def Q4:=@Nat.eq_of_beq_eq_true
def Q5:=@Int.ofNat_lt
def Q6:=@beq_eq_false_iff_ne
def Q7:=@List.mem_singleton
def Q8:=@List.mem_cons_of_mem
def Q9:=@Option.bind_assoc
def aia:=@Prod.mk.injEq
def aja:=@cond_true
def aka:=@if_false
def ala:=@List.mem_cons
def ama:=@List.getElem?_eq_some_iff
def ana:=@List.mem_append
def aoa:=@cond_false
def apa:=@Int.natCast_nonneg
def aqa:=@List.all_eq_true
def ara:=@List.mem_append_right
def asa:=@Bool.false_eq_true
def ata:=@Option.bind_eq_some_iff
def aua:=@List.length_append
def ava:=@if_true
def awa:=@List.mem_cons_self
def axa:=@Nat.le_refl
def aya:=@List.mem_append_left
def aza:=@List.length_nil
def aAa:=@List.length_cons
def aBa:=@if_neg
def aCa:=@Array.getD_eq_getD_getElem?
def aDa:=@Int.toNat_natCast
def aEa:=@Go.run_underlying
def aFa:=@Go.Result.andThen_ok
def aGa:=@Bool.or_eq_false_iff
def aHa:=@List.map_cons
def aIa:=@List.mem_map_of_mem
def aJa:=@List.cons.injEq
def aKa:=@Option.map_eq_some_iff
def aLa:=@List.drop_eq_getElem_cons
def aMa:=@List.prefix_append
def aNa:=@Go.Sem.run_bind
def aOa:=@Bool.not_eq_true'
def aPa:=@and_self
def aQa:=@List.getElem_mem
def aRa:=@Int.toNat_of_nonneg
def aSa:=@List.getElem?_append_right
def aTa:=@List.any_eq_false
def aUa:=@List.getElem?_append_left
def aVa:=@List.nil_append
def aWa:=@Nat.zero_add
def aXa:=@List.prefix_refl
def aYa:=@true_and
def aZa:=@Nat.le_of_ble_eq_true
def a0a:=@List.mem_map
def a1a:=@bne_iff_ne
def a2a:=@List.mem_of_getElem?
def a3a:=@List.nodup_cons
def a4a:=@List.cons_append
def a5a:=@List.append_assoc
def a6a:=@Bool.or_eq_true
def a7a:=@and_true
def a8a:=@if_pos
def a9a:=@List.getD_eq_getElem?_getD
def a_a:=@beq_iff_eq
def baa:=@Go.Sem.run_pure
def bba:=@List.nodup_append
def bca:=@or_false
def bda:=@List.getElem?_cons_zero
def bea:=@Nat.add_sub_cancel_left
def bfa:=@Array.getElem?_push
def bga:=@Array.length_toList
def bha:=@List.append_nil
def bia:=@List.mem_filterMap
def bja:=@List.getElem?_eq_getElem
def bka:=@or_self
def bla:=@Prod.mk.inj
def bma:=@List.mem_flatMap
def bna:=@Nat.mul_le_mul_right
def boa:=@false_or
def bpa:=@Bool.not_eq_false'
def bqa:=@List.all_cons
def bra:=@List.getElem?_take_of_lt
def bsa:=@Nat.add_mul
def bta:=@Array.getElem?_setIfInBounds_ne
def bua:=@List.getElem?_cons_succ
def bva:=@Option.some.inj
def bwa:=@List.map_append
def bxa:=@List.length_replicate
def bya:=@or_true
def bza:=@Array.getElem?_toList
def bAa:=@decide_eq_false
def bBa:=@true_or
def bCa:=@Bool.not_eq_true
def bDa:=@Ne.symm
def bEa:=@List.getElem?_eq_none
def bFa:=@Option.bind_some
def bGa:=@Nat.le_trans
def bHa:=@Bool.and_self
def bIa:=@List.getElem?_map
def bJa:=@List.size_toArray
def bKa:=@List.ext_getElem?
def bLa:=@Option.map_some
def bMa:=@Go.World.cell?_alloc_past
def bNa:=@Nat.add_assoc
def bOa:=@List.take_append_drop
def bPa:=@List.drop_zero
def bQa:=@List.getElem?_drop
def bRa:=@List.mem_filter
def bSa:=@List.flatMap_cons
def bTa:=@decide_eq_true_eq
def bUa:=@gt_iff_lt
def bVa:=@Array.toList_map
def bWa:=@congrArg
def bXa:=@List.not_mem_nil
def bYa:=@List.append_eq_nil_iff
def bZa:=@Go.Addr.add_mid
def b0a:=@Array.size_append
def b1a:=@List.mem_of_find?_eq_some
def b2a:=@Int.natCast_zero
def b3a:=@List.filterMap_cons
def b4a:=@List.map_congr_left
def b5a:=@Nat.blt_eq
def b6a:=@List.foldl_cons
def b7a:=@Go.MapKept.run_getObj_map
def b8a:=@of_decide_eq_true
def b9a:=@List.mem_range
def b_a:=@Nat.beq_refl
def caa:=@List.length_singleton
def cba:=@List.nodup_nil
def cca:=@Option.getD_some
def cda:=@decide_eq_decide
def cea:=@Array.getElem?_eq_some_iff
def cfa:=@eq_comm
def cga:=@Go.MapKept.run_findKey
def cha:=@Go.World.frozen?_alloc_past
def cia:=@not_or
def cja:=@decide_false
def cka:=@Go.World.cell?_setCell_same
def cla:=@Option.isSome_iff_exists
def cma:=@List.drop_drop
def cna:=@decide_eq_false_iff_not
def coa:=@List.drop_of_length_le
def cpa:=@Int.le_refl
def cqa:=@List.drop_eq_nil_of_le
def cra:=@Array.setIfInBounds_eq_of_size_le
def csa:=@List.take_succ_eq_append_getElem
def cta:=@Nat.le_of_not_lt
def cua:=@List.filter_cons
def cva:=@List.take_length
def cwa:=@Array.getElem?_modify
def cxa:=@List.find?_some
def cya:=@Nat.add_zero
def cza:=@List.map_map
def cAa:=@Array.ext'
def cBa:=@List.take_append_of_le_length
def cCa:=@List.eq_nil_of_length_eq_zero
def cDa:=@List.flatMap_append
def cEa:=@Go.size_zeroCells
def cFa:=@Nat.mul_le_mul
def cGa:=@of_decide_eq_false
def cHa:=@Option.isNone_none
def cIa:=@Option.isNone_some
def cJa:=@Option.isSome_none
def cKa:=@Bool.not_true
def cLa:=@List.any_cons
def cMa:=@List.getElem?_set
def cNa:=@List.flatten_cons
def cOa:=@List.all_map
def cPa:=@List.length_take
def cQa:=@Nat.lt_or_ge
end Go.Fx
namespace Go.Fx
inductive Ty where
 |int (k:IntKind)|bool|str|slice (t:Ty)|dg (a b:Ty)|one (a:Ty)|arr (n:Nat) (t:Ty)
def Ty.beq:Ty→Ty→Bool
 |.int k,.int k'=>decide (k=k')
 |.bool,.bool=>true
 |.str,.str=>true
 |.slice t,.slice u=>t.beq u
 |.dg a b,.dg c d=>a.beq c&&b.beq d
 |.one a,.one b=>a.beq b
 |.arr n a,.arr m b=>Nat.beq n m&&a.beq b
 |_,_=>false
theorem Ty.vg:∀{t u:Ty},t.beq u=true→t=u
 |.int k,u,h=>by cases u<;>simp_all[Ty.beq]
 |.bool,u,h=>by cases u<;>simp_all[Ty.beq]
 |.str,u,h=>by cases u<;>simp_all[Ty.beq]
 |.slice t,u,h=>by cases u<;>simp_all[Ty.beq];exact Ty.vg h
 |.dg a b,u,h=>by cases u<;>simp_all[Ty.beq];exact⟨Ty.vg h.1,Ty.vg h.2⟩
 |.one a,u,h=>by cases u<;>simp_all[Ty.beq];exact Ty.vg h
 |.arr n a,u,h=>by cases u<;>simp_all[Ty.beq];exact Ty.vg h.2
abbrev ab:=List UInt8
@[reducible] def Ty.nM:Ty→Type
 |.int _=>Int | .bool=>Bool | .str=>ab | .slice t=>List t.nM | .dg a b=>a.nM×b.nM | .one a=>a.nM | .arr _ t=>List t.nM
inductive Kd where
 |int (k:IntKind)|bool|str
def JZ:Ty→Option (List Kd)
 |.int k=>some [.int k]
 |.bool=>some [.bool]
 |.str=>some [.str]
 |.dg a b=>(match JZ a,JZ b with|some x,some y=>some (x++y)|_,_=>none)
 |.one a=>JZ a
 |_=>none
def Ty.size:Ty→Nat
 |.dg a b=>a.size+b.size | .one a=>a.size | .arr n t=>n * t.size|_=>1
def Ty.agg:Ty→Bool
 |.dg _ _=>true | .one _=>true | .arr _ _=>true|_=>false
def wc(t u:Ty)(d:t.nM):Option u.nM:=
 if h:t.beq u=true then some (cast (bWa Ty.nM (Ty.vg h)) d) else none
theorem lX{t u:Ty}{d:t.nM}{x:u.nM}(h:wc t u d=some x):∃ e:t=u,x=e ▸ d:=by
 unfold wc at h;split at h
 ·rename_i hb
  have e:=Ty.vg hb;subst e;exact⟨rfl,(bva h).symm⟩
 ·cases h
abbrev gz:=List (Nat×Obj)
abbrev Du:=Nat→Option Obj
def RepL{α:Type}(R:List Value→α→gz→Prop):List Value→List α→gz→Prop
 |cs,[],H=>cs=[]∧H=[]
 |cs,x::l,H=>∃ c1 c2 H1 H2,cs=c1++c2∧H=H1++H2∧R c1 x H1∧RepL R c2 l H2
def kz(s:ab):Value:=.string ⟨s.toArray⟩
def BV{α:Type}(S:Du)(RL:List Value→List α→gz→Prop)(cs:List Value)(l:List α)(H:gz):Prop:=
 H=[]∧((l=[]∧∃ iZ cap,cs=[.slice iZ 0 cap])∨
  ∃ b cap arr elem fz pre cells rest,cs=[.slice (some ⟨b,pre.length,none⟩) l.length cap]∧S b=some (.cells arr elem fz)∧
   arr.toList=pre++(cells++rest)∧RL cells l []∧l.length≤cap)
def kA{α:Type}(RL:List Value→List α→gz→Prop)(sz:Nat)(cs:List Value)(l:List α)(H:gz):Prop:=
 (l=[]∧H=[]∧cs=[.slice none 0 0])∨
  ∃ b cap arr elem cells rest H',cs=[.slice (some ⟨b,0,none⟩) l.length cap]∧H=(b,Obj.cells arr elem (0,0))::H'∧
   arr.toList=cells++rest∧cap * sz≤arr.size∧l.length≤cap∧RL cells l H'
def gy(S:Du)(m:Bool):(t:Ty)→List Value→t.nM→gz→Prop
 |.int k,cs,d,H=>cs=[.int k d]∧H=[]
 |.bool,cs,d,H=>cs=[.bool d]∧H=[]
 |.str,cs,d,H=>cs=[kz d]∧H=[]
 |.slice t,cs,l,H=>if m=true then kA (RepL (gy S m t)) t.size cs l H else BV S (RepL (gy S m t)) cs l H
 |.dg a b,cs,d,H=>∃ c1 c2 H1 H2,cs=c1++c2∧H=H1++H2∧gy S m a c1 d.1 H1∧gy S m b c2 d.2 H2
 |.one a,cs,d,H=>gy S m a cs d H
 |.arr n t,cs,l,H=>RepL (gy S m t) cs l H∧l.length=n
section RepL
variable {α:Type} {R R':List Value→α→gz→Prop}
theorem RepL.imp(h:∀ c x H,R c x H→R' c x H):∀{cs:List Value} {l:List α} {H:gz},RepL R cs l H→RepL R' cs l H
 |_,[],_,hh=>hh
 |_,_::_,_,⟨c1,c2,H1,H2,e1,e2,r,rl⟩=>⟨c1,c2,H1,H2,e1,e2,h _ _ _ r,RepL.imp h rl⟩
theorem RepL.size{n:Nat}(hn:∀ c x H,R c x H→c.length=n):∀{cs:List Value} {l:List α} {H:gz},RepL R cs l H→cs.length=l.length * n
 |_,[],_,hh=>by rw[hh.1];simp
 |_,_::_,_,⟨c1,c2,H1,H2,e1,e2,r,rl⟩=>by have:=hn _ _ _ r;have:=RepL.size hn rl;rw[e1,aua,aAa,bsa];omega
theorem RepL.append:∀{cs cs':List Value} {l l':List α} {H H':gz},RepL R cs l H→RepL R cs' l' H'→RepL R (cs++cs') (l++l') (H++H')
 |_,cs',[],l',_,H',hh,hh'=>by obtain⟨rfl,rfl⟩:=hh;exact hh'
 |_,cs',_::_,l',_,H',⟨c1,c2,H1,H2,e1,e2,r,rl⟩,hh'=>
  ⟨c1,c2++cs',H1,H2++H',by rw[e1,a5a],by rw[e2,a5a],r,RepL.append rl hh'⟩
theorem RepL.at{n:Nat}(hn:∀ c x H,R c x H→c.length=n):∀{cs:List Value} {l:List α} {H:gz} {i:Nat} {x:α},RepL R cs l H→l[i]? = some x→
  ∃ pre c post Hp Hc Hq,cs=pre++(c++post)∧pre.length=i * n∧H=Hp++(Hc++Hq)∧R c x Hc∧
   ∀ c' x' Hc',R c' x' Hc'→RepL R (pre++(c'++post)) (l.set i x') (Hp++(Hc'++Hq))
 |_,[],_,i,x,_,hi=>by simp at hi
 |_,y::l,_,0,x,⟨c1,c2,H1,H2,e1,e2,r,rl⟩,hi=>by
  obtain rfl:y=x:=by simpa using hi
  exact⟨[],c1,c2,[],H1,H2,e1,by simp,e2,r,fun c' x' Hc' r'=>⟨c',c2,Hc',H2,rfl,rfl,r',rl⟩⟩
 |_,y::l,_,i+1,x,⟨c1,c2,H1,H2,e1,e2,r,rl⟩,hi=>by
  obtain⟨pre,c,post,Hp,Hc,Hq,f1,f2,f3,f4,f5⟩:=RepL.at hn rl (by simpa using hi)
  refine⟨c1++pre,c,post,H1++Hp,Hc,Hq,?_,?_,?_,f4,fun c' x' Hc' r'=>?_⟩
  ·rw[e1,f1,a5a]
  ·have:=hn _ _ _ r;rw[aua,f2,bsa];omega
  ·rw[e2,f3,a5a]
  ·exact⟨c1,_,H1,_,by rw[a5a],by rw[a5a],r,f5 _ _ _ r'⟩
theorem RepL.split{n:Nat}(hn:∀ c x H,R c x H→c.length=n):∀{k:Nat} {cs:List Value} {l:List α} {H:gz},RepL R cs l H→k≤l.length→
  ∃ c1 c2 H1 H2,cs=c1++c2∧H=H1++H2∧c1.length=k * n∧RepL R c1 (l.take k) H1∧RepL R c2 (l.drop k) H2
 |0,cs,l,H,h,_=>⟨[],cs,[],H,rfl,rfl,by simp,⟨rfl,rfl⟩,h⟩
 |k+1,_,[],_,_,hk=>by simp at hk
 |k+1,_,y::l,_,⟨c1,c2,H1,H2,e1,e2,r,rl⟩,hk=>by
  obtain⟨d1,d2,K1,K2,f1,f2,f3,f4,f5⟩:=RepL.split hn rl (k:=k) (by simpa using hk)
  refine⟨c1++d1,d2,H1++K1,K2,by rw[e1,f1,a5a],by rw[e2,f2,a5a],?_,⟨c1,d1,H1,K1,rfl,rfl,r,f4⟩,f5⟩
  have:=hn _ _ _ r;rw[aua,f3,bsa];omega
theorem RepL.nN(hR:∀ c x H,R c x H→H=[]):∀{cs:List Value} {l:List α} {H:gz},RepL R cs l H→H=[]
 |_,[],_,h=>h.2
 |_,_::_,_,⟨c1,c2,H1,H2,e1,e2,r,rl⟩=>by rw[e2,hR _ _ _ r,RepL.nN hR rl];rfl
theorem RepL.aeh:∀{cs:List Value} {l:List α} {H:gz},RepL R cs l H→H=[]→RepL R cs l []
 |_,_,_,h,e=>e ▸ h
end RepL
theorem gy.size{S:Du}{m:Bool}:∀{t:Ty} {cs:List Value} {d:t.nM} {H:gz},gy S m t cs d H→cs.length=t.size
 |.int _,_,_,_,h=>by rw[h.1];rfl
 |.bool,_,_,_,h=>by rw[h.1];rfl
 |.str,_,_,_,h=>by rw[h.1];rfl
 |.slice t,cs,l,H,h=>by
  simp only[gy] at h;split at h
  ·rcases h with ⟨_,_,rfl⟩|⟨b,cap,arr,elem,cells,rest,H',rfl,_⟩<;>rfl
  ·rcases h with ⟨_,⟨_,iZ,cap,rfl⟩|⟨b,cap,arr,elem,fz,pre,cells,rest,rfl,_⟩⟩<;>rfl
 |.dg a b,cs,d,H,h=>by obtain⟨c1,c2,H1,H2,rfl,rfl,h1,h2⟩:=h;have:=gy.size h1;have:=gy.size h2;simp only[Ty.size,aua];omega
 |.one a,cs,d,H,h=>by exact gy.size (t:=a) h
 |.arr n t,cs,l,H,h=>by have:=RepL.size (n:=t.size) (fun c x H hx=>gy.size hx) h.1;rw[this,h.2];rfl
theorem gy.mono{S S':Du}(hS:∀ b o,S b=some o→S' b=some o){m:Bool}:∀{t:Ty} {cs:List Value} {d:t.nM} {H:gz},gy S m t cs d H→gy S' m t cs d H
 |.int _,_,_,_,h=>h
 |.bool,_,_,_,h=>h
 |.str,_,_,_,h=>h
 |.slice t,cs,l,H,h=>by
  have ih:∀ c x H,gy S m t c x H→gy S' m t c x H:=fun c x H h=>gy.mono hS h;cases m with
  |true=>
   rcases h with h|⟨b,cap,arr,elem,cells,rest,H',e1,e2,e3,e4,e5,e6⟩
   ·exact .inl h
   ·exact .inr ⟨b,cap,arr,elem,cells,rest,H',e1,e2,e3,e4,e5,e6.imp ih⟩
  |false=>
   rcases h with ⟨hH,h|⟨b,cap,arr,elem,fz,pre,cells,rest,e1,e2,e3,e4,elc⟩⟩
   ·exact⟨hH,.inl h⟩
   ·exact⟨hH,.inr ⟨b,cap,arr,elem,fz,pre,cells,rest,e1,hS _ _ e2,e3,e4.imp ih,elc⟩⟩
 |.dg a b,cs,d,H,h=>by obtain⟨c1,c2,H1,H2,rfl,rfl,h1,h2⟩:=h;exact⟨c1,c2,H1,H2,rfl,rfl,h1.mono hS,h2.mono hS⟩
 |.one a,cs,d,H,h=>by exact gy.mono (t:=a) hS h
 |.arr n t,cs,l,H,h=>⟨RepL.imp (fun c x H hx=>gy.mono hS hx) h.1,h.2⟩
theorem gy.nN{S:Du}:∀{t:Ty} {cs:List Value} {d:t.nM} {H:gz},gy S false t cs d H→H=[]
 |.int _,_,_,_,h=>h.2
 |.bool,_,_,_,h=>h.2
 |.str,_,_,_,h=>h.2
 |.slice t,_,_,_,h=>h.1
 |.dg a b,_,_,_,h=>by obtain⟨c1,c2,H1,H2,rfl,rfl,h1,h2⟩:=h;rw[gy.nN h1,gy.nN h2];rfl
 |.one a,_,_,_,h=>by exact gy.nN (t:=a) h
 |.arr n t,cs,l,H,h=>RepL.nN (fun c x H hx=>gy.nN hx) h.1
theorem RepL.C8{α:Type}{R R':List Value→α→gz→Prop}{S':Du}(h:∀ c x H,(∀ p∈H,S' p.1=some p.2)→R c x H→R' c x []):
  ∀{cs:List Value} {l:List α} {H:gz},(∀ p∈H,S' p.1=some p.2)→RepL R cs l H→RepL R' cs l []
 |_,[],_,_,hh=>⟨hh.1,rfl⟩
 |_,_::_,_,hp,⟨c1,c2,H1,H2,e1,e2,r,rl⟩=>
  ⟨c1,c2,[],[],e1,rfl,h _ _ _ (fun p hm=>hp p (by rw[e2];exact aya _ hm)) r,
   RepL.C8 h (fun p hm=>hp p (by rw[e2];exact ara _ hm)) rl⟩
theorem gy.C8{S S':Du}(hS:∀ b o,S b=some o→S' b=some o):∀{m:Bool} {t:Ty} {cs:List Value} {d:t.nM} {H:gz},
  (∀ p∈H,S' p.1=some p.2)→gy S m t cs d H→gy S' false t cs d []
 |_,.int _,_,_,_,_,h=>⟨h.1,rfl⟩
 |_,.bool,_,_,_,_,h=>⟨h.1,rfl⟩
 |_,.str,_,_,_,_,h=>⟨h.1,rfl⟩
 |m,.slice t,cs,l,H,hp,h=>by
  have ih:∀ c x H,(∀ p∈H,S' p.1=some p.2)→gy S m t c x H→gy S' false t c x []:=fun c x H hp h=>gy.C8 hS hp h;cases m with
  |true=>
   rcases h with ⟨rfl,rfl,rfl⟩|⟨b,cap,arr,elem,cells,rest,H',rfl,rfl,e3,e4,e5,e6⟩
   ·exact⟨rfl,.inl ⟨rfl,none,0,rfl⟩⟩
   ·exact⟨rfl,.inr ⟨b,cap,arr,elem,(0,0),[],cells,rest,rfl,hp (b,Obj.cells arr elem (0,0)) (awa ..),e3,
    e6.C8 ih (fun p hm=>hp p (Q8 _ hm)),e5⟩⟩
  |false=>
   rcases h with ⟨rfl,h|⟨b,cap,arr,elem,fz,pre,cells,rest,e1,e2,e3,e4,elc⟩⟩
   ·exact⟨rfl,.inl h⟩
   ·exact⟨rfl,.inr ⟨b,cap,arr,elem,fz,pre,cells,rest,e1,hS _ _ e2,e3,e4.C8 ih (by simp),elc⟩⟩
 |m,.dg a b,cs,d,H,hp,h=>by obtain⟨c1,c2,H1,H2,rfl,rfl,h1,h2⟩:=h;exact⟨c1,c2,[],[],rfl,rfl,h1.C8 hS (fun p hm=>hp p (aya _ hm)),h2.C8 hS (fun p hm=>hp p (ara _ hm))⟩
 |m,.one a,cs,d,H,hp,h=>by exact gy.C8 (t:=a) hS hp h
 |m,.arr n t,cs,l,H,hp,h=>⟨h.1.C8 (fun c x H hp hx=>gy.C8 hS hp hx) hp,h.2⟩
end Go.Fx
namespace Go.Fx
def bL{α:Type}(l:List α)(i:Int):Option α:=bif decide (0≤i) then l[i.toNat]? else none
def sub{α:Type}(l:List α)(i j:Int):Option (List α):=
 bif decide (0≤i)&&decide (i≤j)&&decide (j≤(l.length:Int)) then some ((l.take j.toNat).drop i.toNat) else none
def bE{α:Type}(l m:List α):Option (List α):=bif decide (l.length+m.length≤4294967296) then some (l++m) else none
def mkl{α:Type}(n:Int)(x:α):Option (List α):=bif decide (0≤n)&&decide (n≤4294967296) then some (List.replicate n.toNat x) else none
abbrev bC(x:Int):Int:=IntKind.i64.wrap x
def Pf(op:BinOp)(k:IntKind)(x y:Int):Int:=
 k.wrap (match op with
  |.and=>(BitVec.ofInt k.bits x &&& BitVec.ofInt k.bits y).toNat
  |.or=>(BitVec.ofInt k.bits x ||| BitVec.ofInt k.bits y).toNat
  |.xor=>(BitVec.ofInt k.bits x ^^^ BitVec.ofInt k.bits y).toNat
  |_=>0)
inductive ai where
 |any|vU|vb
 |fy (t:Ty) (d:t.nM)
 |nil|J7
 |mX (a:Nat)
 |lB (o off:Nat)
 |DX (a sz i off:Nat)
 |Pa (t:Ty) (d:t.nM) (off:Nat)
 |fn (f:FuncId)
 |ga (t:Ty) (l:List t.nM)
 |E5 (a v sz i off:Nat)|nse (a v sz i off sz2 j To:Nat)|LP (a k n:Nat)
inductive af where
 |one (l:ai)|agg (ls:List ai)|KN (vs:List (Bool×List ai))|Au (t:TypeId) (ls:List ai)
inductive Md where
 |eL|bA|Ds (i o:Nat)|mp|ae3 (i off:Nat)|arr
structure jV where
 t:Ty
 md:Md
 sh:Bool
 l:List t.nM
def jV.bA(A:jV):Bool:=match A.md with | .eL=>false|_=>true
def jV.gK(A:jV):Bool:=match A.md with | .eL=>true | .bA=>true|_=>false
def jV.J2(x:Nat)(A:jV):Bool:=match A.md with | .Ds _ o=>Nat.beq o x|_=>false
def jV.nest(A:jV):Bool:=match A.md with | .bA=>true | .ae3 _ _=>true|_=>false
def jV.UL(A:jV):Bool:=match A.md with | .mp=>true | .arr=>true|_=>false
structure St where
 n:Nat
 eH:List (Nat×af)
 cp:List (Nat×List ai)
 cT:List (Nat×jV)
 jw:List (Nat×af)
 cK:List (Nat×Nat×ai)
 gc:List (Nat×jV)
 pin:List Nat
 EM:List (Nat×Nat)
def fk:Nat→List Nat→Bool
 |_,[]=>false
 |x,y::r=>Nat.beq x y||fk x r
def look{α:Type}:List (Nat×α)→Nat→Option α
 |[],_=>none
 |(k,v)::r,i=>bif Nat.beq k i then some v else look r i
def et:List (Nat×Nat×ai)→Nat→Nat→Option ai
 |[],_,_=>none
 |(o,j,l)::r,o',j'=>bif Nat.beq o o'&&Nat.beq j j' then some l else et r o' j'
def FZ{α:Type}:List (Nat×α)→Nat→List (Nat×α)
 |[],_=>[]
 |(k,v)::r,i=>bif Nat.beq k i then FZ r i else(k,v)::FZ r i
def St.iz(st:St)(i:Nat):Option af:=(match look st.eH i with|some v=>some v|none=>look st.jw i)
def St.dT(st:St)(o:Nat):Option (List ai):=look st.cp o
def St.dH(st:St)(a:Nat):Nat:=(match look st.EM a with|some v=>v|none=>0)
def St.arr(st:St)(a:Nat):Option jV:=(match look st.cT a with|some v=>some v|none=>look st.gc a)
def St.res(st:St)(o j:Nat):ai→ai
 |.vb=>(match et st.cK o j with|some l=>l|none=>.any)
 |l=>l
def St.kg(st:St)(o:Nat):Nat→List ai→List ai
 |_,[]=>[]
 |j,l::r=>st.res o j l::St.kg st o (j+1) r
def St.kj(st:St)(i:Nat)(v:af):St:={st with eH:=(i,v)::st.eH}
def St.qP(st:St)(o:Nat)(ls:List ai):St:={st with cp:=(o,ls)::st.cp}
def St.gW(st:St)(a:Nat)(A:jV):St:={st with cT:=(a,A)::st.cT}
def ai.dj(k:Bool)(x:Nat):ai→Bool
 |.mX a=>k&&Nat.beq a x
 |.DX a _ _ _=>k&&Nat.beq a x
 |.E5 a _ _ _ _=>k&&Nat.beq a x
 |.nse a _ _ _ _ _ _ _=>k&&Nat.beq a x
 |.LP a _ _=>k&&Nat.beq a x
 |.lB o _=>!k&&Nat.beq o x
 |_=>false
def af.dj(k:Bool)(x:Nat):af→Bool
 |.one l=>l.dj k x
 |.agg ls=>ls.any (ai.dj k x)
 |.KN vs=>vs.any fun p=>p.2.any (ai.dj k x)
 |.Au _ ls=>ls.any (ai.dj k x)
def St.dj(st:St)(k:Bool)(x:Nat):Bool:=
 st.eH.any (fun p=>p.2.dj k x)||st.jw.any (fun p=>p.2.dj k x)||st.cp.any (fun p=>p.2.any (ai.dj k x))||st.cK.any (fun p=>p.2.2.dj k x) ||
  (!k&&(st.cT.any (fun p=>p.2.J2 x)||st.gc.any (fun p=>p.2.J2 x)))
def af.bR:af→ai
 |.one l=>l
 |_=>.any
def ka:(t:Ty)→t.nM→List ai
 |.int k,d=>[.fy (.int k) d]
 |.bool,d=>[.fy .bool d]
 |.str,d=>[.fy .str d]
 |.slice t,d=>[.fy (.slice t) d]
 |.dg a b,d=>ka a d.1++ka b d.2
 |.one a,d=>ka a d
 |.arr _ t,l=>l.flatMap (ka t)
def ai.vJ(st:St)(t:Ty):ai→Option t.nM
 |.fy u d=>wc u t d
 |.nil=>(match t with | .slice _=>some []|_=>none)
 |.mX a=>(match st.arr a with|some A=>(if A.sh then wc (.slice A.t) t A.l else none)|none=>none)
 |_=>none
def PM{α:Type}(f:List ai→Option (α×List ai)):Nat→List ai→Option (List α×List ai)
 |0,ls=>some ([],ls)
 |n+1,ls=>(match f ls with
  |some (x,r)=>(match PM f n r with|some (xs,r')=>some (x::xs,r')|none=>none)
  |none=>none)
def pC(st:St):(t:Ty)→List ai→Option (t.nM×List ai)
 |.int k,ls=>(match ls with|[]=>none|l::r=>(l.vJ st (.int k)).map fun d=>(d,r))
 |.bool,ls=>(match ls with|[]=>none|l::r=>(l.vJ st .bool).map fun d=>(d,r))
 |.str,ls=>(match ls with|[]=>none|l::r=>(l.vJ st .str).map fun d=>(d,r))
 |.slice t,ls=>(match ls with|[]=>none|l::r=>(l.vJ st (.slice t)).map fun d=>(d,r))
 |.dg a b,ls=>(match pC st a ls with
  |some (x,r)=>(match pC st b r with|some (y,r')=>some ((x,y),r')|none=>none)
  |none=>none)
 |.one a,ls=>pC st a ls
 |.arr n t,ls=>PM (pC st t) n ls
def af.vJ(st:St)(t:Ty):af→Option t.nM
 |.one l=>l.vJ st t
 |.agg ls=>(bif t.agg then(match pC st t ls with|some (d,[])=>some d|_=>none) else none)
 |_=>none
def ai.cell:ai→Bool
 |.any=>false
 |.vU=>false
 |.vb=>false
 |.fy t _=>!t.agg
 |_=>true
def ai.pV:ai→Bool
 |.vb=>true
 |_=>false
def af.qc:af→Option (List ai)
 |.one (.fy (.dg a b) d)=>some (ka (.dg a b) d)
 |.one (.fy (.one a) d)=>some (ka (.one a) d)
 |.one (.fy (.arr n a) d)=>some (ka (.arr n a) d)
 |.one l=>(bif l.cell then some [l] else none)
 |.agg ls=>some ls
 |_=>none
def St.zd(st:St):ai→Option St
 |.mX a=>(match look st.cT a with
  |some A=>(bif A.sh then some st else bif A.gK then some (st.gW a {A with sh:=true}) else none)
  |none=>(match look st.gc a with|some A=>(bif A.sh then some st else none)|none=>none))
 |_=>some st
def St.vF(st:St):List ai→Option St
 |[]=>some st
 |l::r=>(match st.zd l with|some st'=>st'.vF r|none=>none)
def af.qR(st:St):af→Option St
 |.one l=>st.zd l
 |.agg ls=>st.vF ls
 |.KN _=>none
 |.Au _ ls=>st.vF ls
def L6:Value→af
 |.int k n=>.one (.fy (.int k) n)
 |.bool b=>.one (.fy .bool b)
 |.string s=>.one (.fy .str s.data.toList)
 |.slice none 0 0=>.one .nil
 |.pointer none=>.one .J7
 |_=>.one .any
def wB:Value→ai
 |.int k n=>.fy (.int k) n
 |.bool b=>.fy .bool b
 |.string s=>.fy .str s.data.toList
 |.slice none 0 0=>.nil
 |.pointer none=>.J7
 |_=>.any
def Ty.yZ:Ty→Bool
 |.int _=>true | .bool=>true | .str=>true | .slice _=>false | .dg a b=>a.yZ&&b.yZ | .one a=>a.yZ | .arr _ t=>t.yZ
def Ty.sy:Ty→Bool
 |.arr _ _=>false | .dg a b=>a.sy&&b.sy | .one a=>a.sy|_=>true
def Ry(t:Ty):Md:=bif t.yZ then .eL else .bA
def Md.lK:Md→Md→Bool
 |.eL,.eL=>true
 |.bA,.bA=>true
 |.mp,.mp=>true
 |.arr,.arr=>true
 |_,_=>false
def lu:List Nat→List (Nat×jV)→List (Nat×jV)
 |[],l=>l
 |a::r,l=>lu r (FZ l a)
def ou:List Nat→Bool
 |[]=>true
 |x::r=>!fk x r&&ou r
def LC(a v off:Nat):Nat:=1000000000000000000+a * 1000000+v * 1000+off
def obN(a v:Nat):Nat:=2000000000000000000+a * 1000+v
def Hr(nm:Nat→Nat):(t:Ty)→t.nM→Nat→List ai
 |.int k,d,_=>[.fy (.int k) d]
 |.bool,d,_=>[.fy .bool d]
 |.str,d,_=>[.fy .str d]
 |.slice _,_,off=>[.mX (nm off)]
 |.dg a b,d,off=>Hr nm a d.1 off++Hr nm b d.2 (off+a.size)
 |.one a,d,off=>Hr nm a d off
 |.arr _ _,_,_=>[]
def zu(nm:Nat→Nat):(t:Ty)→t.nM→Nat→List (Nat×jV)
 |.slice u,d,off=>[(nm off,⟨u,Ry u,false,d⟩)]
 |.dg a b,d,off=>zu nm a d.1 off++zu nm b d.2 (off+a.size)
 |.one a,d,off=>zu nm a d off
 |_,_,_=>[]
def UB(a v sz i:Nat):(t:Ty)→t.nM→Nat→List ai
 |.int k,d,_=>[.fy (.int k) d]
 |.bool,d,_=>[.fy .bool d]
 |.str,d,_=>[.fy .str d]
 |.slice _,_,off=>[.E5 a v sz i off]
 |.dg t u,d,off=>UB a v sz i t d.1 off++UB a v sz i u d.2 (off+t.size)
 |.one t,d,off=>UB a v sz i t d off
 |.arr _ _,_,_=>[]
def C9:(t:Ty)→t.nM→Nat→Option Int
 |.slice _,d,0=>some (d.length:Int)
 |.dg a b,d,off=>bif Nat.blt off a.size then C9 a d.1 off else C9 b d.2 (off - a.size)
 |.one a,d,off=>C9 a d off
 |_,_,_=>none
def TH(st:St)(u:Ty):ai→Option (List u.nM×List Nat)
 |.nil=>some ([],[])
 |.mX a=>(match look st.cT a with
  |some A=>(bif A.sh||!A.md.lK (Ry u)||fk a st.pin ||(look st.gc a).isSome then none else(match wc (.slice A.t) (.slice u) A.l with|some l=>some (l,[a])|none=>none))
  |none=>none)
 |_=>none
def Ht(st:St):(t:Ty)→List ai→Option (t.nM×List ai×List Nat)
 |.int k,ls=>(match ls with|[]=>none|l::r=>(l.vJ st (.int k)).map fun d=>(d,r,[]))
 |.bool,ls=>(match ls with|[]=>none|l::r=>(l.vJ st .bool).map fun d=>(d,r,[]))
 |.str,ls=>(match ls with|[]=>none|l::r=>(l.vJ st .str).map fun d=>(d,r,[]))
 |.slice u,ls=>(match ls with|[]=>none|l::r=>(TH st u l).map fun p=>(p.1,r,p.2))
 |.dg a b,ls=>(match Ht st a ls with
  |some (x,r,c)=>(match Ht st b r with|some (y,r',c')=>some ((x,y),r',c++c')|none=>none)
  |none=>none)
 |.one a,ls=>Ht st a ls
 |.arr _ _,_=>none
def qU(a v sz:Nat):ai→ai
 |.E5 a' v' sz' i' off=>bif Nat.beq a' a&&Nat.beq v' v&&Nat.beq sz' sz&&Nat.blt off sz then .mX (LC a v off) else .E5 a' v' sz' i' off
 |l=>l
def xt(a v sz i:Nat):List ai→Bool
 |[]=>true
 |.E5 a' v' sz' i' off::r=>bif Nat.beq a' a&&Nat.beq v' v&&Nat.beq sz' sz&&Nat.blt off sz then Nat.beq i' i&&xt a v sz i r else xt a v sz i r
 |_::r=>xt a v sz i r
def Ua(a v sz i:Nat):List (Nat×List ai)→Bool
 |[]=>true
 |p::r=>xt a v sz i p.2&&Ua a v sz i r
def p9{α:Type}:List (Nat×α)→List Nat→List (Nat×α)
 |[],_=>[]
 |p::r,LK=>bif fk p.1 LK then p9 r LK else p::p9 r (p.1::LK)
section nest
variable {R:Type}
def FP(st:St)(a i o:Nat)(K:St→Option R):Option R:=
 match look st.cT a with
 |some A=>(match A.md with
  |.bA=>(bif A.sh ||(st.dT o).isSome||st.dj false o||!A.t.sy then none else
   (bL A.l (i:Int)).bind fun x=>
    (bif ou ((zu (LC a (st.dH a)) A.t x 0).map (·.1))&&(zu (LC a (st.dH a)) A.t x 0).all (fun p=>(st.arr p.1).isNone&&!st.dj true p.1) then
     K {st with cT:=(a,{A with md:=.Ds i o})::(zu (LC a (st.dH a)) A.t x 0++st.cT),cp:=(o,Hr (LC a (st.dH a)) A.t x 0)::st.cp} else none))
  |_=>none)
 |none=>none
def BK(st:St)(a sz i:Nat)(K:St→Option R):Option R:=
 bif Ua a (st.dH a) sz i (p9 st.cp []) then K {st with cp:=(p9 st.cp []).map fun p=>(p.1,p.2.map (qU a (st.dH a) sz))} else none
def A7(st:St)(a o:Nat)(K:St→Option R):Option R:=
 match look st.cT a,st.dT o with
 |some A,some ls=>(match A.md with
  |.Ds i o'=>(bif Nat.beq o o'&&!A.sh then(match Ht st A.t ls with
   |some (x,[],c)=>(bif ou c&&!fk a c then
    K {st with cT:=(a,⟨A.t,.bA,false,A.l.set i x⟩)::lu (a::c) st.cT,cp:=FZ st.cp o,EM:=(a,st.dH a+1)::st.EM} else none)
   |_=>none) else none)
  |_=>none)
 |_,_=>none
end nest
inductive TD where
 |int (k:IntKind)|bool|str|slice (e:TypeId)|struct (fs:List (Nat×TypeId))|lB (e:TypeId)|arr (n:Nat) (e:TypeId)|mp (k v:TypeId)|ZQ
structure TI where
 size:Nat
 bytes:Nat
 ty:Option Ty
 iS:TD
 zero:List Value
inductive qj where
 |o (ob off n:Nat)|a (ar:Nat)|k (ob:Nat)|all
structure iL where
 run:{R:Type}→Nat→List af→St→(af→St→Option R)→(af→St→Option R)→Option R
 Lh:List af→St→List qj
structure lM where
 run:{R:Type}→St→(Exit→St→Option R)→(af→St→Option R)→Option R
structure GA where
 t:Ty
 l:List t.nM
structure tr where
 gt:Nat→Option GA
 iK:Nat→Option TI
 BG:Nat→Option iL
 oE:Nat→Option lM
 ZO:Nat→Nat
def ev(E:tr)(st:St):Operand→af
 |.tmp t=>(match st.iz t with|some v=>v|none=>.one .any)
 |.const v=>L6 v
 |.func f=>.one (.fn f)
 |.global g=>(match E.gt g with|some D=>.one (.ga D.t D.l)|none=>.one .any)
def pe{R:Type}(dst:Option Tmp)(v:af)(st:St)(K:St→Option R):Option R:=
 match dst with
 |none=>K st
 |some d=>bif (look st.jw d).isSome||Nat.ble st.n d then none else K (st.kj d v)
def qS(l:List ai)(off n:Nat):Option (List ai):=bif Nat.ble (off+n) l.length then some ((l.drop off).take n) else none
def mN{α:Type}(l:List α)(off:Nat)(v:List α):List α:=l.take off++(v++l.drop (off+v.length))
def Ex(agg:Bool)(ls:List ai):af:=bif agg then .agg ls else(match ls with|[l]=>.one l|_=>.one .any)
def TD.agg:TD→Bool
 |.struct _=>true
 |.arr _ _=>true
 |_=>false
def J3:List Kd→List ai→Bool
 |[],[]=>true
 |.int k::r,.fy (.int k') _::s=>decide (k=k')&&J3 r s
 |.bool::r,.fy .bool _::s=>J3 r s
 |.str::r,.fy .str _::s=>J3 r s
 |_,_=>false
def aaR:ai→ai→Option Bool
 |.fy (.int _) a,.fy (.int _) b=>some (a==b)
 |.fy .bool a,.fy .bool b=>some (a==b)
 |.fy .str a,.fy .str b=>some (a==b)
 |_,_=>none
def Rc:List ai→List ai→Option Bool
 |[x],[y]=>aaR x y
 |x::r,y::s=>(match aaR x y,Rc r s with|some a,some b=>some (a&&b)|_,_=>none)
 |_,_=>none
section exec
variable (E:tr) {R:Type}
def y5(T:TypeId)(x:af)(st:St)(K:af→St→Option R):Option R:=
 match E.iK T with
 |none=>none
 |some ti=>
  match x.bR with
  |.lB o off=>(match st.dT o with
   |some ls=>(match qS (st.kg o 0 ls) off ti.size with|some c=>K (Ex ti.iS.agg c) st|none=>none)
   |none=>none)
  |.Pa t d off=>(match qS (ka t d) off ti.size with|some c=>K (Ex ti.iS.agg c) st|none=>none)
  |.ga t l=>(match ti.iS with
   |.arr n _=>(bif Nat.beq l.length n&&Nat.beq ti.size (n * t.size) then K (.one (.fy (.arr n t) l)) st else none)
   |_=>none)
  |.DX a sz i off=>(match st.arr a with
   |some A=>(bif A.sh||!Nat.beq sz A.t.size then none else(match A.md with
    |.eL=>(bL A.l (i:Int)).bind fun x=>match qS (ka A.t x) off ti.size with|some c=>K (Ex ti.iS.agg c) st|none=>none
    |.bA=>(bif A.t.sy then(bL A.l (i:Int)).bind fun x=>match qS (UB a (st.dH a) A.t.size i A.t x 0) off ti.size with|some c=>K (Ex ti.iS.agg c) st|none=>none else none)
    |_=>none))
   |none=>none)
  |.LP a k _=>(match st.arr a with
   |some A=>(bif !A.sh&&Md.lK A.md .arr&&Nat.beq A.t.size 1&&!A.t.agg&&Nat.beq ti.size 1&&!ti.iS.agg then(bL A.l (k:Int)).bind fun x=>K (.one (.fy A.t x)) st else none)
   |none=>none)
  |_=>none
def xK(T:TypeId)(x v:af)(st:St)(K:St→Option R):Option R:=
 match E.iK T,v.qc with
 |some ti,some vs=>
  bif Nat.beq vs.length ti.size&&vs.all ai.cell then
   (match x.bR with
   |.lB o off=>(match st.dT o with
    |some ls=>(match qS ls off ti.size with
     |some c=>(bif c.any ai.pV then none else K (st.qP o (mN ls off vs)))
     |none=>none)
    |none=>none)
   |.DX a sz i off=>(match st.vF vs with
    |none=>none
    |some st'=>(match look st'.cT a with
     |some A=>(bif A.bA||A.sh||!Nat.beq sz A.t.size then none else
      (bL A.l (i:Int)).bind fun x=>(bif Nat.ble (off+ti.size) A.t.size then(match pC st' A.t (mN (ka A.t x) off vs) with
       |some (x',[])=>K (st'.gW a {A with l:=A.l.set i x' })
       |_=>none) else none))
     |none=>none))
   |_=>none)
  else none
 |_,_=>none
def n8(T:TypeId)(x:af)(f:Nat)(st:St)(K:af→St→Option R):Option R:=
 match E.iK T with
 |some {iS:=.struct fs,.. }=>(match fs[f]? with
  |some (YK,ft)=>(match E.iK ft with
   |some fi=>(bif Nat.beq fi.size 0 then none else match x.bR with
    |.lB o off=>K (.one (.lB o (off+YK))) st
    |.Pa t d off=>K (.one (.Pa t d (off+YK))) st
    |.DX a sz i off=>K (.one (.DX a sz i (off+YK))) st
    |_=>none)
   |none=>none)
  |none=>none)
 |_=>none
def xI(T:TypeId)(x:af)(f:Nat)(st:St)(K:af→St→Option R):Option R:=
 match E.iK T,x.qc with
 |some {iS:=.struct fs,.. },some ls=>(match fs[f]? with
  |some (YK,ft)=>(match E.iK ft with
   |some fi=>(match qS ls YK fi.size with|some c=>K (Ex fi.iS.agg c) st|none=>none)
   |none=>none)
  |none=>none)
 |_,_=>none
def af.isAgg:af→Bool
 |.agg _=>true
 |.one (.fy (.dg _ _) _)=>true
 |.one (.fy (.one _) _)=>true
 |.one (.fy (.arr _ _) _)=>true
 |_=>false
def af.FK:af→Option (IntKind×Int)
 |.one (.fy (.int k) d)=>some (k,d)
 |_=>none
def af.FX:af→Option Bool
 |.one (.fy .bool d)=>some d
 |_=>none
def af.N6:af→Option ab
 |.one (.fy .str d)=>some d
 |_=>none
def mM(T:TypeId)(x i:af)(st:St)(K:af→St→Option R):Option R:=
 match E.iK T,i.FK with
 |some {iS:=.slice e,.. },some (_,n)=>(match E.iK e with
  |some ei=>(match x.bR with
   |.fy (.slice t) l=>(bif Nat.beq ei.size t.size then(bL l n).bind fun d=>K (.one (.Pa t d 0)) st else none)
   |.mX a=>(match st.arr a with
    |some A=>(bif Nat.beq ei.size A.t.size&&!A.UL then(bL A.l n).bind fun d=>(bif A.sh then K (.one (.Pa A.t d 0)) st else K (.one (.DX a A.t.size n.toNat 0)) st) else none)
    |none=>none)
   |_=>none)
  |none=>none)
 |some {iS:=.arr m e,.. },some (_,n)=>(match E.iK e with
  |some ei=>(match x.bR with
   |.mX a=>(match st.arr a with
    |some A=>(bif !A.sh&&Md.lK A.md .arr then(bif decide (0≤n)&&decide (n<(m:Int)) then K (.one (.LP a (n.toNat * ei.size) ei.size)) st else none) else none)
    |none=>none)
   |.LP a k _=>(bif decide (0≤n)&&decide (n<(m:Int)) then K (.one (.LP a (k+n.toNat * ei.size) ei.size)) st else none)
   |_=>none)
  |none=>none)
 |_,_=>none
def xJ(T:TypeId)(x i:af)(st:St)(K:af→St→Option R):Option R:=
 match E.iK T with
 |some {iS:=.str,.. }=>(match x.N6,i.FK with
  |some s,some (_,n)=>(bL s n).bind fun b=>K (.one (.fy (.int .u8) (b.toNat:Int))) st
  |_,_=>none)
 |some {iS:=.arr m e,.. }=>(match x,i.FK,E.iK e with
  |.one (.fy (.arr m' t) l),some (_,n),some ei=>(bif Nat.beq m m'&&Nat.beq ei.size t.size&&(bif t.agg then ei.iS.agg else !ei.iS.agg) then(bL l n).bind fun d=>K (.one (.fy t d)) st else none)
  |_,_,_=>none)
 |_=>none
def nF(d:Int):Option af→Option Int
 |none=>some d
 |some v=>v.FK.map (·.2)
def uA(T:TypeId)(dst:Nat)(x:af)(lo hi mx:Option af)(st:St)(K:af→St→Option R):Option R:=
 match E.iK T,mx with
 |some {iS:=.str,.. },none=>(match x.N6 with
  |some s=>(match nF 0 lo,nF (s.length:Int) hi with
   |some i,some j=>(sub s i j).bind fun r=>K (.one (.fy .str r)) st
   |_,_=>none)
  |none=>none)
 |some {iS:=.slice e,.. },none=>(match E.iK e with
  |some ei=>(match x.bR with
   |.fy (.slice t) l=>(bif Nat.beq ei.size t.size then(match nF 0 lo,nF (l.length:Int) hi with
    |some i,some j=>(sub l i j).bind fun r=>K (.one (.fy (.slice t) r)) st
    |_,_=>none) else none)
   |.mX a=>(match st.arr a with
    |some A=>(bif Nat.beq ei.size A.t.size then
     (bif A.sh then(match nF 0 lo,nF (A.l.length:Int) hi with
      |some i,some j=>(sub A.l i j).bind fun r=>K (.one (.fy (.slice A.t) r)) st
      |_,_=>none)
     else(match lo,hi with
      |none,some h=>(match h.FK with
       |some (_,j)=>(bif A.bA ||(look st.cT a).isNone ||(look st.gc a).isSome ||(st.arr dst).isSome||st.dj true dst||fk a st.pin then none else(sub A.l 0 j).bind fun r=>
        K (.one (.mX dst)) {st with cT:=(dst,{A with l:=r})::FZ st.cT a})
       |none=>none)
      |_,_=>none)) else none)
    |none=>none)
   |_=>none)
  |none=>none)
 |_,_=>none
def KD(op:BinOp)(T:TypeId)(x y:af)(K:af→Option R):Option R:=
 match x,y with
 |.one (.fy (.int k) a),.one (.fy (.int k') b)=>
  (match op with
  |.shl=>bif decide (b<0) then none else K (.one (.fy (.int k) (k.wrap (a * 2 ^ (min b.toNat k.bits)))))
  |.shr=>bif decide (b<0) then none else K (.one (.fy (.int k) (a.fdiv (2 ^ (min b.toNat k.bits)))))
  |_=>bif !decide (k=k') then none else
   (match op with
   |.add=>K (.one (.fy (.int k) (k.wrap (a+b))))
   |.sub=>K (.one (.fy (.int k) (k.wrap (a - b))))
   |.mul=>K (.one (.fy (.int k) (k.wrap (a * b))))
   |.quo=>bif decide (b=0) then none else K (.one (.fy (.int k) (k.wrap (a.tdiv b))))
   |.rem=>bif decide (b=0) then none else K (.one (.fy (.int k) (a.tmod b)))
   |.and=>K (.one (.fy (.int k) (Pf .and k a b)))
   |.or=>K (.one (.fy (.int k) (Pf .or k a b)))
   |.xor=>K (.one (.fy (.int k) (Pf .xor k a b)))
   |.eql=>K (.one (.fy .bool (a==b)))
   |.neq=>K (.one (.fy .bool (a != b)))
   |.lss=>K (.one (.fy .bool (decide (a<b))))
   |.leq=>K (.one (.fy .bool (decide (a≤b))))
   |.gtr=>K (.one (.fy .bool (decide (a > b))))
   |.geq=>K (.one (.fy .bool (decide (a≥b))))
   |_=>none))
 |.one (.fy .str a),.one (.fy .str b)=>
  (match op with
  |.add=>(bE a b).bind fun c=>K (.one (.fy .str c))
  |.eql=>K (.one (.fy .bool (a==b)))
  |.neq=>K (.one (.fy .bool (!(a==b))))
  |_=>none)
 |.one (.fy .bool a),.one (.fy .bool b)=>
  (match E.iK T,op with
  |some {iS:=.bool,.. },.eql=>K (.one (.fy .bool (a==b)))
  |some {iS:=.bool,.. },.neq=>K (.one (.fy .bool (!(a==b))))
  |_,_=>none)
 |x,y=>(match E.iK T,x.qc,y.qc with
  |some ti,some ls,some ms=>(match ti.ty.bind JZ with
   |some ks=>(bif ti.iS.agg&&x.isAgg&&y.isAgg&&J3 ks ls&&J3 ks ms then(match op,Rc ls ms with
    |.eql,some e=>K (.one (.fy .bool e))
    |.neq,some e=>K (.one (.fy .bool (!e)))
    |_,_=>none) else none)
   |none=>none)
  |_,_,_=>none)
def TE(op:UnOp)(x:af)(K:af→Option R):Option R:=
 match op,x with
 |.neg,.one (.fy (.int k) a)=>K (.one (.fy (.int k) (k.wrap (0 - a))))
 |.not,.one (.fy .bool b)=>K (.one (.fy .bool (!b)))
 |_,_=>none
def p6(S D:TypeId)(x:af)(st:St)(K:af→St→Option R):Option R:=
 match E.iK S,E.iK D with
 |some si,some di=>(match si.iS,di.iS,x with
  |_,.int k,.one (.fy (.int _) n)=>K (.one (.fy (.int k) (k.wrap n))) st
  |.str,.str,.one (.fy .str s)=>K (.one (.fy .str s)) st
  |.slice e,.str,.one l=>(match E.iK e,l with
   |some {iS:=.int .u8,.. },.fy (.slice (.int .u8)) l=>K (.one (.fy .str (l.map fun n=>UInt8.ofNat n.toNat))) st
   |some {iS:=.int .u8,.. },.mX a=>(match st.arr a with
    |some A=>(bif A.sh||A.gK then(match wc (.slice A.t) (.slice (.int .u8)) A.l with
     |some l=>K (.one (.fy .str (l.map fun n=>UInt8.ofNat n.toNat))) st
     |none=>none) else none)
    |none=>none)
   |_,_=>none)
  |_,_,_=>none)
 |_,_=>none
def vd(fs:List (Nat×TypeId))(zs:List ai):List (Nat×af)→Option (List ai)
 |[]=>some zs
 |(i,v)::r=>(match fs[i]?,v.qc with
  |some (off,t),some ls=>(match E.iK t with
   |some ti=>(bif Nat.beq ls.length ti.size&&Nat.ble (off+ls.length) zs.length then vd fs (mN zs off ls) r else none)
   |none=>none)
  |_,_=>none)
def xH(T:TypeId)(iy:List (Nat×af))(st:St)(K:af→St→Option R):Option R:=
 match E.iK T with
 |some ti=>(match ti.iS with
  |.struct fs=>(bif fs.all fun p=>(E.iK p.2).isSome then(match vd E fs (ti.zero.map wB) iy with|some ls=>K (.agg ls) st|none=>none) else none)
  |_=>none)
 |none=>none
def nt(t:Ty):Nat→List (Nat×af)→St→Option (List t.nM×St)
 |_,[],st=>some ([],st)
 |i,(j,v)::r,st=>bif Nat.beq i j then(match v.qR st with
  |some st'=>(match v.vJ st' t with
   |some d=>(match nt t (i+1) r st' with|some (l,agW)=>some (d::l,agW)|none=>none)
   |none=>none)
  |none=>none) else none
def tr.Ks(dst:Nat):Bool:=Nat.beq (E.ZO dst) 9999
def uE(t:Ty):Nat→List (Nat×af)→St→Option (List t.nM×List Nat)
 |_,[],_=>some ([],[])
 |i,(j,v)::r,st=>bif Nat.beq i j then(match v.qc with
  |some ls=>(match Ht st t ls with
   |some (d,[],c)=>(match uE t (i+1) r st with|some (l,c')=>some (d::l,c++c')|none=>none)
   |_=>none)
  |none=>none) else none
def li(T:TypeId)(dst len:Nat)(iy:List (Nat×af))(st:St)(K:af→St→Option R):Option R:=
 match E.iK T with
 |some {iS:=.slice e,.. }=>(match E.iK e with
  |some ei=>(match ei.ty with
   |some t=>(bif Nat.beq len iy.length&&Nat.beq ei.size t.size&&Nat.ble (len * ei.size) 16777216 then
    (match uE t 0 iy st,st.arr dst with
    |some (l,c),none=>(bif st.dj true dst||!ou c then none else K (.one (.mX dst)) {st with cT:=(dst,⟨t,.bA,false,l⟩)::lu c st.cT})
    |_,_=>none) else none)
   |none=>none)
  |none=>none)
 |_=>none
def mJ(T:TypeId)(dst len:Nat)(iy:List (Nat×af))(st:St)(K:af→St→Option R):Option R:=
 match E.iK T with
 |some {iS:=.slice e,.. }=>(match E.iK e with
  |some ei=>(match ei.ty with
   |some t=>(bif Nat.beq len iy.length&&Nat.beq ei.size t.size&&Nat.ble (len * ei.size) 16777216 then
    (match nt t 0 iy st with
    |some (l,st')=>(match st'.arr dst with
     |none=>(bif st'.dj true dst then none else K (.one (.mX dst)) (st'.gW dst ⟨t,.eL,false,l⟩))
     |some _=>none)
    |none=>none) else none)
   |none=>none)
  |none=>none)
 |_=>none
def qe:(t:Ty)→t.nM
 |.int _=>0 | .bool=>false | .str=>[] | .slice _=>[] | .dg a b=>(qe a,qe b) | .one a=>qe a | .arr n t=>List.replicate n (qe t)
def MG(f:List Value→Option (List Value)):Nat→List Value→Option (List Value)
 |0,l=>some l
 |n+1,l=>(match f l with|some r=>MG f n r|none=>none)
def t8:(t:Ty)→List Value→Option (List Value)
 |.int k,.int k' n::r=>bif decide (k=k')&&decide (n=0) then some r else none
 |.bool,.bool false::r=>some r
 |.str,.string s::r=>(match s.data.toList with|[]=>some r|_=>none)
 |.slice _,.slice none 0 0::r=>some r
 |.dg a b,l=>(match t8 a l with|some r=>t8 b r|none=>none)
 |.one a,l=>t8 a l
 |.arr n t,l=>MG (t8 t) n l
 |_,_=>none
def n9(T:TypeId)(dst:Nat)(len cap:af)(st:St)(K:af→St→Option R):Option R:=
 match E.iK T,len.FK,cap.FK with
 |some {iS:=.slice e,.. },some (.i64,n),some (.i64,c)=>(match E.iK e with
  |some ei=>(match ei.ty,st.arr dst with
   |some t,none=>(bif Nat.beq ei.size t.size&&Nat.ble ei.bytes 16384&&!st.dj true dst&&(match t8 t ei.zero with|some []=>true|_=>false) then
    (mkl c (qe t)).bind fun z=>(sub z 0 n).bind fun l=>K (.one (.mX dst)) (st.gW dst ⟨t,bif E.Ks dst then .bA else .eL,false,l⟩) else none)
   |_,_=>none)
  |none=>none)
 |_,_,_=>none
def Gb(T:TypeId)(o:Nat)(ls:List ai)(st:St)(K:af→St→Option R):Option R:=
 match E.iK T,st.dT o with
 |some ti,none=>(bif Nat.beq ls.length ti.size&&!ls.any ai.pV&&!st.dj false o&&!ls.any (ai.dj false o) then K (.one (.lB o 0)) (st.qP o ls) else none)
 |_,_=>none
def Zl{α:Type}:Option (List α)→Bool
 |some []=>true
 |_=>false
def sC(T:TypeId)(dst:Nat)(st:St)(K:af→St→Option R):Option R:=
 match E.iK T,st.arr dst with
 |some ti,none=>(match ti.iS with
  |.arr _ e=>(match (E.iK e).bind fun ei=>(match ei.iS with | .arr _ e'=>(E.iK e').bind (·.ty)|_=>ei.ty) with
   |some t=>(bif Nat.beq t.size 1&&!t.agg&&!st.dj true dst&&Zl (MG (t8 t) ti.size ti.zero) then
    K (.one (.mX dst)) (st.gW dst ⟨t,.arr,false,List.replicate ti.size (qe t)⟩) else none)
   |none=>none)
  |_=>none)
 |_,_=>none
def lenOf(st:St):ai→Option Int
 |.fy .str s=>some (s.length:Int)
 |.fy (.slice _) l=>some (l.length:Int)
 |.nil=>some 0
 |.mX a=>(match st.arr a with|some A=>(bif A.UL then none else some (A.l.length:Int))|none=>none)
 |_=>none
def sD(T:TypeId)(dst:Nat)(s x:af)(st:St)(K:af→St→Option R):Option R:=
 match E.iK T with
 |some {iS:=.slice e,.. }=>(match E.iK e with
  |some ei=>(match ei.ty with
   |none=>none
   |some t=>(bif Nat.beq ei.size t.size&&Nat.ble ei.bytes 16384 then
    (match x.qR st with
    |none=>none
    |some wR=>(match x.vJ wR (.slice t),wR.arr dst with
     |some m,none=>(bif wR.dj true dst then none else match s.bR with
      |.nil=>(bE ([]:List t.nM) m).bind fun r=>K (.one (.mX dst)) (wR.gW dst ⟨t,.eL,false,r⟩)
      |.mX a=>(match look wR.cT a with
       |some A=>(bif A.sh||A.bA ||(look wR.gc a).isSome||fk a wR.pin then none else
        (match wc (.slice A.t) (.slice t) A.l with
        |some l=>(bE l m).bind fun r=>K (.one (.mX dst)) {wR with cT:=(dst,⟨t,.eL,false,r⟩)::FZ wR.cT a}
        |none=>none))
       |none=>none)
      |_=>none)
     |_,_=>none)) else none))
  |none=>none)
 |_=>none
def rz(T:TypeId)(dst:Nat)(s:af)(b:Nat)(st:St)(K:af→St→Option R):Option R:=
 match E.iK T with
 |some {iS:=.slice e,.. }=>(match E.iK e with
  |some ei=>(match ei.ty,look st.cT b,st.arr dst with
   |some t,some B,none=>(bif Nat.beq ei.size t.size&&Nat.ble ei.bytes 16384&&!(B.sh||!Md.lK B.md .bA ||(look st.gc b).isSome||fk b st.pin||st.dj true dst) then
    (match wc (.slice B.t) (.slice t) B.l with
    |some m=>(match s.bR with
     |.nil=>(bE ([]:List t.nM) m).bind fun r=>K (.one (.mX dst)) {st with cT:=(dst,⟨t,.bA,false,r⟩)::lu [b] st.cT}
     |.mX a=>(match look st.cT a with
      |some A=>(bif A.sh||!Md.lK A.md .bA ||(look st.gc a).isSome||fk a st.pin||Nat.beq a b then none else
       (match wc (.slice A.t) (.slice t) A.l with
       |some l=>(bE l m).bind fun r=>K (.one (.mX dst)) {st with cT:=(dst,⟨t,.bA,false,r⟩)::lu [a,b] st.cT}
       |none=>none))
      |none=>none)
     |_=>none)
    |none=>none) else none)
   |_,_,_=>none)
  |none=>none)
 |_=>none
def R1(st:St)(a sz:Nat):Bool:=match look st.cT a with|some A=>Nat.beq sz A.t.size|none=>false
def Yz(st:St)(x:af):Option Nat:=
 match x.bR with
 |.mX b=>(match look st.cT b with|some B=>(bif !B.sh&&Md.lK B.md .bA then some b else none)|none=>none)
 |_=>none
def rA(T:TypeId)(dst:Nat)(s x:af)(st:St)(K:af→St→Option R):Option R:=
 match Yz st x with
 |some b=>rz E T dst s b st K
 |none=>(match s.bR with
  |.E5 a v sz i off=>(bif Nat.beq v (st.dH a)&&Nat.blt off sz&&R1 st a sz then FP st a i (obN a v) fun s1=>BK s1 a sz i fun s2=>sD E T dst (.one (.mX (LC a v off))) x s2 K else none)
  |_=>sD E T dst s x st K)
def ai.Ny(a:Nat):ai→Bool
 |.E5 a' _ _ _ _=>Nat.beq a' a
 |_=>false
def Xv(st:St):List af→List qj
 |v::_=>(match v.bR with
  |.E5 a v _ _ off=>.a (LC a v off)::(st.cp.filter fun p=>p.2.any (ai.Ny a)).map fun p=>.k p.1
  |_=>[])
 |[]=>[]
def uB(T:TypeId)(a sz i off:Nat)(v:af)(st:St)(K:St→Option R):Option R:=
 match E.iK T,v.qc,look st.cT a with
 |some ti,some vs,some A=>
  bif Nat.beq vs.length ti.size&&vs.all ai.cell&&Nat.beq sz A.t.size then
   (match A.md with
   |.bA=>FP st a i (obN a (st.dH a)) fun s1=>BK s1 a sz i fun s2=>
    (bif xt a (st.dH a) sz i vs then(match s2.dT (obN a (st.dH a)) with
     |some ls=>(match qS ls off ti.size with
      |some c=>(bif c.any ai.pV then none else A7 (s2.qP (obN a (st.dH a)) (mN ls off (vs.map (qU a (st.dH a) sz)))) a (obN a (st.dH a)) K)
      |none=>none)
     |none=>none) else none)
   |.Ds j o=>(bif Nat.beq j i&&Nat.ble 10000 o then(match st.dT o with
     |some ls=>(match qS ls off ti.size with
      |some c=>(bif c.any ai.pV then none else A7 (st.qP o (mN ls off vs)) a o K)
      |none=>none)
     |none=>none) else none)
   |_=>none)
  else none
 |_,_,_=>none
def We(st:St)(x:af):Option (Nat×Nat×Nat×Nat):=
 match x.bR with
 |.DX a sz i off=>(match look st.cT a with
  |some A=>(bif A.sh then none else match A.md with | .bA=>some (a,sz,i,off) | .Ds _ _=>some (a,sz,i,off)|_=>none)
  |none=>none)
 |_=>none
def uC(T:TypeId)(a k:Nat)(v:af)(st:St)(K:St→Option R):Option R:=
 match E.iK T,v.qc,look st.cT a with
 |some ti,some [l],some A=>
  bif Nat.beq ti.size 1&&l.cell&&!A.sh&&Md.lK A.md .arr&&Nat.beq A.t.size 1&&!A.t.agg&&A.t.yZ then
   (match l.vJ st A.t with
   |some d=>(bL A.l (k:Int)).bind fun _=>K (st.gW a ⟨A.t,.arr,false,A.l.set k d⟩)
   |none=>none)
  else none
 |_,_,_=>none
def acT(x:af):Option (Nat×Nat):=match x.bR with | .LP a k _=>some (a,k)|_=>none
def uD(T:TypeId)(x v:af)(st:St)(K:St→Option R):Option R:=
 match We st x with
 |some (a,sz,i,off)=>uB E T a sz i off v st K
 |none=>(match acT x with
  |some (a,k)=>uC E T a k v st K
  |none=>xK E T x v st K)
def xz(k:IntKind)(f:Int→Int→Int)(a:Int):List af→Option Int
 |[]=>some a
 |v::r=>(match v.FK with|some (_,b)=>xz k f (f a b) r|none=>none)
def nQ(b:Builtin)(dst:Nat)(argTypes:List TypeId)(vs:List af)(st:St)(K:af→St→Option R):Option R:=
 match b,vs with
 |.len,[v]=>(match (argTypes[0]?).bind E.iK with
  |some {iS:=.str,.. }=>(match v.N6 with|some s=>K (.one (.fy (.int .i64) (s.length:Int))) st|none=>none)
  |some {iS:=.slice _,.. }=>(match v.bR with
   |.E5 a vr sz i off=>(match st.arr a with
    |some A=>(bif A.sh||!Md.lK A.md .bA||!Nat.beq vr (st.dH a)||!Nat.beq sz A.t.size||!A.t.sy then none else(bL A.l (i:Int)).bind fun x=>match C9 A.t x off with|some n=>K (.one (.fy (.int .i64) n)) st|none=>none)
    |none=>none)
   |_=>(match lenOf st v.bR,v.N6 with|some n,none=>K (.one (.fy (.int .i64) n)) st|_,_=>none))
  |_=>none)
 |.append,[s,x]=>(match argTypes with
  |[t,u]=>(bif Nat.beq t u then rA E t dst s x st K else none)
  |_=>none)
 |.min,v::r=>(match v.FK with
  |some (k,a)=>(match xz k (fun x y=>bif decide (y<x) then y else x) a r with|some n=>K (.one (.fy (.int k) n)) st|none=>none)
  |none=>none)
 |.max,v::r=>(match v.FK with
  |some (k,a)=>(match xz k (fun x y=>bif decide (y > x) then y else x) a r with|some n=>K (.one (.fy (.int k) n)) st|none=>none)
  |none=>none)
 |_,_=>none
abbrev mpT:Ty:=.dg .str (.int .i64)
def qL:List (ab×Int)→ab→Int
 |[],_=>0
 |p::r,s=>bif decide (p.1=s) then p.2 else qL r s
def ry:List (ab×Int)→ab→Int→List (ab×Int)
 |[],s,v=>[(s,v)]
 |p::r,s,v=>bif decide (p.1=s) then(s,v)::r else p::ry r s v
def KA(E:tr)(T:TypeId):Bool:=match E.iK T with|some {iS:=.mp _ _,.. }=>true|_=>false
def rB(T:TypeId)(dst:Nat)(st:St)(K:af→St→Option R):Option R:=
 match st.arr dst with
 |none=>(bif KA E T&&!st.dj true dst then K (.one (.mX dst)) (st.gW dst ⟨mpT,.mp,false,[]⟩) else none)
 |some _=>none
def uz(T:TypeId)(x k:af)(st:St)(K:af→St→Option R):Option R:=
 match x.bR,k.N6 with
 |.mX a,some s=>(match st.arr a with
  |some A=>(bif KA E T&&!A.sh&&Md.lK A.md .mp then(match wc (.slice A.t) (.slice mpT) A.l with
   |some l=>K (.one (.fy (.int .i64) (qL l s))) st
   |none=>none) else none)
  |none=>none)
 |_,_=>none
def oa(T:TypeId)(x k v:af)(st:St)(K:af→St→Option R):Option R:=
 match x.bR,k.N6,v.FK with
 |.mX a,some s,some (.i64,n)=>(match look st.cT a with
  |some A=>(bif KA E T&&!A.sh&&Md.lK A.md .mp then(match wc (.slice A.t) (.slice mpT) A.l with
   |some l=>K (.one .vU) (st.gW a ⟨mpT,.mp,false,ry l s n⟩)
   |none=>none) else none)
  |none=>none)
 |_,_,_=>none
def Ii:Option Tmp→Nat
 |some d=>d
 |none=>0
def mw(o:Oper)(st:St)(K:af→St→Option R)(KP:af→St→Option R):Option R:=
 match o.op with
 |.move x=>K (ev E st x) st
 |.assign x=>K (ev E st x) st
 |.pick c a b=>(match (ev E st c).FX with|some c=>bif c then K (ev E st a) st else K (ev E st b) st|none=>none)
 |.nilCheck x=>(match (ev E st x).bR with
  |.lB _ _=>K (ev E st x) st
  |.Pa _ _ _=>K (ev E st x) st
  |.DX _ _ _ _=>K (ev E st x) st
  |_=>none)
 |.alloc T=>bif E.Ks (Ii o.dst) then sC E T (Ii o.dst) st K else(match E.iK T with|some ti=>Gb E T (E.ZO (Ii o.dst)) (ti.zero.map wB) st K|none=>none)
 |.box T x=>(match (ev E st x).qc with|some ls=>Gb E T (E.ZO (Ii o.dst)) ls st K|none=>none)
 |.build T iy=>xH E T (iy.toList.map fun p=>(p.1,ev E st p.2)) st K
 |.buildSlice T len iy=>bif E.Ks (Ii o.dst) then li E T (Ii o.dst) len (iy.toList.map fun p=>(p.1,ev E st p.2)) st K else mJ E T (Ii o.dst) len (iy.toList.map fun p=>(p.1,ev E st p.2)) st K
 |.load T x=>y5 E T (ev E st x) st K
 |.store T x v=>uD E T (ev E st x) (ev E st v) st fun st'=>K (.one .vU) st'
 |.binOp op T x y _=>KD E op T (ev E st x) (ev E st y) fun v=>K v st
 |.unOp op _ x=>TE op (ev E st x) fun v=>K v st
 |.convert S D x=>p6 E S D (ev E st x) st K
 |.makeSlice T l c=>n9 E T (Ii o.dst) (ev E st l) (ev E st c) st K
 |.slice T x lo hi mx=>uA E T (Ii o.dst) (ev E st x) (lo.map (ev E st)) (hi.map (ev E st)) (mx.map (ev E st)) st K
 |.fieldAddr T x f=>n8 E T (ev E st x) f st K
 |.field T x f=>bif (ev E st x).isAgg then xI E T (ev E st x) f st K else none
 |.indexAddr T x i=>mM E T (ev E st x) (ev E st i) st K
 |.index T x i=>xJ E T (ev E st x) (ev E st i) st K
 |.extract x n=>(match ev E st x with | .KN vs=>(match vs[n]? with|some p=>K (Ex p.1 p.2) st|none=>none)|_=>none)
 |.call c=>(match c.callee with
  |.builtin b=>nQ E b (Ii o.dst) c.argTypes.toList (c.args.toList.map (ev E st)) st K
  |.value (.func f)=>(match E.BG f with|some s=>s.run (Ii o.dst) (c.args.toList.map (ev E st)) st K KP|none=>none)
  |_=>none)
 |.makeInterface T x=>(match E.iK T with
  |some ti=>(match ti.iS,(ev E st x).qc with
   |.ZQ,_=>none
   |_,some ls=>K (.Au T ls) st
   |_,none=>none)
  |none=>none)
 |.panic x=>(match ev E st x with | .Au t ls=>KP (.Au t ls) st|_=>none)
 |.makeMap T none=>rB E T (Ii o.dst) st K
 |.lookup T x k false=>uz E T (ev E st x) (ev E st k) st K
 |.mapUpdate T x k v=>oa E T (ev E st x) (ev E st k) (ev E st v) st K
 |_=>none
end exec
def qD(all:List Oper)(j:Nat):Option Nat:=(all[j]?).bind (·.dst)
def eb(e:Edge):Bool:=match e.ground with | .textOnly _=>false | .gcOnly _=>false|_=>true
def X1:List Nat→List Nat→List Nat
 |[],m=>m
 |x::r,m=>bif fk x m then X1 r m else X1 r (x::m)
def iY:List Oper→List (List Nat)→List (List Nat)
 |[],acc=>acc
 |o::r,acc=>iY r (acc++[o.after.toList.foldl (fun m e=>bif eb e then X1 (e.on::acc.getD e.on []) m else m) []])
def vM:Op→Bool
 |.move _=>true | .assign _=>true | .pick _ _ _=>true | .nilCheck _=>true | .build _ _=>true | .load _ _=>true
 |.binOp _ _ _ _ _=>true | .unOp _ _ _=>true | .convert _ _ _=>true | .slice t _ lo hi mx=>Nat.beq t 9 ||(match lo,hi,mx with|none,some _,none=>false|_,_,_=>true) | .fieldAddr _ _ _=>true
 |.field _ _ _=>true | .indexAddr _ _ _=>true | .index _ _ _=>true | .extract _ _=>true | .makeInterface _ _=>true
 |.call c=>(match c.callee with
  |.builtin b=>(match b with | .len=>true | .min=>true | .max=>true|_=>false)
  |_=>false)
 |_=>false
def R4:List Operand→List Nat
 |[]=>[]
 |.tmp t::r=>t::R4 r
 |_::r=>R4 r
def tV(all:List Oper)(o:Oper):List Nat:=
 (match o.guard with|some (j,_)=>(match qD all j with|some g=>[g]|none=>[])|none=>[])++R4 o.op.operands.toList
def SM(o:Oper)(l:List Nat):Bool:=match o.dst with|some d=>fk d l|none=>false
def qb(all:List Oper)(A:List (List Nat))(k:Nat)(o:Oper):Bool:=
 !vM o.op||all.zipIdx.any fun p=>SM o (tV all p.1)&&!fk k (A.getD p.2 [])
def rdy(all:List Oper)(done:List Nat)(i:Nat):Bool:=
 !fk i done&&(match all[i]? with|some o=>o.after.toList.all fun e=>!eb e||fk e.on done|none=>false)
def KM(all:List Oper)(A:List (List Nat))(k:Nat):Bool:=match all[k]? with|some o=>!qb all A k o|none=>false
def jd(all:List Oper)(A:List (List Nat)):Nat→List Nat→List (List Nat)
 |0,_=>[[]]
 |n+1,done=>(match (List.range all.length).filter (rdy all done) with
  |[]=>[[]]
  |i::r=>(match (i::r).find? (KM all A) with
   |some k=>(jd all A n (k::done)).map (k::·)
   |none=>(i::r).flatMap fun k=>(jd all A n (k::done)).map (k::·)))
def Rb:List Oper→Bool
 |[]=>true
 |o::r=>!(match o.dst with|some d=>r.any fun p=>(match p.dst with|some e=>Nat.beq d e|none=>false)|none=>false)&&Rb r
def afX(all:List Oper)(A:List (List Nat)):Bool:=
 all.zipIdx.all fun p=>all.zipIdx.all fun q=>Nat.beq p.2 q.2||!SM q.1 (tV all p.1)||fk q.2 (A.getD p.2 [])||fk p.2 (A.getD q.2 [])
def ZI(all:List Oper):Bool:=all.all fun o=>match o.op with | .select _ _=>false|_=>true
def DW(all:List Oper)(A:List (List Nat)):Bool:=
 Rb all&&afX all A&&ZI all&&all.zipIdx.all (fun p=>!SM p.1 (tV all p.1)&&p.1.after.toList.all fun e=>!eb e||Nat.blt e.on p.2)
def UA:qj→qj→Bool
 |.o a i n,.o b j m=>!Nat.beq a b||Nat.ble (i+n) j||Nat.ble (j+m) i
 |.a x,.a y=>!Nat.beq x y
 |.o a _ _,.k b=>!Nat.beq a b
 |.k a,.o b _ _=>!Nat.beq a b
 |.k a,.k b=>!Nat.beq a b
 |.all,_=>false
 |_,.all=>false
 |_,_=>true
def fZ:List ai→List qj
 |[]=>[]
 |.mX a::r=>.a a::fZ r
 |.E5 a _ _ _ _::r=>.a a::fZ r
 |_::r=>fZ r
def af.uk:af→List qj
 |.one l=>fZ [l]
 |.agg ls=>fZ ls
 |.Au _ ls=>fZ ls
 |.KN _=>[]
def nJ:List af→List qj
 |[]=>[]
 |v::r=>v.uk++nJ r
section draw
variable (E:tr) {R:Type}
def xN(T:TypeId):Nat:=match E.iK T with|some ti=>ti.size|none=>0
def wx(o:Oper)(st:St):List qj:=
 match o.op with
 |.load T x=>(match (ev E st x).bR with | .lB ob off=>[.o ob off (xN E T)] | .DX a _ _ _=>[.a a] | .LP a _ _=>[.a a]|_=>[])
 |.convert _ _ x=>fZ [(ev E st x).bR]
 |.slice _ x _ _ _=>fZ [(ev E st x).bR]
 |.indexAddr _ x _=>fZ [(ev E st x).bR]
 |.call c=>nJ (c.args.toList.map (ev E st))
 |_=>[]
def yw(o:Oper)(st:St):Bool:=
 match o.op with
 |.slice _ x _ _ _=>(match (ev E st x).bR with
  |.mX a=>(match st.arr a with|some A=>A.sh|none=>false)
  |_=>true)
 |_=>true
def uL(o:Oper)(st:St):List qj:=
 match o.op with
 |.store T x v=>(match We st (ev E st x) with
  |some _=>[.all]
  |none=>(match (ev E st x).bR with
   |.lB ob off=>[.o ob off (xN E T)]
   |.DX a _ _ _=>.a a::(ev E st v).uk
   |.LP a _ _=>[.a a]
   |_=>[]))
 |.buildSlice _ _ ps=>nJ (ps.toList.map fun p=>ev E st p.2)
 |.call c=>(match c.callee with
  |.builtin _=>nJ (c.args.toList.map (ev E st))++Xv st (c.args.toList.map (ev E st))
  |.value (.func f)=>(match E.BG f with|some s=>s.Lh (c.args.toList.map (ev E st)) st|none=>[])
  |_=>[])
 |.slice _ x _ _ _=>fZ [(ev E st x).bR]
 |.mapUpdate _ x _ _=>fZ [(ev E st x).bR]
 |_=>[]
def H7(rs ws:List qj):Bool:=rs.all fun p=>ws.all fun q=>UA p q
def Gm(all:List Oper)(A:List (List Nat))(i:Nat)(o:Oper)(log:List (Nat×List qj))(st:St)(K:List (Nat×List qj)→St→Option R)(KP:af→St→Option R):Option R:=
 bif qb all A i o then
  (bif log.all (fun p=>fk p.1 (A.getD i [])||H7 p.2 (uL E o st)) then
   mw E o st (fun v st'=>pe o.dst v st' (K log)) KP else none)
 else(bif yw E o st then mw E o st (fun v st'=>pe o.dst v st' (K ((i,wx E o st)::log))) (fun _ _=>none) else none)
def WA(all:List Oper)(A:List (List Nat))(i:Nat)(log:List (Nat×List qj))(st:St)(K:List (Nat×List qj)→St→Option R)(KP:af→St→Option R):Option R:=
 match all[i]? with
 |none=>none
 |some o=>(match o.guard with
  |none=>Gm E all A i o log st K KP
  |some (j,tC)=>(match qD all j with
   |none=>none
   |some g=>(match st.iz g with
    |some (.one (.fy .bool c))=>
     (bif c then
      (bif tC then Gm E all A i o log (st.kj g (.one (.fy .bool true))) K KP
       else pe o.dst (.one .vU) (st.kj g (.one (.fy .bool true))) (K log))
     else
      (bif tC then pe o.dst (.one .vU) (st.kj g (.one (.fy .bool false))) (K log)
       else Gm E all A i o log (st.kj g (.one (.fy .bool false))) K KP))
    |some (.one .vU)=>pe o.dst (.one .vU) st (K log)
    |_=>none)))
def Hw(all:List Oper)(A:List (List Nat)):List Nat→List (Nat×List qj)→St→(St→Option R)→(af→St→Option R)→Option R
 |[],_,st,K,_=>K st
 |i::rest,log,st,K,KP=>WA E all A i log st (fun lg s=>Hw all A rest lg s K KP) KP
def JH(ops:List Oper)(l:List Nat):Bool:=(List.range ops.length).all fun i=>fk i l
def Ve(ops:List Oper)(st:St)(K:St→Option R)(KP:af→St→Option R):Option R:=
 bif DW ops (iY ops []) then
  (match jd ops (iY ops []) ops.length [] with
  |[l]=>(bif JH ops l then Hw E ops (iY ops []) l [] st K KP else none)
  |_=>none)
 else none
end draw
section run
variable (E:tr) {R:Type}
def qd(all:List Oper):List Oper→St→(St→Option R)→(af→St→Option R)→Option R
 |[],st,K,_=>K st
 |o::rest,st,K,KP=>
  match o.guard with
  |none=>mw E o st (fun v st'=>pe o.dst v st' fun s=>qd all rest s K KP) KP
  |some (j,tC)=>(match qD all j with
   |none=>none
   |some g=>(match st.iz g with
    |some (.one (.fy .bool c))=>
     (bif c then
      (bif tC then mw E o (st.kj g (.one (.fy .bool true))) (fun v st'=>pe o.dst v st' fun s=>qd all rest s K KP) KP
       else pe o.dst (.one .vU) (st.kj g (.one (.fy .bool true))) fun s=>qd all rest s K KP)
     else
      (bif tC then pe o.dst (.one .vU) (st.kj g (.one (.fy .bool false))) fun s=>qd all rest s K KP
       else mw E o (st.kj g (.one (.fy .bool false))) (fun v st'=>pe o.dst v st' fun s=>qd all rest s K KP) KP))
    |some (.one .vU)=>pe o.dst (.one .vU) st fun s=>qd all rest s K KP
    |_=>none))
noncomputable def tB(c:Code):St→(Exit→St→Option R)→(af→St→Option R)→Option R:=
 Code.rec (motive:=fun _=>St→(Exit→St→Option R)→(af→St→Option R)→Option R)
  (fun st K _=>K .normal st)
  (fun id ops draw st K KP=>bif draw then(match E.oE (id+1000000) with|some L=>L.run st K KP|none=>Ve E ops.toList st (fun s=>K .normal s) KP) else qd E ops.toList ops.toList st (fun s=>K .normal s) KP)
  (fun _ _ ra rb st K KP=>ra st (fun e s=>match e with | .normal=>rb s K KP|e=>K e s) KP)
  (fun c _ _ rt re st K KP=>match (ev E st c).FX with|some b=>bif b then rt st K KP else re st K KP|none=>none)
  (fun id _ rb st K KP=>match E.oE id with
   |some L=>L.run st K KP
   |none=>rb st (fun e s=>match e with | .exit i=>(bif Nat.beq i id then K .normal s else K (.exit i) s)|e=>K e s) KP)
  (fun _ _ _ _ _=>none)
  (fun _ _ _ _ _ _ _ _ _=>none)
  (fun id st K _=>K (.exit id) st)
  (fun _ _ _ _ _=>none)
  (fun _ _ _ _=>none)
  (fun _ _ _ _=>none)
  (fun st K _=>K .ret st)
  (fun _ _ _ _=>none) c
end run
end Go.Fx
namespace Go.Fx
def All2{α β:Type}(R:α→β→Prop):List α→List β→Prop
 |[],[]=>True
 |x::xs,y::ys=>R x y∧All2 R xs ys
 |_,_=>False
section All2
variable {α β:Type} {R R':α→β→Prop}
theorem All2.length:∀{xs:List α} {ys:List β},All2 R xs ys→xs.length=ys.length
 |[],[],_=>rfl
 |_::_,_::_,h=>by simp[All2.length h.2]
 |[],_::_,h=>h.elim
 |_::_,[],h=>h.elim
theorem All2.imp(f:∀ x y,R x y→R' x y):∀{xs:List α} {ys:List β},All2 R xs ys→All2 R' xs ys
 |[],[],_=>trivial
 |_::_,_::_,h=>⟨f _ _ h.1,All2.imp f h.2⟩
 |[],_::_,h=>h.elim
 |_::_,[],h=>h.elim
theorem All2.vp:∀{xs:List α} {ys:List β},(∀ x y,x∈xs→R x y→R' x y)→All2 R xs ys→All2 R' xs ys
 |[],[],_,_=>trivial
 |_::_,_::_,f,h=>⟨f _ _ (by simp) h.1,All2.vp (fun x y hx=>f x y (by simp[hx])) h.2⟩
 |[],_::_,_,h=>h.elim
 |_::_,[],_,h=>h.elim
theorem All2.append:∀{xs xs':List α} {ys ys':List β},All2 R xs ys→All2 R xs' ys'→All2 R (xs++xs') (ys++ys')
 |[],_,[],_,_,h=>h
 |_::_,_,_::_,_,h,h'=>⟨h.1,All2.append h.2 h'⟩
 |[],_,_::_,_,h,_=>h.elim
 |_::_,_,[],_,h,_=>h.elim
theorem All2.split:∀{xs xs':List α} {ys:List β},All2 R (xs++xs') ys→∃ y1 y2,ys=y1++y2∧All2 R xs y1∧All2 R xs' y2
 |[],_,ys,h=>⟨[],ys,rfl,trivial,h⟩
 |x::xs,xs',y::ys,h=>by obtain⟨y1,y2,rfl,h1,h2⟩:=All2.split (xs:=xs) h.2;exact⟨y::y1,y2,rfl,⟨h.1,h1⟩,h2⟩
 |_::_,_,[],h=>h.elim
theorem All2.take:∀(n:Nat) {xs:List α} {ys:List β},All2 R xs ys→All2 R (xs.take n) (ys.take n)
 |0,_,_,_=>by simp[All2]
 |n+1,[],[],_=>trivial
 |n+1,_::_,_::_,h=>⟨h.1,All2.take n h.2⟩
 |n+1,[],_::_,h=>h.elim
 |n+1,_::_,[],h=>h.elim
theorem All2.drop:∀(n:Nat) {xs:List α} {ys:List β},All2 R xs ys→All2 R (xs.drop n) (ys.drop n)
 |0,_,_,h=>h
 |n+1,[],[],_=>trivial
 |n+1,_::_,_::_,h=>All2.drop n h.2
 |n+1,[],_::_,h=>h.elim
 |n+1,_::_,[],h=>h.elim
theorem All2.vJ:∀{i:Nat} {xs:List α} {ys:List β} {x:α},All2 R xs ys→xs[i]? = some x→∃ y,ys[i]? = some y∧R x y
 |0,_::_,_::_,_,h,e=>by cases e;exact⟨_,rfl,h.1⟩
 |i+1,_::_,_::_,_,h,e=>by simpa using All2.vJ (i:=i) h.2 (by simpa using e)
 |_,[],_,_,_,e=>by simp at e
 |_,_::_,[],_,h,_=>h.elim
end All2
structure Gh where
 S:Du
 φ:Nat→Nat
 pre:Nat→List Value
 post:Nat→List Value
 ψ:Nat→Value
 HA:Nat→gz
 vn:Nat→Nat
 HV:Nat→Nat→List Value
 ds:List Deferred:=[]
def vX(G:Gh)(a v sz i off:Nat)(u:Value):Prop:=
 v≤G.vn a∧(∃ x n c,u=.slice x n c)∧(∃ b len cap,G.ψ a=.slice (some ⟨b,0,none⟩) len cap∧i<len)∧(G.HV a v)[i * sz+off]? = some u
theorem vX.AB{G G':Gh}{a v sz i off:Nat}{u:Value}(h:vX G a v sz i off u)(h1:G'.ψ a=G.ψ a)(h2:G.vn a≤G'.vn a)(h3:∀ v,v≤G.vn a→G'.HV a v=G.HV a v):vX G' a v sz i off u:=
 ⟨bGa h.1 h2,h.2.1,by rw[h1];exact h.2.2.1,by rw[h3 v h.1];exact h.2.2.2⟩
def kI:gz→List Value
 |(_,.cells arr _ _)::_=>arr.toList
 |_=>[]
def aY(G:Gh):ai→Value→Prop
 |.any,_=>True
 |.vb,_=>True
 |.vU,v=>v=undef
 |.fy t d,v=>∃ cs,(if t.agg=true then v=.agg cs.toArray else cs=[v])∧gy G.S false t cs d []
 |.nil,v=>v=.slice none 0 0
 |.J7,v=>v=.pointer none
 |.mX a,v=>v=G.ψ a
 |.lB o off,v=>v=.pointer (some ⟨G.φ o,(G.pre o).length+off,none⟩)
 |.DX a sz i off,v=>∃ b len cap,G.ψ a=.slice (some ⟨b,0,none⟩) len cap∧i<len∧v=.pointer (some ⟨b,i * sz+off,none⟩)
 |.Pa t d off,v=>∃ b arr elem fz pre cs post,G.S b=some (.cells arr elem fz)∧arr.toList=pre++(cs++post)∧gy G.S false t cs d []∧
  v=.pointer (some ⟨b,pre.length+off,none⟩)
 |.fn f,v=>v=.func (.func f) #[] #[]
 |.E5 a vr sz i off,v=>vX G a vr sz i off v
 |.nse a vr sz i off sz2 j To,v=>∃ b2 J1 Lf,vX G a vr sz i off (.slice (some ⟨b2,0,none⟩) J1 Lf)∧j<J1∧v=.pointer (some ⟨b2,j * sz2+To,none⟩)
 |.LP a k n,v=>∃ b,G.ψ a=.pointer (some ⟨b,0,none⟩)∧v=.pointer (some ⟨b,k,none⟩)
 |.ga t l,v=>∃ b arr elem fz cells rest,G.S b=some (.cells arr elem fz)∧arr.toList=cells++rest∧RepL (gy G.S false t) cells l []∧v=.pointer (some ⟨b,0,none⟩)
def aU(G:Gh):af→Value→Prop
 |.one l,v=>aY G l v
 |.agg ls,v=>∃ cs:List Value,v=.agg cs.toArray∧All2 (aY G) ls cs
 |.KN vs,v=>∃ us:List Value,v=.tuple us.toArray∧All2 (fun(p:Bool×List ai) u=>
  if p.1=true then ∃ cs:List Value,u=.agg cs.toArray∧All2 (aY G) p.2 cs else ∃ l,p.2=[l]∧aY G l u) vs us
 |.Au t ls,v=>∃ u cs,v=.iface t u∧u.cells.toList=cs∧All2 (aY G) ls cs
def ix(G:Gh)(st:St)(o:Nat):Nat→List ai→List Value→Prop:=fun j ls vs=>All2 (aY G) (st.kg o j ls) vs
structure mW where
 S0:Du
 XC:Nat→Prop
 w0:World
 pin:Nat→Option (Nat×List Value×List Value)
 pl:∀ o p,pin o=some p→o<10000
 bv:Nat→Nat→Option Value
 bl:∀ o j u,bv o j=some u→o<10000
 aaK:Nat→Option Value
 ds:List Deferred:=[]
def fq(G:Gh)(st:St):Bool×Nat→Nat→Prop
 |(false,o),b=>(∃ ls,st.dT o=some ls)∧b=G.φ o
 |(true,a),b=>(∃ A,st.arr a=some A∧A.sh=false)∧∃ p∈G.HA a,p.1=b
def Yg{α:Type}(RL:List Value→List α→gz→Prop)(sz:Nat)(v:Value)(l:List α)(H:gz)(i b:Nat)(pre post:List Value):Prop:=
 ∃ cap Hp Hq rest I1,v=.slice (some ⟨b,0,none⟩) l.length cap∧H=Hp++Hq∧post=I1++rest∧cap * sz≤pre.length+sz+post.length∧
  l.length≤cap∧i<l.length∧pre.length=i * sz∧RL pre (l.take i) Hp∧RL I1 (l.drop (i+1)) Hq
def aaG{α:Type}(RL:List Value→List α→gz→Prop)(v:Value)(l:List α)(H:gz):Prop:=
 ∃ r es yv,v=.map (some r)∧H=[(r,Obj.map es yv)]∧RL (es.toList.flatMap fun e=>[e.key,e.val]) l []
def Yf{α:Type}(RL:List Value→List α→gz→Prop)(sz:Nat)(v:Value)(l:List α)(H:gz)(i off:Nat):Prop:=
 ∃ b cap arr elem cells rest H',v=.slice (some ⟨b,0,none⟩) l.length cap∧H=(b,Obj.cells arr elem (0,0))::H'∧arr.toList=cells++rest∧cap * sz≤arr.size∧l.length≤cap∧
  i<l.length∧off<sz∧cells.length=l.length * sz∧RL (cells.set (i * sz+off) (.slice none 0 0)) l H'
def Vv{α:Type}(RL:List Value→List α→gz→Prop)(v:Value)(l:List α)(H:gz):Prop:=
 ∃ b arr elem,v=.pointer (some ⟨b,0,none⟩)∧H=[(b,Obj.cells arr elem (0,0))]∧RL arr.toList l []
def pj(G:Gh)(a:Nat)(A:jV):Prop:=
 if A.sh=true then BV G.S (RepL (gy G.S false A.t)) [G.ψ a] A.l []
 else match A.md with
  |.eL=>kA (RepL (gy G.S false A.t)) A.t.size [G.ψ a] A.l (G.HA a)
  |.bA=>kA (RepL (gy G.S true A.t)) A.t.size [G.ψ a] A.l (G.HA a)
  |.Ds i o=>Yg (RepL (gy G.S true A.t)) A.t.size (G.ψ a) A.l (G.HA a) i (G.φ o) (G.pre o) (G.post o)
  |.mp=>aaG (RepL (gy G.S false A.t)) (G.ψ a) A.l (G.HA a)
  |.ae3 i off=>Yf (RepL (gy G.S true A.t)) A.t.size (G.ψ a) A.l (G.HA a) i off
  |.arr=>Vv (RepL (gy G.S false A.t)) (G.ψ a) A.l (G.HA a)
def SlV(v:Value):Prop:=(∃ b n c,v=.slice b n c)∨(∃ r,v=.map r)∨∃ p,v=.pointer p
structure aB(X:mW)(st:St)(G:Gh)(w:World):Prop where
 sl:∀ a,SlV (G.ψ a)
 sh:∀ b o,G.S b=some o→w.heap[b]? = some o
 ob:∀ o ls,st.dT o=some ls→∃ arr elem mid,w.heap[G.φ o]? = some (.cells arr elem (0,0))∧arr.toList=G.pre o++(mid++G.post o)∧ix G st o 0 ls mid
 ar:∀ a A,st.arr a=some A→pj G a A
 ah:∀ a A,st.arr a=some A→A.sh=false→∀ p∈G.HA a,w.heap[p.1]? = some p.2
 nd:∀ a A,st.arr a=some A→A.sh=false→((G.HA a).map (·.1)).Nodup
 qw:∀ x y b,fq G st x b→fq G st y b→x=y
 dS:∀ x b,fq G st x b→G.S b=none
 ua:∀ x b,fq G st x b→X.XC b∨X.w0.heap.size≤b
 s0:∀ b o,X.S0 b=some o→G.S b=some o
 sn:∀ b o,G.S b=some o→X.S0 b=some o∨X.XC b∨X.w0.heap.size≤b
 fr:∀ b,b<X.w0.heap.size→¬ X.XC b→w.heap[b]? = X.w0.heap[b]?
 sz:X.w0.heap.size≤w.heap.size
 os:w.os=X.w0.os
 tp:w.tape=X.w0.tape
 out:w.output=X.w0.output
 pin:∀ o p,X.pin o=some p→(∃ ls,st.dT o=some ls)∧p=(G.φ o,G.pre o,G.post o)
 bv:∀ o j u,X.bv o j=some u→(∃ lf,et st.cK o j=some lf)∧(∃ ls,st.dT o=some ls∧ls[j]? = some .vb)∧
  ∃ arr elem,w.heap[G.φ o]? = some (.cells arr elem (0,0))∧arr.toList[(G.pre o).length+j]? = some u
 hv:∀ a,G.vn a=st.dH a
 hh:∀ a A,st.arr a=some A→A.sh=false→A.nest=true→G.HV a (G.vn a)=kI (G.HA a)
 ds:G.ds=X.ds
 ap:∀ a u,X.aaK a=some u→fk a st.pin=true∧(∃ A,st.arr a=some A)∧G.ψ a=u
def bQ(G:Gh)(st:St)(a:Act):Prop:=
 a.defers=G.ds∧a.tmps.size=st.n∧∀ i v,st.iz i=some v→aU G v (a.tmps.getD i undef)
section look
variable {α:Type}
theorem vu{k i:Nat}(h:k≠i):Nat.beq k i=false:=by
 cases hb:Nat.beq k i with
 |false=>rfl
 |true=>exact absurd (Q4 hb) h
theorem aw(k:Nat)(v:α)(l:List (Nat×α))(i:Nat):look ((k,v)::l) i=if k=i then some v else look l i:=by
 simp only[look];by_cases h:k=i
 ·subst h;simp
 ·simp[vu h,h]
theorem qJ(l:List (Nat×α))(a i:Nat):look (FZ l a) i=if a=i then none else look l i:=by
 induction l with
 |nil=>simp[look,FZ]
 |cons p l ih=>
  obtain⟨k,v⟩:=p;by_cases h:k=a
  ·subst h
   have:Nat.beq k k=true:=by simp
   simp only[FZ,this,aja,ih,aw];split<;>rfl
  ·have:=vu h
   simp only[FZ,this,aoa,aw,ih];by_cases h2:k=i
   ·subst h2;simp[bDa h]
   ·simp[h2]
theorem ep{l:List (Nat×α)}{i:Nat}{v:α}(h:look l i=some v):(i,v)∈l:=by
 induction l with
 |nil=>simp[look] at h
 |cons p l ih=>
  obtain⟨k,u⟩:=p;rw[aw] at h;split at h
  ·rename_i e;subst e;cases h;simp
  ·exact Q8 _ (ih h)
theorem J4:∀{l:List (Nat×Nat×ai)} {o j:Nat} {v:ai},et l o j=some v→(o,j,v)∈l
 |[],_,_,_,h=>by cases h
 |(o',j',v')::r,o,j,v,h=>by
  simp only[et] at h;cases hb:(Nat.beq o' o&&Nat.beq j' j) with
  |true=>simp only[hb,aja,Ob] at h;simp only[Q3] at hb;rw[Q4 hb.1,Q4 hb.2,h];simp
  |false=>simp only[hb,aoa] at h;exact Q8 _ (J4 h)
end look
section St
variable {st:St}
theorem qO(i:Nat)(v:af)(j:Nat):(st.kj i v).iz j=if i=j then some v else st.iz j:=by simp only[St.iz,St.kj,aw];by_cases h:i=j<;>simp[h]
@[simp] theorem adO(i:Nat)(v:af)(o:Nat):(st.kj i v).dT o=st.dT o:=rfl
@[simp] theorem acW(i:Nat)(v:af)(a:Nat):(st.kj i v).arr a=st.arr a:=rfl
@[simp] theorem adY(i:Nat)(v:af)(o j:Nat)(l:ai):(st.kj i v).res o j l=st.res o j l:=by cases l<;>rfl
theorem kW(o:Nat)(ls:List ai)(q:Nat):(st.qP o ls).dT q=if o=q then some ls else st.dT q:=by simp only[St.dT,St.qP,aw]
@[simp] theorem adU(o:Nat)(ls:List ai)(i:Nat):(st.qP o ls).iz i=st.iz i:=rfl
@[simp] theorem acV(o:Nat)(ls:List ai)(a:Nat):(st.qP o ls).arr a=st.arr a:=rfl
@[simp] theorem adX(q:Nat)(ls:List ai)(o j:Nat)(l:ai):(st.qP q ls).res o j l=st.res o j l:=by cases l<;>rfl
theorem dM(a:Nat)(A:jV)(b:Nat):(st.gW a A).arr b=if a=b then some A else st.arr b:=by simp only[St.arr,St.gW,aw];by_cases h:a=b<;>simp[h]
@[simp] theorem adT(a:Nat)(A:jV)(i:Nat):(st.gW a A).iz i=st.iz i:=rfl
@[simp] theorem adN(a:Nat)(A:jV)(o:Nat):(st.gW a A).dT o=st.dT o:=rfl
@[simp] theorem adW(a:Nat)(A:jV)(o j:Nat)(l:ai):(st.gW a A).res o j l=st.res o j l:=by cases l<;>rfl
end St
theorem kh{st st':St}{o:Nat}(h:∀ j l,st'.res o j l=st.res o j l):∀(j:Nat) (ls:List ai),st'.kg o j ls=st.kg o j ls
 |_,[]=>rfl
 |j,l::r=>by simp[St.kg,h,kh h (j+1) r]
theorem iX(st:St)(o:Nat):∀(j:Nat) (ls:List ai),(st.kg o j ls).length=ls.length
 |_,[]=>rfl
 |j,l::r=>by simp[St.kg,iX st o (j+1) r]
theorem EC(st:St)(o:Nat):∀(j:Nat) (l m:List ai),st.kg o j (l++m)=st.kg o j l++st.kg o (j+l.length) m
 |_,[],m=>by simp[St.kg]
 |j,x::l,m=>by simp only[a4a,St.kg,aAa];rw[EC st o (j+1) l m,show j+1+l.length=j+(l.length+1) by omega]
structure Gh.Le(G G':Gh)(k:Bool)(x:Nat):Prop where
 S:∀ b o,G.S b=some o→G'.S b=some o
 φ:∀ o,(k=false→o≠x)→G'.φ o=G.φ o
 pre:∀ o,(k=false→o≠x)→G'.pre o=G.pre o
 post:∀ o,(k=false→o≠x)→G'.post o=G.post o
 ψ:∀ a,(k=true→a≠x)→G'.ψ a=G.ψ a
 vn:∀ a,G'.vn a=G.vn a
 HV:∀ a,(k=true→a≠x)→G'.HV a=G.HV a
 ds:G'.ds=G.ds:=by rfl
theorem aY.le{G G':Gh}{k:Bool}{x:Nat}(h:G.Le G' k x){l:ai}{v:Value}(hm:l.dj k x=false)(r:aY G l v):aY G' l v:=by
 cases l with
 |any=>trivial
 |vb=>trivial
 |vU=>exact r
 |fy t d=>obtain⟨cs,e,hr⟩:=r;exact⟨cs,e,hr.mono h.S⟩
 |nil=>exact r
 |J7=>exact r
 |mX a=>
  have:G'.ψ a=G.ψ a:=h.ψ a (fun hk e=>by subst hk e;simp[ai.dj] at hm)
  simp only[aY,this];exact r
 |lB o off=>
  have ik:k=false→o≠x:=fun hk e=>by subst hk e;simp[ai.dj] at hm
  simp only[aY,h.φ o ik,h.pre o ik];exact r
 |DX a sz i off=>
  have:G'.ψ a=G.ψ a:=h.ψ a (fun hk e=>by subst hk e;simp[ai.dj] at hm)
  simp only[aY,this];exact r
 |E5 a vr sz i off=>
  have ik:k=true→a≠x:=fun hk e=>by subst hk e;simp[ai.dj] at hm
  exact vX.AB r (h.ψ a ik) (by rw[h.vn];exact axa _) (fun v _=>by rw[h.HV a ik])
 |nse a vr sz i off sz2 j To=>
  have ik:k=true→a≠x:=fun hk e=>by subst hk e;simp[ai.dj] at hm
  obtain⟨b2,J1,Lf,h1,h2⟩:=r;exact⟨b2,J1,Lf,h1.AB (h.ψ a ik) (by rw[h.vn];exact axa _) (fun v _=>by rw[h.HV a ik]),h2⟩
 |LP a kk n=>
  have:G'.ψ a=G.ψ a:=h.ψ a (fun hk e=>by subst hk e;simp[ai.dj] at hm)
  simp only[aY,this];exact r
 |Pa t d off=>obtain⟨b,arr,elem,fz,pre,cs,post,h1,h2,h3,h4⟩:=r;exact⟨b,arr,elem,fz,pre,cs,post,h.S _ _ h1,h2,h3.mono h.S,h4⟩
 |fn f=>exact r
 |ga t l=>obtain⟨b,arr,elem,fz,cs,rest,h1,h2,h3,h4⟩:=r;exact⟨b,arr,elem,fz,cs,rest,h.S _ _ h1,h2,h3.imp fun _ _ _ h'=>h'.mono h.S,h4⟩
theorem BW{G G':Gh}{k:Bool}{x:Nat}(h:G.Le G' k x){ls:List ai}{vs:List Value}(hm:ls.any (ai.dj k x)=false)(r:All2 (aY G) ls vs):All2 (aY G') ls vs:=
 r.vp fun l v hl hr=>hr.le h (by
  have:=aTa.1 hm l hl;simpa using this)
theorem aU.le{G G':Gh}{k:Bool}{x:Nat}(h:G.Le G' k x){a:af}{v:Value}(hm:a.dj k x=false)(r:aU G a v):aU G' a v:=by
 cases a with
 |one l=>exact aY.le h hm r
 |agg ls=>obtain⟨cs,e,hr⟩:=r;exact⟨cs,e,BW h hm hr⟩
 |KN vs=>
  obtain⟨us,e,hr⟩:=r;refine⟨us,e,hr.vp fun p u hp Nb=>?_⟩;have hm':p.2.any (ai.dj k x)=false:=by have:=aTa.1 hm p hp;simpa using this
  split at Nb
  ·rename_i hc;simp only[hc,ava];obtain⟨cs,e,hr⟩:=Nb;exact⟨cs,e,BW h hm' hr⟩
  ·rename_i hc
   obtain⟨l,e,hr⟩:=Nb;simp only[bCa] at hc;simp only[hc,asa,aka];exact⟨l,e,hr.le h (by rw[e] at hm';simpa using hm')⟩
 |Au t ls=>obtain⟨u,cs,e1,e2,hr⟩:=r;exact⟨u,cs,e1,e2,BW h hm hr⟩
theorem kA.imp{α:Type}{RL RL':List Value→List α→gz→Prop}{sz:Nat}{cs:List Value}{l:List α}{H:gz}(f:∀ c H,RL c l H→RL' c l H)(h:kA RL sz cs l H):kA RL' sz cs l H:=by
 rcases h with h|⟨b,cap,arr,elem,cells,rest,H',e1,e2,e3,e4,e5,e6⟩
 ·exact .inl h
 ·exact .inr ⟨b,cap,arr,elem,cells,rest,H',e1,e2,e3,e4,e5,f _ _ e6⟩
theorem BV.imp{α:Type}{S S':Du}{RL RL':List Value→List α→gz→Prop}{cs:List Value}{l:List α}{H:gz}(hS:∀ b o,S b=some o→S' b=some o)(f:∀ c H,RL c l H→RL' c l H)(h:BV S RL cs l H):BV S' RL' cs l H:=by
 rcases h with ⟨e,h1|⟨b,cap,arr,elem,fz,pre,cells,rest,q1,q2,q3,q4,q5⟩⟩
 ·exact⟨e,.inl h1⟩
 ·exact⟨e,.inr ⟨b,cap,arr,elem,fz,pre,cells,rest,q1,hS _ _ q2,q3,f _ _ q4,q5⟩⟩
theorem RepL.El{S S':Du}(hS:∀ b o,S b=some o→S' b=some o){m:Bool}{t:Ty}{cs:List Value}{l:List t.nM}{H:gz}(h:RepL (gy S m t) cs l H):RepL (gy S' m t) cs l H:=h.imp fun _ _ _ h=>h.mono hS
theorem pj.mono{G G':Gh}{a a':Nat}{A:jV}(hS:∀ b o,G.S b=some o→G'.S b=some o)(hψ:G'.ψ a' = G.ψ a)(hH:G'.HA a' = G.HA a)
  (hl:∀ i o,A.md=.Ds i o→G'.φ o=G.φ o∧G'.pre o=G.pre o∧G'.post o=G.post o) (h:pj G a A):pj G' a' A:=by
 unfold pj at h ⊢;rw[hψ,hH];split
 ·rename_i hs
  simp only[hs,ava] at h;exact h.imp hS fun c H h=>h.El hS
 ·rename_i hs
  simp only[hs,aka,asa] at h;split
  ·rename_i hm;simp only[hm] at h;exact h.imp fun c H h=>h.El hS
  ·rename_i hm;simp only[hm] at h;exact h.imp fun c H h=>h.El hS
  ·rename_i i o hm
   simp only[hm] at h;obtain⟨e1,e2,e3⟩:=hl i o hm;rw[e1,e2,e3];obtain⟨cap,Hp,Hq,rest,I1,q1,q2,q3,q4,q5,q6,q7,q8,q9⟩:=h;exact⟨cap,Hp,Hq,rest,I1,q1,q2,q3,q4,q5,q6,q7,q8.El hS,q9.El hS⟩
  ·rename_i hm
   simp only[hm] at h;obtain⟨r,es,yv,e1,e2,e3⟩:=h;exact⟨r,es,yv,e1,e2,e3.El hS⟩
  ·rename_i i off hm
   simp only[hm] at h;obtain⟨b,cap,arr,elem,cells,rest,H',q1,q2,q3,q4,q5,q6,q7,q8,q9⟩:=h;exact⟨b,cap,arr,elem,cells,rest,H',q1,q2,q3,q4,q5,q6,q7,q8,q9.El hS⟩
  ·rename_i hm
   simp only[hm] at h;obtain⟨b,arr,elem,e1,e2,e3⟩:=h;exact⟨b,arr,elem,e1,e2,e3.El hS⟩
theorem ig{G:Gh}{a:Nat}{A:jV}(hs:A.sh=false)(hw:A.gK=true):pj G a A↔kA (RepL (gy G.S A.bA A.t)) A.t.size [G.ψ a] A.l (G.HA a):=by obtain⟨At,md,sh,Al⟩:=A;simp only at hs;subst hs;cases md<;>simp[jV.gK] at hw<;>rfl
theorem Kq{G:Gh}{a:Nat}{t:Ty}{l:List t.nM}:pj G a ⟨t,.eL,false,l⟩↔kA (RepL (gy G.S false t)) t.size [G.ψ a] l (G.HA a):=Iff.rfl
theorem xQ{G:Gh}{a:Nat}{A:jV}(hs:A.sh=true):pj G a A↔BV G.S (RepL (gy G.S false A.t)) [G.ψ a] A.l []:=by unfold pj;rw[a8a hs]
theorem Md.xy{m m':Md}(h:m.lK m' = true):m=m':=by cases m<;>cases m'<;>simp_all[Md.lK]
theorem GM{G:Gh}{a:Nat}{A:jV}(hs:A.sh=false)(hm:A.md=.arr)(h:pj G a A):Vv (RepL (gy G.S false A.t)) (G.ψ a) A.l (G.HA a):=by unfold pj at h;simpa[hs,hm] using h
theorem ET{A:jV}(h:A.bA=false):A.md=.eL:=by obtain⟨At,md,sh,Al⟩:=A;cases md<;>simp[jV.bA] at h;rfl
theorem DZ{A:jV}(h:A.bA=false):A.gK=true:=by have:=ET h;simp[jV.gK,this]
theorem H9{G:Gh}{a:Nat}{A:jV}(hs:A.sh=false)(hm:A.UL=false)(h:pj G a A):(A.l=[]∧G.ψ a=.slice none 0 0)∨∃ b cap,G.ψ a=.slice (some ⟨b,0,none⟩) A.l.length cap:=by
 have gK:∀{RL:List Value→List A.t.nM→gz→Prop} {sz:Nat} {H:gz},kA RL sz [G.ψ a] A.l H→(A.l=[]∧G.ψ a=.slice none 0 0)∨∃ b cap,G.ψ a=.slice (some ⟨b,0,none⟩) A.l.length cap:=fun {RL sz H} h=>by
  rcases h with ⟨e1,e2,e3⟩|⟨b,cap,arr,elem,cells,rest,H',e1,_⟩
  ·simp only[aJa,a7a] at e3;exact .inl ⟨e1,e3⟩
  ·simp only[aJa,a7a] at e1;exact .inr ⟨b,cap,e1⟩
 unfold pj at h;rw[aBa (by simp[hs])] at h
 split at h
 ·exact gK h
 ·exact gK h
 ·obtain⟨cap,Hp,Hq,rest,I1,e,_⟩:=h;exact .inr ⟨_,cap,e⟩
 ·rename_i e;simp[jV.UL,e] at hm
 ·obtain⟨b,cap,arr,elem,cells,rest,H',e,_⟩:=h;exact .inr ⟨b,cap,e⟩
 ·rename_i e;simp[jV.UL,e] at hm
end Go.Fx
namespace Go.Fx
structure Gh.Mn(G G':Gh):Prop where
 S:∀ b o,G.S b=some o→G'.S b=some o
 φ:G'.φ=G.φ
 pre:G'.pre=G.pre
 post:G'.post=G.post
 ψ:G'.ψ=G.ψ
 HA:G'.HA=G.HA
 vn:G'.vn=G.vn
 HV:G'.HV=G.HV
 ds:G'.ds=G.ds
theorem Gh.Mn.refl(G:Gh):G.Mn G:=⟨fun _ _ h=>h,rfl,rfl,rfl,rfl,rfl,rfl,rfl,rfl⟩
theorem Gh.Mn.trans{G G' G'':Gh}(h:G.Mn G')(k:G'.Mn G''):G.Mn G'':=
 ⟨fun b o e=>k.S b o (h.S b o e),k.φ.trans h.φ,k.pre.trans h.pre,k.post.trans h.post,k.ψ.trans h.ψ,k.HA.trans h.HA,k.vn.trans h.vn,k.HV.trans h.HV,k.ds.trans h.ds⟩
theorem aY.sub{G G':Gh}(h:G.Mn G'){l:ai}{v:Value}(r:aY G l v):aY G' l v:=by
 cases l with
 |any=>trivial
 |vb=>trivial
 |vU=>exact r
 |fy t d=>obtain⟨cs,e,hr⟩:=r;exact⟨cs,e,hr.mono h.S⟩
 |nil=>exact r
 |J7=>exact r
 |mX a=>simp only[aY,h.ψ];exact r
 |lB o off=>simp only[aY,h.φ,h.pre];exact r
 |DX a sz i off=>simp only[aY,h.ψ];exact r
 |Pa t d off=>obtain⟨b,arr,elem,fz,pre,cs,post,h1,h2,h3,h4⟩:=r;exact⟨b,arr,elem,fz,pre,cs,post,h.S _ _ h1,h2,h3.mono h.S,h4⟩
 |fn f=>exact r
 |E5 a vr sz i off=>exact vX.AB r (by rw[h.ψ]) (by rw[h.vn];exact axa _) (fun v _=>by rw[h.HV])
 |nse a vr sz i off sz2 j To=>obtain⟨b2,J1,Lf,h1,h2⟩:=r;exact⟨b2,J1,Lf,h1.AB (by rw[h.ψ]) (by rw[h.vn];exact axa _) (fun v _=>by rw[h.HV]),h2⟩
 |LP a kk n=>simp only[aY,h.ψ];exact r
 |ga t l=>obtain⟨b,arr,elem,fz,cs,rest,h1,h2,h3,h4⟩:=r;exact⟨b,arr,elem,fz,cs,rest,h.S _ _ h1,h2,h3.imp fun _ _ _ h'=>h'.mono h.S,h4⟩
theorem aU.sub{G G':Gh}(h:G.Mn G'){a:af}{v:Value}(r:aU G a v):aU G' a v:=by
 cases a with
 |one l=>exact aY.sub h r
 |agg ls=>obtain⟨cs,e,hr⟩:=r;exact⟨cs,e,hr.imp fun _ _=>aY.sub h⟩
 |KN vs=>
  obtain⟨us,e,hr⟩:=r;refine⟨us,e,hr.imp fun p u Nb=>?_⟩;split at Nb
  ·rename_i hc;simp only[hc,ava];obtain⟨cs,e,hr⟩:=Nb;exact⟨cs,e,hr.imp fun _ _=>aY.sub h⟩
  ·rename_i hc
   obtain⟨l,e,hr⟩:=Nb;simp only[bCa] at hc;simp only[hc,asa,aka];exact⟨l,e,hr.sub h⟩
 |Au t ls=>obtain⟨u,cs,e1,e2,hr⟩:=r;exact⟨u,cs,e1,e2,hr.imp fun _ _=>aY.sub h⟩
theorem bQ.sub{G G':Gh}(h:G.Mn G'){st st':St}(hn:st'.n=st.n)(xC:∀ i,st'.iz i=st.iz i){a:Act}(r:bQ G st a):bQ G' st' a:=
 ⟨r.1.trans h.ds.symm,r.2.1.trans hn.symm,fun i v hv=>(r.2.2 i v (by rw[←xC i];exact hv)).sub h⟩
structure rQ(st st':St):Prop where
 n:st'.n=st.n
 iz:∀ i,st'.iz i=st.iz i
 dT:∀ o,st'.dT o=st.dT o
 res:∀ o j l,st'.res o j l=st.res o j l
 bl:st'.cK=st.cK
 pn:st'.pin=st.pin
 vr:st'.EM=st.EM
theorem rQ.refl(st:St):rQ st st:=⟨rfl,fun _=>rfl,fun _=>rfl,fun _ _ _=>rfl,rfl,rfl,rfl⟩
theorem rQ.trans{a b c:St}(h:rQ a b)(k:rQ b c):rQ a c:=
 ⟨k.n.trans h.n,fun i=>(k.iz i).trans (h.iz i),fun o=>(k.dT o).trans (h.dT o),fun o j l=>(k.res o j l).trans (h.res o j l),k.bl.trans h.bl,k.pn.trans h.pn,k.vr.trans h.vr⟩
theorem UY{H:gz}(hn:(H.map (·.1)).Nodup){p:Nat×Obj}(hp:p∈H):H.find? (fun q=>q.1==p.1)=some p:=by
 induction H with
 |nil=>cases hp
 |cons q H ih=>
  simp only[aHa,a3a] at hn;rcases ala.1 hp with rfl|hp
  ·simp
  ·have ik:q.1≠p.1:=fun e=>hn.1 (by rw[e];exact aIa hp)
   simp[ik,ih hn.2 hp]
theorem Qp{X:mW}{st st':St}{G:Gh}{w:World}{l:ai}(h:st.zd l=some st')(hm:aB X st G w):
  ∃ G',aB X st' G' w∧G.Mn G'∧rQ st st':=by
 have aed:st' = st→∃ G',aB X st' G' w∧G.Mn G'∧rQ st st':=fun e=>by subst e;exact⟨G,hm,.refl G,.refl _⟩
 cases l with
 |mX a=>
  simp only[St.zd] at h;cases hA:look st.cT a with
  |none=>
   simp only[hA] at h;cases hB:look st.gc a with
   |none=>simp[hB] at h
   |some A=>cases hs:A.sh<;>simp[hB,hs] at h;exact aed h.symm
  |some A=>
   simp only[hA] at h;cases hs:A.sh with
   |true=>simp[hs] at h;exact aed h.symm
   |false=>
    cases hw:A.gK with
    |false=>simp[hs,hw] at h
    |true=>
    simp only[hs,hw,aoa,aja,Ob] at h;subst h;have px:st.arr a=some A:=by simp[St.arr,hA]
    have jK:∀ p∈G.HA a,fq G st (true,a) p.1:=fun p hp=>⟨⟨A,px,hs⟩,p,hp,rfl⟩;have Iv:=hm.nd a A px hs;let S':Du:=fun b=>match (G.HA a).find? (fun q=>q.1==b) with|some p=>some p.2|none=>G.S b
    have hS':∀ p∈G.HA a,S' p.1=some p.2:=fun p hp=>by simp only[S',UY Iv hp]
    have hSS:∀ b o,G.S b=some o→S' b=some o:=fun b o hb=>by
     simp only[S'];cases hf:(G.HA a).find? (fun q=>q.1==b) with
     |none=>exact hb
     |some p=>
      have hp:=b1a hf;have hpb:p.1=b:=by simpa using cxa hf
      have:=hm.dS _ _ (jK p hp);rw[hpb,hb] at this;cases this
    have hSc:∀ b o,S' b=some o→G.S b=some o∨(b,o)∈G.HA a:=fun b o hb=>by
     simp only[S'] at hb;cases hf:(G.HA a).find? (fun q=>q.1==b) with
     |none=>rw[hf] at hb;exact .inl hb
     |some p=>
      rw[hf] at hb;have hp:=b1a hf;have hpb:p.1=b:=by simpa using cxa hf
      cases hb;subst hpb;exact .inr hp
    have qa:G.Mn {G with S:=S' }:=⟨hSS,rfl,rfl,rfl,rfl,rfl,rfl,rfl,rfl⟩
    have nW:∀ x b,fq {G with S:=S' } (st.gW a {A with sh:=true}) x b→fq G st x b∧x≠(true,a):=fun x b hx=>by
     obtain⟨k,n⟩:=x;cases k with
     |false=>exact⟨hx,by simp⟩
     |true=>
      obtain⟨⟨B,hB,JR⟩,hp⟩:=hx;rw[dM] at hB;by_cases e:a=n
      ·simp only[e,ava,Ob] at hB;rw[←hB] at JR;cases JR
      ·simp only[e,aka] at hB
       exact⟨⟨⟨B,hB,JR⟩,hp⟩,by simp;exact fun h=>e h.symm⟩
    refine⟨{G with S:=S' },?_,qa,⟨rfl,fun _=>rfl,fun _=>rfl,fun o j l=>by simp,rfl,rfl,rfl⟩⟩
    refine {sl:=hm.sl,sh:=?_,ob:=?_,ar:=?_,ah:=?_,nd:=?_,qw:=?_,dS:=?_,ua:=?_,s0:=?_,sn:=?_,fr:=hm.fr,sz:=hm.sz,os:=hm.os,tp:=hm.tp,out:=hm.out,pin:=hm.pin,bv:=hm.bv,ap:=fun q u h=>(by obtain⟨h1,⟨B,h2⟩,h3⟩:=hm.ap q u h;exact⟨h1,(by rw[dM];split<;>exact⟨_,by first|rfl|exact h2⟩),h3⟩),hv:=hm.hv,ds:=hm.ds,hh:=fun q B hB Ca hn=>(by
     rw[dM] at hB;by_cases e:a=q
     ·simp only[e,ava,Ob] at hB;rw[←hB] at Ca;cases Ca
     ·simp only[e,aka] at hB;exact hm.hh q B hB Ca hn)}
    ·intro b o hb
     rcases hSc b o hb with h|h
     ·exact hm.sh b o h
     ·exact hm.ah a A px hs _ h
    ·intro o ls ho
     obtain⟨arr,elem,mid,h1,h2,h3⟩:=hm.ob o ls ho;refine⟨arr,elem,mid,h1,h2,?_⟩;unfold ix at h3 ⊢;rw[kh (st:=st) (fun j l=>by simp)]
     exact h3.imp fun _ _=>aY.sub qa
    ·intro b B hB
     rw[dM] at hB;by_cases e:a=b
     ·subst e
      simp only[ava,Ob] at hB;subst hB;have h0:=hm.ar a A px
      replace h0:=(ig hs hw).1 h0
      refine(xQ rfl).2 ?_;rcases h0 with ⟨h1,h2,h3⟩|⟨b,cap,arr,elem,cells,rest,H',e1,e2,e3,e4,e5,e6⟩
      ·exact⟨rfl,.inl ⟨h1,none,0,h3⟩⟩
      ·refine⟨rfl,.inr ⟨b,cap,arr,elem,(0,0),[],cells,rest,e1,hS' (b,Obj.cells arr elem (0,0)) (by rw[e2];simp),e3,?_,e5⟩⟩
       exact e6.C8 (S':=S') (fun c x H hp hr=>gy.C8 hSS hp hr) (fun p hp=>hS' p (by rw[e2];simp[hp]))
     ·simp only[e,aka] at hB
      exact(hm.ar b B hB).mono hSS rfl rfl (fun _ _ _=>⟨rfl,rfl,rfl⟩)
    ·intro b B hB JR
     rw[dM] at hB;by_cases e:a=b
     ·simp only[e,ava,Ob] at hB;rw[←hB] at JR;cases JR
     ·simp only[e,aka] at hB;exact hm.ah b B hB JR
    ·intro b B hB JR
     rw[dM] at hB;by_cases e:a=b
     ·simp only[e,ava,Ob] at hB;rw[←hB] at JR;cases JR
     ·simp only[e,aka] at hB;exact hm.nd b B hB JR
    ·exact fun x y b hx hy=>hm.qw x y b (nW x b hx).1 (nW y b hy).1
    ·intro x b hx
     obtain⟨h1,h2⟩:=nW x b hx;cases hS:S' b with
     |none=>exact hS
     |some o=>
      rcases hSc b o hS with h|h
      ·rw[hm.dS x b h1] at h;cases h
      ·exact absurd (hm.qw x (true,a) b h1 (jK (b,o) h)) h2
    ·exact fun x b hx=>hm.ua x b (nW x b hx).1
    ·exact fun b o hb=>hSS b o (hm.s0 b o hb)
    ·intro b o hb
     rcases hSc b o hb with h|h
     ·exact hm.sn b o h
     ·exact .inr (hm.ua _ _ (jK (b,o) h))
 |_=>simp only[St.zd,Ob] at h;exact aed h.symm
theorem Fb{X:mW}{w:World}:∀{ls:List ai} {st st':St} {G:Gh},st.vF ls=some st'→aB X st G w→
  ∃ G',aB X st' G' w∧G.Mn G'∧rQ st st'
 |[],st,st',G,h,hm=>by simp only[St.vF,Ob] at h;subst h;exact⟨G,hm,.refl G,.refl _⟩
 |l::ls,st,st',G,h,hm=>by
  simp only[St.vF] at h;cases h1:st.zd l with
  |none=>simp[h1] at h
  |some wR=>simp only[h1] at h;obtain⟨G1,m1,s1,k1⟩:=Qp h1 hm;obtain⟨G2,m2,s2,k2⟩:=Fb h m1;exact⟨G2,m2,s1.trans s2,k1.trans k2⟩
theorem Fc{X:mW}{w:World}{v:af}{st st':St}{G:Gh}(h:v.qR st=some st')(hm:aB X st G w):
  ∃ G',aB X st' G' w∧G.Mn G'∧rQ st st':=by
 cases v with
 |one l=>exact Qp h hm
 |agg ls=>exact Fb h hm
 |KN vs=>cases h
 |Au t ls=>exact Fb h hm
end Go.Fx
namespace Go.Fx
def KdV:Kd→Value→Prop
 |.int k,v=>∃ n,v=.int k n
 |.bool,v=>∃ b,v=.bool b
 |.str,v=>∃ s,v=.string s
def DV:Value→Value→Bool
 |.int _ a,.int _ b=>a==b
 |.bool a,.bool b=>a==b
 |.string a,.string b=>a==b
 |_,_=>false
def wa:List Value→List Value→Bool
 |x::r,y::s=>DV x y&&wa r s
 |_,_=>true
def Xb(P:Program)(f:TypeId→Option (List Kd)):List Field→Option (List Kd)
 |[]=>some []
 |fl::r=>(match f fl.type,Xb P f r with
  |some ks,some l=>(bif fl.name != "_" && Nat.beq (P.cellsOf fl.type) ks.length&&Nat.blt 0 ks.length then some (ks++l) else none)
  |_,_=>none)
def Xw(P:Program):List Field→Nat→Bool
 |[],_=>true
 |fl::r,o=>Nat.beq fl.offset o&&Xw P r (o+P.cellsOf fl.type)
def CY(P:Program):Nat→TypeId→Option (List Kd)
 |0,_=>none
 |m+1,t=>(match P.underlying t with
  |some .bool=>some [.bool]
  |some (.int k)=>some [.int k]
  |some .string=>some [.str]
  |some (.struct fs)=>(bif !P.stoodInHeld t&&Xw P fs.toList 0 then Xb P (CY P m) fs.toList else none)
  |_=>none)
def IsV(P:Program)(t:TypeId)(xs:List Value)(x:Value):Prop:=
 match P.underlying t with
 |some (.struct _)=>x=.agg xs.toArray
 |_=>xs=[x]
section
variable {P:Program} (w:World)
theorem Wm{m:Nat}{e:TypeId}{ks:List Kd}(h:CY P m e=some ks)(hc:P.cellsOf e=ks.length){xs:Array Value}{off:Nat}(hl:off+ks.length≤xs.size):
  ∃ a,(part e xs off).run P w=.ok a w∧IsV P e ((xs.toList.drop off).take ks.length) a:=by
 cases m with
 |zero=>cases h
 |succ m=>
  simp only[CY] at h;have Ay:∀{d:TypeDesc},P.underlying e=some d→ks.length=1→(∀ fs,d≠.struct fs)→(isAgg e).run P w=.ok false w→∃ a,(part e xs off).run P w=.ok a w∧IsV P e ((xs.toList.drop off).take ks.length) a:=fun {d} hu h1 hs hg=>by
   have bf:off<xs.size:=by omega
   refine⟨xs[off],?_,?_⟩
   ·simp[part,hg,bf]
   ·unfold IsV
    rw[hu];cases d<;>first|exact absurd rfl (hs _)|(simp only[];rw[h1];apply bKa;intro i;cases i with
     |zero=>simp[bf]
     |succ i=>simp;omega)
  split at h
  ·rename_i hu;cases h;exact Ay hu rfl (fun fs e=>by cases e) (by simp[isAgg,aEa hu])
  ·rename_i k hu;cases h;exact Ay hu rfl (fun fs e=>by cases e) (by simp[isAgg,aEa hu])
  ·rename_i hu;cases h;exact Ay hu rfl (fun fs e=>by cases e) (by simp[isAgg,aEa hu])
  ·rename_i fs hu
   obtain⟨i,hi⟩:=info_of_underlying hu;refine⟨.agg (xs.extract off (off+P.cellsOf e)),by simp[part,isAgg,aEa hu,run_sizeOf w hi],?_⟩
   unfold IsV;rw[hu];simp only[];rw[hc]
   congr 1
   apply Array.toList_inj.1;rw[Array.toList_extract];simp[List.extract]
  ·cases h
theorem H6:∀{xs ys xs' ys':List Value},xs.length=ys.length→wa (xs++xs') (ys++ys')=(wa xs ys&&wa xs' ys')
 |[],[],_,_,_=>by simp[wa]
 |x::r,y::s,xs',ys',h=>by simp only[a4a,wa,H6 (xs:=r) (ys:=s) (by simpa using h),Bool.and_assoc]
 |[],_::_,_,_,h=>by simp at h
 |_::_,[],_,_,h=>by simp at h
def Vx(P:Program)(m:Nat):Prop:=∀(t:TypeId) (ks:List Kd),CY P m t=some ks→∀(d:Nat) (w:World) (x y:Value) (xs ys:List Value),All2 KdV ks xs→All2 KdV ks ys→IsV P t xs x→IsV P t ys y→
 (Op.equalIn (d+m) t x y).run P w=.ok (wa xs ys) w
theorem Jt{α β:Type}{R:α→β→Prop}:∀{ks ls:List α} {xs:List β},All2 R (ks++ls) xs→All2 R ks (xs.take ks.length)∧All2 R ls (xs.drop ks.length)
 |[],ls,xs,h=>⟨by simp[All2],by simpa using h⟩
 |k::ks,ls,x::xs,h=>by obtain⟨h1,h2⟩:=h;obtain⟨h3,h4⟩:=Jt (ks:=ks) h2;exact⟨⟨h1,by simpa using h3⟩,by simpa using h4⟩
 |k::ks,ls,[],h=>h.elim
theorem Pv{m d:Nat}(ih:Vx P m)(xs ys:Array Value):∀{fs:List Field} {off:Nat} {ks:List Kd},Xb P (CY P m) fs=some ks→Xw P fs off=true→All2 KdV ks (xs.toList.drop off)→All2 KdV ks (ys.toList.drop off)→
  (Op.eqFields (d+m) xs ys fs).run P w=.ok (wa (xs.toList.drop off) (ys.toList.drop off)) w
 |[],off,ks,h,_,hx,hy=>by
  cases h;have e1:xs.toList.drop off=[]:=by cases hq:xs.toList.drop off with
   |nil=>rfl
   |cons a r=>rw[hq] at hx;exact hx.elim
  rw[e1];simp[Op.eqFields,wa]
 |f::r,off,ks,h,ho,hx,hy=>by
  simp only[Xb] at h;split at h
  ·rename_i k1 k2 h1 h2
   cases hb:(f.name != "_" && Nat.beq (P.cellsOf f.type) k1.length&&Nat.blt 0 k1.length) with
   |false=>rw[hb] at h;cases h
   |true=>
    rw[hb] at h;cases h;simp only[Q3,a1a] at hb;obtain⟨⟨hn,hc⟩,t6⟩:=hb;have t6:0<k1.length:=by simpa[b5a] using t6
    have hc:=Q4 hc;simp only[Xw,Q3] at ho;obtain⟨ho1,ho2⟩:=ho;have ho1:=Q4 ho1;obtain⟨x1,x2⟩:=Jt hx;obtain⟨y1,y2⟩:=Jt hy;rw[cma] at x2 y2;have lx:off+k1.length≤xs.size:=by have:=All2.length hx;simp at this;omega
    have ly:off+k1.length≤ys.size:=by have:=All2.length hy;simp at this;omega
    obtain⟨a,p1,v1⟩:=Wm w h1 hc (xs:=xs) (off:=off) lx;obtain⟨b,p2,v2⟩:=Wm w h1 hc (xs:=ys) (off:=off) ly;have he:=ih f.type k1 h1 d w a b _ _ x1 y1 v1 v2;rw[hc] at ho2;have ht:=Pv (d:=d) ih xs ys (fs:=r) (off:=off+k1.length) h2 ho2 x2 y2;have e3:xs.toList.drop off=(xs.toList.drop off).take k1.length++xs.toList.drop (off+k1.length):=by rw[←cma,bOa]
    have e4:ys.toList.drop off=(ys.toList.drop off).take k1.length++ys.toList.drop (off+k1.length):=by rw[←cma,bOa]
    have hl:((xs.toList.drop off).take k1.length).length=((ys.toList.drop off).take k1.length).length:=by rw[←All2.length x1,←All2.length y1]
    rw[e3,e4,H6 hl];simp only[Op.eqFields,hn,ne_eq,not_false_eq_true,ava,aNa,ho1,p1,p2,he,aFa];cases wa ((xs.toList.drop off).take k1.length) ((ys.toList.drop off).take k1.length) with
    |false=>simp
    |true=>simpa using ht
  ·cases h
theorem VQ:∀ m,Vx P m
 |0=>fun t ks h=>by cases h
 |m+1=>fun t ks h d w x y xs ys hx hy vx vy=>by
  simp only[CY] at h;unfold IsV at vx vy;split at h
  ·rename_i hu
   cases h;rw[hu] at vx vy;simp only at vx vy;subst vx vy;obtain⟨⟨a,rfl⟩,_⟩:=hx;obtain⟨⟨b,rfl⟩,_⟩:=hy;rw[←bNa,Op.equalIn];simp[aEa hu,wa,DV]
  ·rename_i k hu
   cases h;rw[hu] at vx vy;simp only at vx vy;subst vx vy;obtain⟨⟨a,rfl⟩,_⟩:=hx;obtain⟨⟨b,rfl⟩,_⟩:=hy;rw[←bNa,Op.equalIn];simp[aEa hu,wa,DV]
  ·rename_i hu
   cases h;rw[hu] at vx vy;simp only at vx vy;subst vx vy;obtain⟨⟨a,rfl⟩,_⟩:=hx;obtain⟨⟨b,rfl⟩,_⟩:=hy;rw[←bNa,Op.equalIn];simp[aEa hu,wa,DV]
  ·rename_i fs hu
   cases hb:(!P.stoodInHeld t&&Xw P fs.toList 0) with
   |false=>rw[hb] at h;cases h
   |true=>
    rw[hb] at h;simp only[Q3,aOa] at hb;simp only[aja] at h;rw[hu] at vx vy;simp only at vx vy;subst vx vy;have hfs:P.fieldsOf t=fs:=by simp[Program.fieldsOf,hu]
    rw[←bNa,run_equalIn_struct w (d+m) t _ _ (by rw[hfs];exact hu) hb.1,hfs]
    have:=Pv w (d:=d) (VQ m) xs.toArray ys.toArray h hb.2 (by simpa using hx) (by simpa using hy)
    simpa using this
  ·cases h
theorem SW:∀{m:Nat} {t:TypeId} {ks:List Kd},CY P m t=some ks→∀ d,P.eqGuardType (d+m) t=false
 |0,t,ks,h,d=>by cases h
 |m+1,t,ks,h,d=>by
  simp only[CY] at h;rw[←bNa,Program.eqGuardType];split at h
  ·rename_i hu;simp[hu]
  ·rename_i k hu;simp[hu]
  ·rename_i hu;simp[hu]
  ·rename_i fs hu
   simp only[hu];cases hb:(!P.stoodInHeld t&&Xw P fs.toList 0) with
   |false=>rw[hb] at h;cases h
   |true=>
    rw[hb] at h;simp only[aja] at h;have key:∀{l:List Field} {ks:List Kd},Xb P (CY P m) l=some ks→∀ f∈l,P.eqGuardType (d+m) f.type=false:=by
     intro l;induction l with
     |nil=>intro ks _ f hf;cases hf
     |cons f r ih=>
      intro ks h g hg;simp only[Xb] at h;split at h
      ·rename_i k1 k2 h1 h2
       rcases ala.1 hg with rfl|hg
       ·exact SW h1 d
       ·exact ih h2 g hg
      ·cases h
    rw[Array.any_eq_false'];intro f hf;simp[key h f (Array.mem_toList_iff.2 hf)]
  ·cases h
end
end Go.Fx
namespace Go.Fx
def zn:TD→TypeDesc→Prop
 |.int k,.int k'=>k=k'
 |.bool,.bool=>True
 |.str,.string=>True
 |.slice e,.slice e'=>e=e'
 |.struct fs,.struct oq=>fs=oq.toList.map fun f=>(f.offset,f.type)
 |.lB e,.pointer e'=>e=e'
 |.arr n e,.array n' e'=>n=n'∧e=e'
 |.mp k v,.map k' v'=>k=k'∧v=v'
 |.ZQ,d=>d.isRow=false∧(match d with | .int _ | .string | .slice _=>False|_=>True)
 |_,_=>False
def Ai(P:Program)(t:TypeId)(ti:TI):Prop:=
 ∃ i d z,P.info? t=some i∧P.underlying t=some d∧i.size=ti.size∧i.bytes=ti.bytes∧i.zero=some z∧z.cells.toList=ti.zero∧zn ti.iS d∧
  (ti.iS.agg=false→ti.size=1)∧ti.zero.length=ti.size∧(∀ ks,ti.iS.agg=true→ti.ty.bind JZ=some ks→CY P 6 t=some ks)∧
  ∀ k v,ti.iS=.mp k v→P.underlying k=some .string∧P.underlying v=some (.int .i64)∧∃ j,P.info? v=some j∧j.zero=some (.int .i64 0)
def iQ(P:Program)(iK:Nat→Option TI):Prop:=∀ t ti,iK t=some ti→Ai P t ti
theorem zn.row{x:TD}{d:TypeDesc}(h:zn x d):d.isRow=x.agg:=by cases x<;>cases d<;>simp_all[zn,TypeDesc.isRow,TD.agg]
theorem VU{α:Type}{G:Gh}{R:List Value→α→gz→Prop}{f:α→List ai}(hf:∀ c x,R c x []→All2 (aY G) (f x) c):∀{l:List α} {cs:List Value} {H:gz},H=[]→RepL R cs l H→All2 (aY G) (l.flatMap f) cs
 |[],cs,H,_,h=>by rw[h.1];trivial
 |x::l,cs,H,hH,⟨c1,c2,H1,H2,e1,e2,r,rl⟩=>by obtain⟨rfl,rfl⟩:=bYa.1 (hH ▸ e2.symm:H1++H2=[]);rw[e1,bSa];exact(hf _ _ r).append (VU hf rfl rl)
theorem lY{G:Gh}:∀{t:Ty} {d:t.nM} {cs:List Value},gy G.S false t cs d []→All2 (aY G) (ka t d) cs
 |.int k,d,cs,h=>by rw[h.1];exact⟨⟨_,by simp[Ty.agg],rfl,rfl⟩,trivial⟩
 |.bool,d,cs,h=>by rw[h.1];exact⟨⟨_,by simp[Ty.agg],rfl,rfl⟩,trivial⟩
 |.str,d,cs,h=>by rw[h.1];exact⟨⟨_,by simp[Ty.agg],rfl,rfl⟩,trivial⟩
 |.slice t,d,cs,h=>by
  have hs:=gy.size h
  match cs,hs,h with
  |[v],_,h=>exact⟨⟨[v],by simp[Ty.agg],h⟩,trivial⟩
 |.dg a b,d,cs,h=>by obtain⟨c1,c2,H1,H2,rfl,hH,h1,h2⟩:=h;obtain⟨rfl,rfl⟩:=bYa.1 hH.symm;exact(lY h1).append (lY h2)
 |.one a,d,cs,h=>by exact lY (t:=a) h
 |.arr n t,d,cs,h=>VU (fun c x hx=>lY (t:=t) hx) rfl h.1
theorem YO{X:mW}{st:St}{G:Gh}{w:World}(hm:aB X st G w){t:Ty}{l:ai}{d:t.nM}{v:Value}(h:l.vJ st t=some d)(r:aY G l v):aY G (.fy t d) v:=by
 cases l with
 |fy u e=>obtain⟨rfl,rfl⟩:=lX h;exact r
 |nil=>
  cases t with
  |slice t=>simp only[ai.vJ,Ob] at h;subst h;simp only[aY] at r;subst r;exact⟨_,by simp[Ty.agg],rfl,.inl ⟨rfl,none,0,rfl⟩⟩
  |_=>simp[ai.vJ] at h
 |mX a=>
  simp only[ai.vJ] at h;cases hA:st.arr a with
  |none=>simp[hA] at h
  |some A=>
   cases hs:A.sh with
   |false=>simp[hA,hs] at h
   |true=>
    simp only[hA,hs,ava] at h;obtain⟨e,hd⟩:=lX h;subst e;subst hd;have:=hm.ar a A hA
    replace this:=(xQ hs).1 this
    simp only[aY] at r;subst r;exact⟨[G.ψ a],by simp[Ty.agg],this⟩
 |_=>simp[ai.vJ] at h
theorem MW{X:mW}{st:St}{G:Gh}{w:World}(hm:aB X st G w){t:Ty}(ht:t.agg=false){l:ai}{d:t.nM}{v:Value}(h:l.vJ st t=some d)(r:aY G l v):
  gy G.S false t [v] d []:=by
 obtain⟨cs,e,hr⟩:=YO hm h r;simp only[ht,asa,aka] at e;subst e;exact hr
theorem Nk{X:mW}{st:St}{G:Gh}{w:World}(hm:aB X st G w):∀{t:Ty} {ls r:List ai} {d:t.nM} {vs:List Value},pC st t ls=some (d,r)→All2 (aY G) ls vs→
  ∃ c1 c2,vs=c1++c2∧gy G.S false t c1 d []∧All2 (aY G) r c2:=by
 have bR:∀{t:Ty},t.agg=false→∀{ls r:List ai} {d:t.nM} {vs:List Value},
   (match ls with|[]=>none|l::r=>(l.vJ st t).map fun d=>(d,r))=some (d,r)→All2 (aY G) ls vs→
   ∃ c1 c2,vs=c1++c2∧gy G.S false t c1 d []∧All2 (aY G) r c2:=by
  intro t ht ls r d vs h a
  match ls,vs,h,a with
  |l::ls,v::vs,h,a=>simp only[aKa,aia] at h;obtain⟨d',hd,rfl,rfl⟩:=h;exact⟨[v],vs,rfl,MW hm ht hd a.1,a.2⟩
  |[],_,h,_=>simp at h
 intro t;induction t with
 |int k=>exact fun h a=>bR rfl h a
 |bool=>exact fun h a=>bR rfl h a
 |str=>exact fun h a=>bR rfl h a
 |slice t _=>exact fun h a=>bR rfl h a
 |dg a b Nj ihb=>
  intro ls r d vs h al;simp only[pC] at h;cases h1:pC st a ls with
  |none=>simp[h1] at h
  |some p=>
   obtain⟨x,r1⟩:=p;simp only[h1] at h;cases h2:pC st b r1 with
   |none=>simp[h2] at h
   |some q=>obtain⟨y,r2⟩:=q;simp only[h2,Ob,aia] at h;obtain⟨rfl,rfl⟩:=h;obtain⟨c1,c2,rfl,g1,a1⟩:=Nj h1 al;obtain⟨c3,c4,rfl,g2,a2⟩:=ihb h2 a1;exact⟨c1++c3,c4,by simp,⟨c1,c3,[],[],rfl,rfl,g1,g2⟩,a2⟩
 |one a Nj=>intro ls r d vs h al;exact Nj h al
 |arr n t ih=>
  intro ls r d vs h al;have key:∀(n:Nat) {ls r:List ai} {d:List t.nM} {vs:List Value},PM (pC st t) n ls=some (d,r)→All2 (aY G) ls vs→
    ∃ c1 c2,vs=c1++c2∧(RepL (gy G.S false t) c1 d []∧d.length=n)∧All2 (aY G) r c2:=by
   intro n;induction n with
   |zero=>intro ls r d vs h al;simp only[PM,Ob,aia] at h;obtain⟨rfl,rfl⟩:=h;exact⟨[],vs,rfl,⟨⟨rfl,rfl⟩,rfl⟩,al⟩
   |succ n ihn=>
    intro ls r d vs h al;simp only[PM] at h;cases h1:pC st t ls with
    |none=>simp[h1] at h
    |some p=>
     obtain⟨x,r1⟩:=p;simp only[h1] at h;cases h2:PM (pC st t) n r1 with
     |none=>simp[h2] at h
     |some q=>obtain⟨y,r2⟩:=q;simp only[h2,Ob,aia] at h;obtain⟨rfl,rfl⟩:=h;obtain⟨c1,c2,rfl,g1,a1⟩:=ih h1 al;obtain⟨c3,c4,rfl,⟨g2,g3⟩,a2⟩:=ihn h2 a1;exact⟨c1++c3,c4,by simp,⟨⟨c1,c3,[],[],rfl,rfl,g1,g2⟩,by simp[g3]⟩,a2⟩
  exact key n h al
theorem DM{X:mW}{st:St}{G:Gh}{w:World}(hm:aB X st G w){t:Ty}{v:af}{d:t.nM}{x:Value}(h:v.vJ st t=some d)(r:aU G v x):aY G (.fy t d) x:=by
 cases v with
 |one l=>exact YO hm h r
 |agg ls=>
  simp only[af.vJ] at h;cases ht:t.agg with
  |false=>simp[ht] at h
  |true=>
   simp only[ht,aja] at h;cases hi:pC st t ls with
   |none=>simp[hi] at h
   |some p=>
    obtain⟨e,r'⟩:=p;cases r' with
    |cons=>simp[hi] at h
    |nil=>
     simp only[hi,Ob] at h;subst h;obtain⟨cs,rfl,ha⟩:=r;obtain⟨c1,c2,rfl,g1,a1⟩:=Nk hm hi ha;cases c2 with
     |cons=>exact a1.elim
     |nil=>exact⟨c1,by simp[ht],g1⟩
 |KN vs=>simp[af.vJ] at h
 |Au t' ls=>simp[af.vJ] at h
theorem SD{X:mW}{st:St}{G:Gh}{w:World}(hm:aB X st G w){l:ai}{v:Value}(hc:l.cell=true)(r:aY G l v):v.oneCell' = true∧v.cells = #[v]:=by
 cases l with
 |any=>cases hc
 |vb=>cases hc
 |vU=>cases hc
 |fy t d=>
  obtain⟨cs,e,hr⟩:=r;simp only[ai.cell,aOa] at hc;simp only[hc,asa,aka] at e;subst e;cases t with
  |int k=>cases hr.1;exact⟨rfl,rfl⟩
  |bool=>cases hr.1;exact⟨rfl,rfl⟩
  |str=>cases hr.1;exact⟨rfl,rfl⟩
  |slice t=>rcases hr with ⟨_,⟨_,iZ,cap,h⟩|⟨b,cap,arr,elem,fz,pre,cells,rest,h,_⟩⟩<;>cases h<;>exact⟨rfl,rfl⟩
  |dg a b=>cases hc
  |one a=>cases hc
  |arr n a=>cases hc
 |nil=>cases r;exact⟨rfl,rfl⟩
 |J7=>cases r;exact⟨rfl,rfl⟩
 |mX a=>rcases hm.sl a with ⟨b,n,c,h⟩|⟨q,h⟩|⟨q,h⟩<;>(simp only[aY] at r;rw[r,h];exact⟨rfl,rfl⟩)
 |lB o off=>cases r;exact⟨rfl,rfl⟩
 |DX a sz i off=>obtain⟨b,len,cap,h1,h2,rfl⟩:=r;exact⟨rfl,rfl⟩
 |Pa t d off=>obtain⟨b,arr,elem,fz,pre,cs,post,h1,h2,h3,rfl⟩:=r;exact⟨rfl,rfl⟩
 |fn f=>cases r;exact⟨rfl,rfl⟩
 |E5 a v sz i off=>obtain⟨_,⟨x,n,c,rfl⟩,_⟩:=r;exact⟨rfl,rfl⟩
 |nse a v sz i off sz2 j To=>obtain⟨b2,J1,Lf,_,_,rfl⟩:=r;exact⟨rfl,rfl⟩
 |LP a k n=>obtain⟨b,_,rfl⟩:=r;exact⟨rfl,rfl⟩
 |ga t l=>obtain⟨b,arr,elem,fz,cs,rest,h1,h2,h3,rfl⟩:=r;exact⟨rfl,rfl⟩
theorem mU{X:mW}{st:St}{G:Gh}{w:World}(hm:aB X st G w){v:af}{ls:List ai}{x:Value}(h:v.qc=some ls)(r:aU G v x):All2 (aY G) ls x.cells.toList:=by
 have key:∀ l:ai,v=.one l→l.cell=true→ls=[l]→All2 (aY G) ls x.cells.toList:=fun l hv hc hl=>by subst hv hl;rw[(SD hm hc r).2];exact⟨r,trivial⟩
 have dt:∀(t:Ty) (d:t.nM),v=.one (.fy t d)→t.agg=true→ls=ka t d→All2 (aY G) ls x.cells.toList:=fun t d hv ht hl=>by subst hv hl;obtain⟨cs,e,hr⟩:=r;simp only[ht,ava] at e;subst e;exact lY hr
 unfold af.qc at h;split at h
 ·simp only[Ob] at h;exact dt _ _ rfl rfl h.symm
 ·simp only[Ob] at h;exact dt _ _ rfl rfl h.symm
 ·simp only[Ob] at h;exact dt _ _ rfl rfl h.symm
 ·rename_i l _ _ _
  cases hc:l.cell<;>simp[hc] at h;exact key l rfl hc h.symm
 ·simp only[Ob] at h;subst h
  obtain⟨cs,rfl,ha⟩:=r;exact ha
 ·cases h
theorem EJ{α β:Type}{R:α→β→Prop}{ls:List α}{vs:List β}{off n:Nat}{c:List α}(a:All2 R ls vs)(h:(bif Nat.ble (off+n) ls.length then some ((ls.drop off).take n) else none)=some c):
  ∃ pre mid post,vs=pre++(mid++post)∧pre.length=off∧mid.length=n∧All2 R c mid:=by
 cases hb:Nat.ble (off+n) ls.length with
 |false=>simp[hb] at h
 |true=>
  have B8:off+n≤ls.length:=aZa hb;simp only[hb,aja,Ob] at h;subst h;have hl:=a.length;refine⟨vs.take off,(vs.drop off).take n,(vs.drop off).drop n,?_,by simp;omega,by simp;omega,(a.drop off).take n⟩
  rw[bOa,bOa]
theorem ZW{G:Gh}{c:List ai}{mid:List Value}(a:All2 (aY G) c mid):aU G (Ex true c) (.agg mid.toArray):=⟨mid,rfl,a⟩
theorem XG{G:Gh}{c:List ai}{v:Value}(a:All2 (aY G) c [v]):aU G (Ex false c) v:=by
 match c,a with
 |[l],a=>exact a.1
def XM(agg:Bool)(mid:List Value):Value:=if agg then .agg mid.toArray else mid.headD undef
theorem vz{G:Gh}{g:Bool}{c:List ai}{mid:List Value}(hg:g=false→mid.length=1)(a:All2 (aY G) c mid):aU G (Ex g c) (XM g mid):=by
 cases g with
 |true=>exact ZW a
 |false=>
  match mid,hg rfl with
  |[v],_=>exact XG a
theorem vE{P:Program}{w:World}{t:TypeId}{ti:TI}(hT:Ai P t ti){b o:Nat}{mid:List Value}(hl:mid.length=ti.size)(hc:w.rangeAt b o mid):
  (Instr.loadAt t (.pointer (some ⟨b,o,none⟩))).run P w=.ok (XM ti.iS.agg mid) w:=by
 obtain⟨i,d,z,h1,h2,h3,h4,h5,h6,h7,h8,h9⟩:=hT;have afc:=h7.row;cases hg:ti.iS.agg with
 |true=>exact run_loadAt_mid w b o t mid d hc h2 (afc.trans hg) (by rw[h1,hl,←h3];rfl)
 |false=>
  have h1':=h8 hg;rw[h1'] at hl
  match mid,hl,hc with
  |[v],_,hc=>
   have rL:=hc 0 v rfl;have ade:(isAgg t).run P w=.ok false w:=by unfold isAgg;rw[aNa,aEa h2 w];rw[hg] at afc;cases d<;>simp_all[TypeDesc.isRow]
   simp only[cya] at rL;simp[Instr.loadAt,Instr.sureAddr,loadVar,ade,rL,XM]
theorem ov{w:World}{b o:Nat}{arr:Array Value}{elem:TypeId}{fz:Nat×Nat}{pre mid post:List Value}(h:w.heap[b]? = some (.cells arr elem fz))(ha:arr.toList=pre++(mid++post))(ho:pre.length=o):w.rangeAt b o mid:=by intro j v hj;have bf:j<mid.length:=(ama.1 hj).1;simp only[World.cell?,h,cJa,asa,aka];rw[←bza,ha,←ho,aSa (by omega),bea,aUa bf,hj]
theorem LS{G:Gh}{a v sz i:Nat}(hb:∃ b len cap,G.ψ a=.slice (some ⟨b,0,none⟩) len cap∧i<len)(hv:v≤G.vn a):∀{t:Ty} {d:t.nM} {cs:List Value} {H:gz} {off:Nat},t.sy=true→gy G.S true t cs d H→
  (∀ j u,cs[j]? = some u→(G.HV a v)[i * sz+(off+j)]? = some u)→All2 (aY G) (UB a v sz i t d off) cs
 |.int k,d,cs,H,off,_,h,_=>by rw[h.1];exact⟨⟨_,by simp[Ty.agg],rfl,rfl⟩,trivial⟩
 |.bool,d,cs,H,off,_,h,_=>by rw[h.1];exact⟨⟨_,by simp[Ty.agg],rfl,rfl⟩,trivial⟩
 |.str,d,cs,H,off,_,h,_=>by rw[h.1];exact⟨⟨_,by simp[Ty.agg],rfl,rfl⟩,trivial⟩
 |.slice t,d,cs,H,off,_,h,hc=>by
  obtain⟨x,n,c,rfl⟩:∃ x n c,cs=[.slice x n c]:=by rcases h with ⟨_,_,e⟩|⟨b,cap,arr,elem,cells,rest,H',e,_⟩<;>exact⟨_,_,_,e⟩
  exact⟨⟨hv,⟨x,n,c,rfl⟩,hb,hc 0 _ rfl⟩,trivial⟩
 |.dg t u,d,cs,H,off,hn,h,hc=>by
  simp only[Ty.sy,Q3] at hn;obtain⟨c1,c2,H1,H2,rfl,rfl,h1,h2⟩:=h;have hl:=gy.size h1;refine(LS hb hv hn.1 h1 fun j u hj=>hc j u (by rw[aUa (ama.1 hj).1];exact hj)).append
   (LS hb hv hn.2 h2 fun j u hj=>?_)
  have:=hc (t.size+j) u (by rw[aSa (by omega),hl,bea];exact hj)
  rw[bNa];exact this
 |.one t,d,cs,H,off,hn,h,hc=>by exact LS (t:=t) hb hv hn h hc
 |.arr _ _,d,cs,H,off,hn,_,_=>by cases hn
section ops
variable {P:Program} {E:tr} (hE:iQ P E.iK) {X:mW} {st:St} {G:Gh} {w:World} {R:Type} {r:R}
include hE
theorem Ka{T:TypeId}{x:af}{vx:Value}{K:af→St→Option R}(h:y5 E T x st K=some r)(hm:aB X st G w)(hx:aU G x vx):
  ∃ av v,(Instr.loadAt T vx).run P w=.ok v w∧aU G av v∧K av st=some r:=by
 unfold y5 at h;cases hT:E.iK T with
 |none=>simp[hT] at h
 |some ti=>
  simp only[hT] at h;have hti:=hE T ti hT;have h1:ti.iS.agg=false→ti.size=1:=by obtain⟨_,_,_,_,_,_,_,_,_,_,h8,_⟩:=hti;exact h8
  cases x with
  |agg ls=>simp[af.bR] at h
  |KN ls=>simp[af.bR] at h
  |Au t ls=>simp[af.bR] at h
  |one l=>
   simp only[af.bR] at h;cases l with
   |lB o off=>
    simp only at h;cases ho:st.dT o with
    |none=>simp[ho] at h
    |some ls=>
     simp only[ho] at h;cases hs:qS (st.kg o 0 ls) off ti.size with
     |none=>simp[hs] at h
     |some c=>simp only[hs] at h;obtain⟨arr,elem,mid,e1,e2,e3⟩:=hm.ob o ls ho;obtain⟨p1,m,q1,rfl,f2,f3,f4⟩:=EJ e3 hs;cases hx;refine⟨_,_,vE hti f3 (ov (pre:=G.pre o++p1) (post:=q1++G.post o) e1 (by rw[e2];simp) (by simp[f2])),vz (fun hg=>by rw[f3,h1 hg]) f4,h⟩
   |Pa t d off=>
    simp only at h;cases hs:qS (ka t d) off ti.size with
    |none=>simp[hs] at h
    |some c=>simp only[hs] at h;obtain⟨b,arr,elem,fz,pre,cs,post,e1,e2,e3,rfl⟩:=hx;obtain⟨p1,m,q1,rfl,f2,f3,f4⟩:=EJ (lY e3) hs;refine⟨_,_,vE hti f3 (ov (pre:=pre++p1) (post:=q1++post) (hm.sh _ _ e1) (by rw[e2];simp) (by simp[f2])),vz (fun hg=>by rw[f3,h1 hg]) f4,h⟩
   |ga t l=>
    simp only at h;split at h
    ·rename_i n e hd
     cases hb:(Nat.beq l.length n&&Nat.beq ti.size (n * t.size)) with
     |false=>simp[hb] at h
     |true=>
      simp only[hb,aja] at h;simp only[Q3] at hb;have e1:=Q4 hb.1;have e2:=Q4 hb.2;obtain⟨b,arr,elem,fz,cs,rest,g1,g2,g3,rfl⟩:=hx;have hl:cs.length=ti.size:=by rw[RepL.size (n:=t.size) (fun c x H h=>gy.size h) g3,e1,e2]
      have hag:ti.iS.agg=true:=by rw[hd];rfl
      refine⟨_,_,vE hti hl (ov (pre:=[]) (post:=rest) (hm.sh _ _ g1) (by rw[g2];rfl) rfl),?_,h⟩
      rw[hag];exact⟨cs,rfl,g3,e1⟩
    ·cases h
   |DX a sz i off=>
    simp only at h;cases hA:st.arr a with
    |none=>simp[hA] at h
    |some A=>
     simp only[hA] at h;cases hb:(A.sh||!Nat.beq sz A.t.size) with
     |true=>simp[hb] at h
     |false=>
      simp only[hb,aoa] at h;simp only[aGa,bpa] at hb;obtain⟨dz,m9⟩:=hb;have m9:sz=A.t.size:=Q4 m9;obtain⟨b,len,cap,g1,g2,rfl⟩:=hx;have tJ:=hm.ar a A hA;split at h
      ·rename_i vm
       obtain⟨d,hd1,h⟩:=ata.1 h;cases hs:qS (ka A.t d) off ti.size with
       |none=>simp[hs] at h
       |some c=>
        simp only[hs] at h;have hd:A.bA=false:=by simp[jV.bA,vm]
        replace tJ:=(ig dz (DZ hd)).1 tJ
        rw[hd] at tJ;have hi:A.l[i]? = some d:=by simpa[bL] using hd1
        rcases tJ with ⟨e1,e2,e3⟩|⟨b',cap',arr,elem,cells,rest,H',e1,e2,e3,e4,e5,e6⟩
        ·rw[e1] at hi;simp at hi
        ·simp only[aJa,a7a] at e1
         rw[e1] at g1;cases g1;have tY:=hm.ah a A hA dz (b,Obj.cells arr elem (0,0)) (by rw[e2];simp)
         obtain⟨pre,cc,post,Hp,Hc,Hq,k1,k2,k3,k4,k5⟩:=RepL.at (fun c x H hr=>gy.size hr) e6 hi;have k4':gy G.S false A.t cc d []:=by have e:=gy.nN k4;rw[e] at k4;exact k4
         obtain⟨p1,m,q1,rfl,f2,f3,f4⟩:=EJ (lY k4') hs;refine⟨_,_,vE hti f3 (ov (pre:=pre++p1) (post:=q1++(post++rest)) tY (by rw[e3,k1];simp) (by simp[k2,f2,m9])),vz (fun hg=>by rw[f3,h1 hg]) f4,h⟩
      ·rename_i vm
       cases hna:A.t.sy with
       |false=>simp[hna] at h
       |true=>
        simp only[hna,aja] at h;obtain⟨d,hd1,h⟩:=ata.1 h;cases hs:qS (UB a (st.dH a) A.t.size i A.t d 0) off ti.size with
        |none=>simp[hs] at h
        |some c=>
         simp only[hs] at h
         replace tJ:=(ig dz (show A.gK=true by simp[jV.gK,vm])).1 tJ
         rw[show A.bA=true by simp[jV.bA,vm]] at tJ
         have hi:A.l[i]? = some d:=by simpa[bL] using hd1
         rcases tJ with ⟨e1,e2,e3⟩|⟨b',cap',arr,elem,cells,rest,H',e1,e2,e3,e4,e5,e6⟩
         ·rw[e1] at hi;simp at hi
         ·simp only[aJa,a7a] at e1
          have g1':=g1;rw[e1] at g1;cases g1;have tY:=hm.ah a A hA dz (b,Obj.cells arr elem (0,0)) (by rw[e2];simp)
          have hhd:=hm.hh a A hA dz (by simp[jV.nest,vm])
          rw[e2] at hhd;obtain⟨pre,cc,post,Hp,Hc,Hq,k1,k2,k3,k4,k5⟩:=RepL.at (fun c x H hr=>gy.size hr) e6 hi;have hx2:All2 (aY G) (UB a (st.dH a) A.t.size i A.t d 0) cc:=LS ⟨b,_,cap,g1',g2⟩ (by rw[hm.hv];exact axa _) hna k4 fun j u hj=>by rw[←hm.hv,hhd];simp only[kI];have hjl:=(ama.1 hj).1;rw[e3,k1,aWa,←k2,a5a,aSa (by omega),bea,a5a,aUa hjl];exact hj
          obtain⟨p1,m,q1,rfl,f2,f3,f4⟩:=EJ hx2 hs;refine⟨_,_,vE hti f3 (ov (pre:=pre++p1) (post:=q1++(post++rest)) tY (by rw[e3,k1];simp) (by simp[k2,f2,m9])),vz (fun hg=>by rw[f3,h1 hg]) f4,h⟩
      ·cases h
   |LP a k n=>
    simp only at h;cases hA:st.arr a with
    |none=>simp[hA] at h
    |some A=>
     simp only[hA] at h;cases hb:(!A.sh&&Md.lK A.md .arr&&Nat.beq A.t.size 1&&!A.t.agg&&Nat.beq ti.size 1&&!ti.iS.agg) with
     |false=>rw[hb] at h;cases h
     |true=>
      rw[hb,aja] at h;simp only[Q3,aOa] at hb;obtain⟨⟨⟨⟨⟨dz,vm⟩,m9⟩,hag⟩,hts⟩,htg⟩:=hb;have m9:=Q4 m9;have hts:=Q4 hts;obtain⟨d,hd1,h⟩:=ata.1 h;obtain⟨b,g1,rfl⟩:=hx;obtain⟨b',arr,elem,e1,e2,e3⟩:=GM dz (Md.xy vm) (hm.ar a A hA);rw[g1] at e1;cases e1;have tY:=hm.ah a A hA dz (b,Obj.cells arr elem (0,0)) (by rw[e2];simp)
      have hi:A.l[k]? = some d:=by simpa[bL] using hd1
      obtain⟨pre,cc,post,Hp,Hc,Hq,k1,k2,k3,k4,k5⟩:=RepL.at (fun c x H hr=>gy.size hr) e3 hi;have k4':gy G.S false A.t cc d []:=by have e:=gy.nN k4;rw[e] at k4;exact k4
      have hx1:=lY (G:=G) k4';have agl:∀(t:Ty) (d:t.nM),t.agg=false→ka t d=[.fy t d]:=fun t d h=>by cases t<;>first|rfl|(simp[Ty.agg] at h)
      have hex:=agl A.t d hag;have mH:cc.length=ti.size:=by rw[gy.size k4,m9,hts]
      have hp:=vz (g:=ti.iS.agg) (fun _=>by rw[mH,hts]) hx1
      rw[htg,hex] at hp;refine⟨_,_,vE hti mH (ov (pre:=pre) (post:=post) tY k1 (by rw[k2,m9,Nat.mul_one])),?_,h⟩
      rw[htg];exact hp
   |_=>simp at h
end ops
end Go.Fx
namespace Go.Fx
theorem Ai.struct{P:Program}{t:TypeId}{s b:Nat}{y:Option Ty}{fs:List (Nat×TypeId)}{z:List Value}(h:Ai P t ⟨s,b,y,.struct fs,z⟩){f off:Nat}{ft:TypeId}(hf:fs[f]? = some (off,ft)):
  ∃(oq:Array Field) (fld:Field),P.underlying t=some (.struct oq)∧oq[f]? = some fld∧fld.offset=off∧fld.type=ft:=by
 obtain⟨i,d,z',h1,h2,h3,h4,h5,h6,h7,h8,h9⟩:=h;cases d with
 |struct oq=>
  simp only[zn] at h7;subst h7;rw[bIa,bza] at hf;cases hq:oq[f]? with
  |none=>simp[hq] at hf
  |some fld=>simp[hq] at hf;exact⟨oq,fld,h2,hq,hf.1,hf.2⟩
 |_=>simp[zn] at h7
theorem Ai.vU{P:Program}{t:TypeId}{ti:TI}(h:Ai P t ti):∃ d,P.underlying t=some d∧zn ti.iS d:=by obtain⟨i,d,z,h1,h2,h3,h4,h5,h6,h7,_⟩:=h;exact⟨d,h2,h7⟩
theorem Ai.slice{P:Program}{t:TypeId}{s b:Nat}{y:Option Ty}{e:TypeId}{z:List Value}(h:Ai P t ⟨s,b,y,.slice e,z⟩):P.underlying t=some (.slice e):=by obtain⟨d,h1,h2⟩:=h.vU;cases d<;>simp_all[zn]
theorem Ai.str{P:Program}{t:TypeId}{s b:Nat}{y:Option Ty}{z:List Value}(h:Ai P t ⟨s,b,y,.str,z⟩):P.underlying t=some .string:=by obtain⟨d,h1,h2⟩:=h.vU;cases d<;>simp_all[zn]
theorem Ai.arr{P:Program}{t:TypeId}{s b:Nat}{y:Option Ty}{n:Nat}{e:TypeId}{z:List Value}(h:Ai P t ⟨s,b,y,.arr n e,z⟩):P.underlying t=some (.array n e):=by obtain⟨d,h1,h2⟩:=h.vU;cases d<;>simp_all[zn]
theorem Ai.size{P:Program}{t:TypeId}{ti:TI}(h:Ai P t ti)(w:World):(sizeOf t).run P w=.ok ti.size w:=by obtain⟨i,d,z,h1,h2,h3,_⟩:=h;simp[sizeOf,typeInfo,h1,h3]
theorem Ai.isAgg{P:Program}{t:TypeId}{ti:TI}(h:Ai P t ti)(w:World):(isAgg t).run P w=.ok ti.iS.agg w:=by obtain⟨d,h1,h2⟩:=h.vU;have:=h2.row;unfold Go.isAgg;rw[aNa,aEa h1 w];cases d<;>simp_all[TypeDesc.isRow]
theorem qG{G:Gh}{v:af}{k:IntKind}{n:Int}{x:Value}(h:v.FK = some (k,n))(r:aU G v x):x=.int k n:=by
 unfold af.FK at h;split at h
 ·simp only[Ob,aia] at h
  obtain⟨rfl,rfl⟩:=h;obtain⟨cs,e,hr⟩:=r;simp only[Ty.agg,asa,aka] at e;subst e;cases hr.1;rfl
 ·cases h
theorem wH{G:Gh}{v:af}{n:Bool}{x:Value}(h:v.FX = some n)(r:aU G v x):x=.bool n:=by
 unfold af.FX at h;split at h
 ·simp only[Ob] at h;subst h
  obtain⟨cs,e,hr⟩:=r;simp only[Ty.agg,asa,aka] at e;subst e;cases hr.1;rfl
 ·cases h
theorem Da{G:Gh}{v:af}{n:ab}{x:Value}(h:v.N6 = some n)(r:aU G v x):x=kz n:=by
 unfold af.N6 at h;split at h
 ·simp only[Ob] at h;subst h
  obtain⟨cs,e,hr⟩:=r;simp only[Ty.agg,asa,aka] at e;subst e;cases hr.1;rfl
 ·cases h
theorem kX{G:Gh}(k:IntKind)(n:Int):aU G (.one (.fy (.int k) n)) (.int k n):=⟨_,by simp[Ty.agg],rfl,rfl⟩
theorem oN{G:Gh}(b:Bool):aU G (.one (.fy .bool b)) (.bool b):=⟨_,by simp[Ty.agg],rfl,rfl⟩
theorem Kh{G:Gh}(s:ab):aU G (.one (.fy .str s)) (kz s):=⟨_,by simp[Ty.agg],rfl,rfl⟩
theorem WG(s:ab):(⟨s.toArray⟩:ByteArray).size=s.length:=by simp[ByteArray.size]
theorem IA{α:Type}{l:List α}{n:Int}{x:α}(h:bL l n=some x):0≤n∧l[n.toNat]? = some x∧n<(l.length:Int):=by
 unfold bL at h;by_cases h0:0≤n
 ·simp only[h0,decide_true,aja] at h
  have:=(ama.1 h).1;exact⟨h0,h,by omega⟩
 ·simp[h0] at h
theorem Jf{α:Type}{l:List α}{i j:Int}{x:List α}(h:sub l i j=some x):0≤i∧i≤j∧j≤(l.length:Int)∧x=(l.take j.toNat).drop i.toNat:=by unfold sub at h;by_cases h0:0≤i<;>by_cases h1:i≤j<;>by_cases h2:j≤(l.length:Int)<;>simp[h0,h1,h2] at h;exact⟨h0,h1,h2,h.symm⟩
theorem DI{α:Type}{l m r:List α}(h:bE l m=some r):l.length+m.length≤4294967296∧r=l++m:=by unfold bE at h;by_cases h0:l.length+m.length≤4294967296<;>simp[h0] at h;exact⟨h0,h.symm⟩
section ops
variable {P:Program} {E:tr} (hE:iQ P E.iK) {X:mW} {st:St} {G:Gh} {w:World} {R:Type} {r:R}
include hE
theorem Eu{T:TypeId}{x:af}{vx:Value}{f:Nat}{K:af→St→Option R}(h:n8 E T x f st K=some r)(hx:aU G x vx):
  ∃ av v,(Instr.fieldAt T vx f).run P w=.ok v w∧aU G av v∧K av st=some r:=by
 unfold n8 at h;split at h
 ·rename_i s b y fs z hT
  cases hf:fs[f]? with
  |none=>simp[hf] at h
  |some p=>
   obtain⟨off,ft⟩:=p;simp only[hf] at h;cases hF:E.iK ft with
   |none=>simp[hF] at h
   |some fi=>
    simp only[hF] at h;cases hz:Nat.beq fi.size 0 with
    |true=>simp[hz] at h
    |false=>
     simp only[hz,aoa] at h;have hz':fi.size≠0:=fun e=>by simp[e] at hz
     obtain⟨oq,fld,g1,g2,rfl,rfl⟩:=(hE T _ hT).struct hf;have m9:=(hE _ _ hF).size w;have iM:∀ b o,(Instr.fieldAt T (.pointer (some ⟨b,o,none⟩)) f).run P w=.ok (.pointer (some ⟨b,o+fld.offset,none⟩)) w:=fun b o=>by simp[Instr.fieldAt,aEa g1,g2,Instr.sureAddr,fieldPlace,m9,hz',bZa]
     cases x with
     |agg ls=>simp[af.bR] at h
     |KN ls=>simp[af.bR] at h
     |Au t ls=>simp[af.bR] at h
     |one l=>
      simp only[af.bR] at h;cases l with
      |lB o off=>cases hx;exact⟨_,_,iM _ _,by simp[aU,aY,bNa],h⟩
      |Pa t d off=>obtain⟨b,arr,elem,fz,pre,cs,post,e1,e2,e3,rfl⟩:=hx;exact⟨.one (.Pa t d (off+fld.offset)),_,iM _ _,⟨b,arr,elem,fz,pre,cs,post,e1,e2,e3,by simp[bNa]⟩,h⟩
      |DX a sz i off=>obtain⟨b,len,cap,g1,g2,rfl⟩:=hx;exact⟨.one (.DX a sz i (off+fld.offset)),_,iM _ _,⟨b,len,cap,g1,g2,by simp[bNa]⟩,h⟩
      |_=>simp at h
 ·cases h
theorem NI{T:TypeId}{x:af}{vx:Value}{f:Nat}{K:af→St→Option R}(h:xI E T x f st K=some r)(hm:aB X st G w)(hx:aU G x vx)(ade:∃ cs,vx=.agg cs):
  ∃ av v,(Instr.field T vx f).run P w=.ok v w∧aU G av v∧K av st=some r:=by
 unfold xI at h;split at h
 ·rename_i s b y fs z ls hT Oj
  cases hf:fs[f]? with
  |none=>simp[hf] at h
  |some p=>
   obtain⟨off,ft⟩:=p;simp only[hf] at h;cases hF:E.iK ft with
   |none=>simp[hF] at h
   |some fi=>
    simp only[hF] at h;cases hs:qS ls off fi.size with
    |none=>simp[hs] at h
    |some c=>
     simp only[hs] at h;obtain⟨oq,fld,g1,g2,rfl,rfl⟩:=(hE T _ hT).struct hf;obtain⟨cs,rfl⟩:=ade;have F4:=mU hm Oj hx;simp only[Value.cells] at F4;obtain⟨p1,m,q1,f1,f2,f3,f4⟩:=EJ F4 hs;have hfi:=hE _ _ hF;have m9:=hfi.size w;have hag:=hfi.isAgg w;have h1:fi.iS.agg=false→fi.size=1:=by obtain⟨_,_,_,_,_,_,_,_,_,_,h8,_⟩:=hfi;exact h8
     refine⟨_,XM fi.iS.agg m,?_,vz (fun hg=>by rw[f3,h1 hg]) f4,h⟩
     have Dr:cs=(p1++(m++q1)).toArray:=by rw[←f1]
     cases hg:fi.iS.agg with
     |true=>
      rw[hg] at hag;have:cs.extract fld.offset (fld.offset+fi.size)=m.toArray:=by apply cAa;rw[Dr];simp[←f2,←f3]
      simp[Instr.field,aEa g1,g2,asAgg,part,hag,m9,this,XM]
     |false=>
      rw[hg] at hag;rw[h1 hg] at f3
      match m,f3,Dr with
      |[u],_,Dr=>
       have:cs[fld.offset]? = some u:=by rw[Dr];simp[←f2]
       simp[Instr.field,aEa g1,g2,asAgg,part,hag,this,XM]
 ·cases h
theorem Ew{T:TypeId}{x i:af}{vx vi:Value}{K:af→St→Option R}(h:mM E T x i st K=some r)(hm:aB X st G w)(hx:aU G x vx)(hi:aU G i vi):
  ∃ av v,(Instr.indexAt T vx vi).run P w=.ok v w∧aU G av v∧K av st=some r:=by
 unfold mM at h;split at h
 ·rename_i s b y e z k n hT hn
  cases Ap:E.iK e with
  |none=>simp[Ap] at h
  |some ei=>
   simp only[Ap] at h;have hu:=(hE T _ hT).slice;have m9:=(hE _ _ Ap).size w;cases qG hn hi;have iM:∀(b o len cap:Nat),0≤n→n<(len:Int)→(Instr.indexAt T (.slice (some ⟨b,o,none⟩) len cap) (.int k n)).run P w=.ok (.pointer (some ⟨b,o+n.toNat * ei.size,none⟩)) w:=fun b o len cap h0 h1=>by simp[Instr.indexAt,asIntOf,aEa hu,h0,h1,m9,bZa]
   have qR:∀(t:Ty) (l:List t.nM) (d:t.nM),ei.size=t.size→bL l n=some d→BV G.S (RepL (gy G.S false t)) [vx] l []→
     ∃ v,(Instr.indexAt T vx (.int k n)).run P w=.ok v w∧aU G (.one (.Pa t d 0)) v:=fun t l d hz hd dz=>by
    obtain⟨h0,hd',h1⟩:=IA hd;rcases dz with ⟨_,⟨rfl,_⟩|⟨b,cap,arr,elem,fz,pre,cells,rest,e1,e2,e3,e4,elc⟩⟩
    ·simp at hd'
    ·simp only[aJa,a7a] at e1
     subst e1;obtain⟨p,c,q,Hp,Hc,Hq,k1,k2,k3,k4,_⟩:=RepL.at (fun c x H hr=>gy.size hr) e4 hd';have k4':gy G.S false t c d []:=by have e:=gy.nN k4;rw[e] at k4;exact k4
     exact⟨_,iM b pre.length l.length cap h0 h1,⟨b,arr,elem,fz,pre++p,c,q++rest,e2,by rw[e3,k1];simp,k4',by simp[k2,hz]⟩⟩
   cases x with
   |agg ls=>simp[af.bR] at h
   |KN ls=>simp[af.bR] at h
   |Au t ls=>simp[af.bR] at h
   |one l=>
    simp only[af.bR] at h;cases l with
    |fy t l=>
     cases t with
     |slice t=>
      simp only at h;cases hz:Nat.beq ei.size t.size with
      |false=>simp[hz] at h
      |true=>simp only[hz,aja] at h;obtain⟨d,hd,h⟩:=ata.1 h;obtain⟨cs,e,hr⟩:=hx;simp only[Ty.agg,asa,aka] at e;subst e;obtain⟨v,h1,h2⟩:=qR t l d (Q4 hz) hd hr;exact⟨_,v,h1,h2,h⟩
     |_=>simp at h
    |mX a=>
     simp only at h;cases hA:st.arr a with
     |none=>simp[hA] at h
     |some A=>
      simp only[hA] at h;cases hz:Nat.beq ei.size A.t.size with
      |false=>simp[hz] at h
      |true=>
       cases hmp:A.UL with
       |true=>simp[hz,hmp] at h
       |false=>
       simp only[hz,hmp,Bool.not_false,bHa,aja] at h;obtain⟨d,hd,h⟩:=ata.1 h;have tJ:=hm.ar a A hA;simp only[aU,aY] at hx;subst hx;cases hs:A.sh with
       |true=>
        simp only[hs,aja] at h
        replace tJ:=(xQ hs).1 tJ
        obtain⟨v,h1,h2⟩:=qR A.t A.l d (Q4 hz) hd tJ;exact⟨_,v,h1,h2,h⟩
       |false=>
        simp only[hs,aoa] at h;obtain⟨h0,hd',h1⟩:=IA hd;rcases H9 hs hmp tJ with ⟨e1,_⟩|⟨b',cap',e1⟩
        ·rw[e1] at hd';simp at hd'
        ·rw[e1]
         refine⟨.one (.DX a A.t.size n.toNat 0),_,iM b' 0 A.l.length cap' h0 h1,⟨b',A.l.length,cap',e1,by omega,?_⟩,h⟩
         simp[Q4 hz]
    |_=>simp at h
 ·rename_i s b y m e z k n hT hn
  cases Ap:E.iK e with
  |none=>simp[Ap] at h
  |some ei=>
   simp only[Ap] at h;have hu:=(hE T _ hT).arr;have m9:=(hE _ _ Ap).size w;cases qG hn hi;have sk:∀{b o:Nat},vx=.pointer (some ⟨b,o,none⟩)→(decide (0≤n)&&decide (n<(m:Int)))=true→(Instr.indexAt T vx (.int k n)).run P w=.ok (.pointer (some ⟨b,o+n.toNat * ei.size,none⟩)) w:=fun {b o} hv hc=>by simp only[Q3,bTa] at hc;rw[hv];simp[Instr.indexAt,asIntOf,aEa hu,hc.1,hc.2,m9,bZa,Instr.sureAddr]
   split at h
   ·rename_i a hl
    have PL:x=.one (.mX a):=by cases x<;>simp[af.bR] at hl;rw[hl]
    rw[PL] at hx;split at h
    ·rename_i A hA
     cases LV:(!A.sh&&Md.lK A.md .arr) with
     |false=>rw[LV] at h;cases h
     |true=>
      rw[LV,aja] at h;cases xS:(decide (0≤n)&&decide (n<(m:Int))) with
      |false=>rw[xS] at h;cases h
      |true=>rw[xS,aja] at h;simp only[Q3,aOa] at LV;obtain⟨b,arr,elem,e1,e2,e3⟩:=GM LV.1 (Md.xy LV.2) (hm.ar a A hA);have hv:vx=.pointer (some ⟨b,0,none⟩):=Eq.trans (show vx=G.ψ a from hx) e1;exact⟨.one (.LP a (n.toNat * ei.size) ei.size),_,sk hv xS,⟨b,e1,by rw[aWa]⟩,h⟩
    ·cases h
   ·rename_i a q w0 hl
    have PL:x=.one (.LP a q w0):=by cases x<;>simp[af.bR] at hl;rw[hl];
    rw[PL] at hx;obtain⟨b,e1,hv⟩:=hx;cases xS:(decide (0≤n)&&decide (n<(m:Int))) with
    |false=>rw[xS] at h;cases h
    |true=>rw[xS,aja] at h;exact⟨.one (.LP a (q+n.toNat * ei.size) ei.size),_,sk hv xS,⟨b,e1,rfl⟩,h⟩
   ·cases h
 ·cases h
theorem NJ{T:TypeId}{x i:af}{vx vi:Value}{K:af→St→Option R}(h:xJ E T x i st K=some r)(hx:aU G x vx)(hi:aU G i vi):
  ∃ av v,(Instr.index T vx vi).run P w=.ok v w∧aU G av v∧K av st=some r:=by
 unfold xJ at h;split at h
 ·rename_i s b y z hT
  split at h
  ·rename_i s' k n hs hn
   obtain⟨c,hc,h⟩:=ata.1 h;cases qG hn hi;cases Da hs hx;obtain⟨h0,hd',h1⟩:=IA hc;have hu:=(hE T _ hT).str;refine⟨_,_,?_,kX .u8 _,h⟩;have:(⟨s'.toArray⟩:ByteArray)[n.toNat]? = some c:=by
    have bf:n.toNat<s'.length:=(ama.1 hd').1;have Hg:n.toNat<(⟨s'.toArray⟩:ByteArray).size:=by simpa[ByteArray.size] using bf
    rw[getElem?_pos (c:=(⟨s'.toArray⟩:ByteArray)) (i:=n.toNat) Hg];have:=(ama.1 hd').2;simpa[ByteArray.getElem_eq_getElem_data] using this
   simp[Instr.index,asIntOf,aEa hu,kz,h0,this]
  ·cases h
 ·rename_i s b y m e z hT
  split at h
  ·rename_i m' t l k n ei hn Ap
   cases hc:(Nat.beq m m'&&Nat.beq ei.size t.size&&(bif t.agg then ei.iS.agg else !ei.iS.agg)) with
   |false=>simp[hc] at h
   |true=>
    simp only[hc,aja] at h;simp only[Q3] at hc;obtain⟨⟨c1,c2⟩,c3⟩:=hc;obtain rfl:=Q4 c1;have c2:=Q4 c2;have c3:ei.iS.agg=t.agg:=by cases h1:t.agg<;>cases h2:ei.iS.agg<;>simp_all
    obtain⟨d,hd,h⟩:=ata.1 h;cases qG hn hi;obtain⟨h0,hd',h1⟩:=IA hd;obtain⟨cs,e1,hr,jB⟩:=hx;simp only[Ty.agg,ava] at e1;subst e1;have hu:=(hE T _ hT).arr;have Ap:=hE e ei Ap;have m9:=Ap.size w;have hag:=Ap.isAgg w;have S3:ei.iS.agg=false→ei.size=1:=by obtain⟨_,_,_,_,_,_,_,_,_,_,h8,_⟩:=Ap;exact h8
    obtain⟨pre,c,post,Hp,Hc,Hq,k1,k2,k3,k4,_⟩:=RepL.at (fun c x H hr=>gy.size hr) hr hd';have k4:gy G.S false t c d []:=by have e:=gy.nN k4;rw[e] at k4;exact k4
    have mH:=gy.size k4;subst k1;rw[jB] at h1;cases hg:ei.iS.agg with
    |true=>
     rw[hg] at hag;refine⟨.one (.fy t d),.agg c.toArray,?_,(⟨c,by rw[←c3,hg];rfl,k4⟩:aY G (.fy t d) _),h⟩
     have:(pre++(c++post)).toArray.extract (n.toNat * ei.size) (n.toNat * ei.size+ei.size)=c.toArray:=by apply cAa;rw[c2,←k2,←mH];simp
     simp only[Instr.index,asIntOf,aNa,aEa hu,aFa,baa,h0,h1,aPa,ava,m9,part,hag,this]
    |false=>
     rw[hg] at hag;have e1:=S3 hg;have LV:c.length=1:=by omega
     match c,LV,k4 with
     |[u],_,k4=>
      refine⟨.one (.fy t d),u,?_,(⟨[u],by rw[←c3,hg];rfl,k4⟩:aY G (.fy t d) _),h⟩
      have hk:n.toNat=pre.length:=by rw[k2,←c2,e1];omega
      simp[Instr.index,asIntOf,aEa hu,h0,h1,part,hag,m9,e1,hk]
  ·cases h
 ·cases h
omit hE in
theorem acZ{lo:Option af}{vlo:Option Value}{d n:Int}(h:nF d lo=some n)(hr:∀ a,lo=some a→∃ v,vlo=some v∧aU G a v)(hn:lo=none→vlo=none):
  (vlo=none∧n=d)∨∃ k,vlo=some (.int k n):=by
 cases lo with
 |none=>simp only[nF,Ob] at h;exact .inl ⟨hn rfl,h.symm⟩
 |some a=>simp only[nF,aKa] at h;obtain⟨⟨k,m⟩,h1,h2⟩:=h;simp only at h2;subst h2;obtain⟨v,h3,h4⟩:=hr a rfl;exact .inr ⟨k,by rw[h3,qG h1 h4]⟩
end ops
end Go.Fx
namespace Go.Fx
theorem T7(a b:ab):(⟨a.toArray⟩:ByteArray)++⟨b.toArray⟩=⟨(a++b).toArray⟩:=by apply ByteArray.ext;simp
theorem WZ{P:Program}{w:World}(op:BinOp)(T:TypeId)(x y:Operand)(k:IntKind)(a b:Int)(hs:op≠.shl)(Ca:op≠.shr):
  ((do eqGuard op T x y (.int k a) (.int k b);binOp op T (.int k a) (.int k b)):Sem Value).run P w=(match op with
   |.add | .sub | .mul=>Op.intArith op k a b
   |.quo | .rem=>Op.intDiv op k a b
   |.and | .or | .xor | .andNot=>Op.intBits op k a b
   |_=>Op.intCmp op a b:Sem Value).run P w:=by
 cases op<;>first|exact absurd rfl hs|exact absurd rfl Ca | simp[eqGuard,binOp]
theorem Ec{G:Gh}{x:af}{v:Value}(h:x.isAgg=true)(r:aU G x v):∃ cs,v=.agg cs:=by
 cases x with
 |agg ls=>obtain⟨cs,e,_⟩:=r;exact⟨_,e⟩
 |one l=>
  cases l with
  |fy t d=>cases t<;>simp[af.isAgg] at h<;>(obtain⟨cs,e,_⟩:=r;simp only[Ty.agg,ava] at e;exact⟨_,e⟩)
  |_=>simp[af.isAgg] at h
 |_=>simp[af.isAgg] at h
theorem Te{G:Gh}:∀{ks:List Kd} {ls:List ai} {vs:List Value},J3 ks ls=true→All2 (aY G) ls vs→All2 KdV ks vs
 |[],[],[],_,_=>trivial
 |.int k::r,.fy (.int k') d::s,v::vs,h,hr=>by simp only[J3,Q3,bTa] at h;obtain⟨rfl,h⟩:=h;cases qG (v:=.one (.fy (.int k) d)) rfl hr.1;exact⟨⟨d,rfl⟩,Te (ks:=r) h hr.2⟩
 |.bool::r,.fy .bool d::s,v::vs,h,hr=>by cases wH (v:=.one (.fy .bool d)) rfl hr.1;exact⟨⟨d,rfl⟩,Te (ks:=r) h hr.2⟩
 |.str::r,.fy .str d::s,v::vs,h,hr=>by cases Da (v:=.one (.fy .str d)) rfl hr.1;exact⟨⟨_,rfl⟩,Te (ks:=r) h hr.2⟩
 |[],[],_::_,_,hr=>hr.elim
 |_,_::_,[],_,hr=>hr.elim
 |[],_::_,_,h,_=>by simp[J3] at h
 |.int k::r,[],_,h,_=>by simp[J3] at h
 |.bool::r,[],_,h,_=>by simp[J3] at h
 |.str::r,[],_,h,_=>by simp[J3] at h
theorem VR{G:Gh}{x y:ai}{v u:Value}{e:Bool}(h:aaR x y=some e)(hx:aY G x v)(hy:aY G y u):DV v u=e:=by
 unfold aaR at h;split at h
 ·rename_i k a k' b
  cases qG (v:=.one (.fy (.int k) a)) rfl hx;cases qG (v:=.one (.fy (.int k') b)) rfl hy;simpa[DV] using h
 ·rename_i a b
  cases wH (v:=.one (.fy .bool a)) rfl hx;cases wH (v:=.one (.fy .bool b)) rfl hy;simpa[DV] using h
 ·rename_i a b
  cases Da (v:=.one (.fy .str a)) rfl hx;cases Da (v:=.one (.fy .str b)) rfl hy;simp only[Ob] at h;subst h;simp[DV,kz,beq_toListBytes,ByteArray.toList_eq]
 ·cases h
theorem Rd{G:Gh}:∀{ls ms:List ai} {xs ys:List Value} {e:Bool},Rc ls ms=some e→All2 (aY G) ls xs→All2 (aY G) ms ys→wa xs ys=e
 |[x],[y],[v],[u],e,h,hx,hy=>by simpa[wa] using VR (by simpa[Rc] using h) hx.1 hy.1
 |x::x2::r,y::s,v::vs,u::us,e,h,hx,hy=>by
  simp only[Rc] at h;split at h
  ·rename_i a b h1 h2
   simp only[Ob] at h;rw[wa,VR h1 hx.1 hy.1,Rd h2 hx.2 hy.2,h]
  ·cases h
 |[x],y::y2::s,v::vs,u::us,e,h,hx,hy=>by
  simp only[Rc] at h;split at h
  ·rename_i a b h1 h2
   simp[Rc] at h2
  ·cases h
 |[],_,_,_,e,h,_,_=>by simp[Rc] at h
 |_::_,[],_,_,e,h,_,_=>by cases ‹List ai›<;>simp[Rc] at h
 |_::_,_::_,[],_,e,h,hx,_=>hx.elim
 |_::_,_::_,_,[],e,h,_,hy=>hy.elim
section ops
variable {P:Program} {E:tr} (hE:iQ P E.iK) {X:mW} {st:St} {G:Gh} {w:World} {R:Type} {r:R}
include hE
theorem Tq{op:BinOp}{T:TypeId}{x y:af}{ox oy:Operand}{vx vy:Value}{K:af→Option R}(h:KD E op T x y K=some r)(hm:aB X st G w)(hx:aU G x vx)(hy:aU G y vy):
  ∃ av v,((do eqGuard op T ox oy vx vy;binOp op T vx vy):Sem Value).run P w=.ok v w∧aU G av v∧K av=some r:=by
 unfold KD at h;split at h
 ·rename_i k a k' b
  cases qG (v:=.one (.fy (.int k) a)) rfl hx;cases qG (v:=.one (.fy (.int k') b)) rfl hy;split at h
  ·by_cases hb:b<0
   ·simp[hb] at h
   ·simp only[hb,cja,aoa] at h
    exact⟨_,_,by simp[eqGuard,binOp,Op.shift,hb],kX k _,h⟩
  ·by_cases hb:b<0
   ·simp[hb] at h
   ·simp only[hb,cja,aoa] at h
    exact⟨_,_,by simp[eqGuard,binOp,Op.shift,hb],kX k _,h⟩
  ·rename_i hn1 hn2
   by_cases hk:k=k'
   ·subst hk
    simp only[decide_true,cKa,aoa] at h;have iM:=WZ (P:=P) (w:=w) op T ox oy k a b hn1 hn2;split at h
    ·exact⟨_,_,by rw[iM];simp[Op.intArith],kX k _,h⟩
    ·exact⟨_,_,by rw[iM];simp[Op.intArith],kX k _,h⟩
    ·exact⟨_,_,by rw[iM];simp[Op.intArith],kX k _,h⟩
    ·by_cases hb:b=0
     ·simp[hb] at h
     ·simp only[hb,cja,aoa] at h
      exact⟨_,_,by rw[iM];simp[Op.intDiv,hb],kX k _,h⟩
    ·by_cases hb:b=0
     ·simp[hb] at h
     ·simp only[hb,cja,aoa] at h
      exact⟨_,_,by rw[iM];simp[Op.intDiv,hb],kX k _,h⟩
    ·exact⟨_,_,by rw[iM];simp[Op.intBits];rfl,kX k _,h⟩
    ·exact⟨_,_,by rw[iM];simp[Op.intBits];rfl,kX k _,h⟩
    ·exact⟨_,_,by rw[iM];simp[Op.intBits];rfl,kX k _,h⟩
    ·exact⟨_,_,by rw[iM];simp[Op.intCmp],oN _,h⟩
    ·exact⟨_,_,by rw[iM];simp[Op.intCmp],oN _,h⟩
    ·exact⟨_,_,by rw[iM];simp[Op.intCmp],oN _,h⟩
    ·exact⟨_,_,by rw[iM];simp[Op.intCmp],oN _,h⟩
    ·exact⟨_,_,by rw[iM];simp[Op.intCmp],oN _,h⟩
    ·exact⟨_,_,by rw[iM];simp[Op.intCmp],oN _,h⟩
    ·cases h
   ·simp[hk] at h
 ·rename_i a b
  cases Da (v:=.one (.fy .str a)) rfl hx;cases Da (v:=.one (.fy .str b)) rfl hy;split at h
  ·obtain⟨c,hc,h⟩:=ata.1 h
   obtain⟨hl,rfl⟩:=DI hc;have hn:¬ (((a.length+b.length:Nat):Int) > IntKind.i64.max):=by
    have:IntKind.i64.max=9223372036854775807:=by rfl
    rw[this];omega
   refine⟨_,_,?_,Kh _,h⟩;have hn':¬ (IntKind.i64.max<(a.length:Int)+(b.length:Int)):=by
    have:IntKind.i64.max=9223372036854775807:=by rfl
    rw[this];omega
   have hn2:(a.length:Int)+(b.length:Int)≤9223372036854775807:=by omega
   simp[eqGuard,binOp,kz,Op.stringOp,WG,hn',hn2,T7]
  ·exact⟨_,_,by simp[eqGuard,binOp,kz,Op.stringOp],oN _,h⟩
  ·exact⟨_,_,by simp[eqGuard,binOp,kz,Op.stringOp],oN _,h⟩
  ·cases h
 ·rename_i a b
  cases wH (v:=.one (.fy .bool a)) rfl hx;cases wH (v:=.one (.fy .bool b)) rfl hy;have key:∀{s b':Nat} {y':Option Ty} {z:List Value},E.iK T=some ⟨s,b',y',.bool,z⟩→∀ w,(Op.equal T (.bool a) (.bool b)).run P w=.ok (a==b) w:=fun hT w=>by
   obtain⟨d,h1,h2⟩:=(hE T _ hT).vU;cases d<;>simp[zn] at h2;show(Op.equalIn 10000 T _ _).run P w=_;rw[show(10000:Nat)=9999+1 from rfl,Op.equalIn]
   simp[aEa h1]
  split at h
  ·rename_i hT
   exact⟨_,_,by simp[eqGuard,binOp,key hT],oN _,h⟩
  ·rename_i hT
   exact⟨_,_,by simp[eqGuard,binOp,key hT],oN _,h⟩
  ·cases h
 ·split at h
  ·rename_i ti ls ms hT Oj hms
   split at h
   ·rename_i ks hks
    cases hb:(ti.iS.agg&&x.isAgg&&y.isAgg&&J3 ks ls&&J3 ks ms) with
    |false=>simp[hb] at h
    |true=>
     simp only[hb,aja] at h;simp only[Q3] at hb;obtain⟨⟨⟨⟨b1,b2⟩,b3⟩,b4⟩,b5⟩:=hb;obtain⟨xs,rfl⟩:=Ec b2 hx;obtain⟨ys,rfl⟩:=Ec b3 hy;have lx:All2 (aY G) ls xs.toList:=mU hm Oj hx;have ly:All2 (aY G) ms ys.toList:=mU hm hms hy;have hti:=hE T ti hT;obtain⟨d,hu,htd⟩:=hti.vU;obtain⟨_,_,_,hi,_,_,_,_,_,_,_,_,agc⟩:=hti;have chk:=agc.1 ks b1 hks;have xD:∃ fs,d=.struct fs:=by
      have:=chk;rw[show(6:Nat)=5+1 from rfl,CY,hu] at this
      cases d<;>first|exact⟨_,rfl⟩|(simp at this;done)|(cases hd:ti.iS<;>simp[hd,zn,TD.agg] at htd b1)|cases this
     obtain⟨fs,rfl⟩:=xD;have isv:∀ zs:Array Value,IsV P T zs.toList (.agg zs):=fun zs=>by unfold IsV;rw[hu]
     have iM:∀ w,(Op.equal T (.agg xs) (.agg ys)).run P w=.ok (wa xs.toList ys.toList) w:=fun w=>
      VQ 6 T ks chk 9994 w (.agg xs) (.agg ys) _ _ (Te b4 lx) (Te b5 ly) (isv xs) (isv ys)
     have hg:P.eqGuardType P.depth T=false:=by
      have e:P.depth=(P.depth - 6)+6:=by have:P.depth=2 * (P.types.size+100)+2:=rfl;omega
      rw[e];exact SW chk _
     split at h
     ·rename_i e he
      have:=Rd he lx ly;exact⟨_,_,by simp[eqGuard,binOp,hg,iM,this],oN _,h⟩
     ·rename_i e he
      have:=Rd he lx ly;exact⟨_,_,by simp[eqGuard,binOp,hg,iM,this],oN _,h⟩
     ·cases h
   ·cases h
  ·cases h
omit hE in
theorem Wh{op:UnOp}{x:af}{vx:Value}{K:af→Option R}(h:TE op x K=some r)(hx:aU G x vx):
  ∃ av v,(Op.unary op vx).run P w=.ok v w∧aU G av v∧K av=some r:=by
 unfold TE at h;split at h
 ·rename_i k a
  cases qG (v:=.one (.fy (.int k) a)) rfl hx;exact⟨_,_,by simp[Op.unary,Op.intArith],kX k _,h⟩
 ·rename_i a
  cases wH (v:=.one (.fy .bool a)) rfl hx;exact⟨_,_,by simp[Op.unary],oN _,h⟩
 ·cases h
end ops
end Go.Fx
namespace Go.Fx
theorem CZ(off:Nat):∀(l:List Value) (k:Nat) (c:Array Value),off+k+l.length≤c.size→
  ((l.zipIdx k).foldl (fun(cs:Array Value) (x:Value×Nat)=>cs.setIfInBounds (off+x.2) x.1) c).toList=c.toList.take (off+k)++(l++c.toList.drop (off+k+l.length))
 |[],k,c,hk=>by simp
 |x::l,k,c,hk=>by
  simp only[aAa] at hk;rw[List.zipIdx_cons,b6a,CZ off l (k+1) _ (by simp;omega)]
  rw[Array.toList_setIfInBounds];have jB:off+k<c.toList.length:=by simp;omega
  have e1:(c.toList.set (off+k) x).take (off+(k+1))=c.toList.take (off+k)++[x]:=by
   rw[show off+(k+1)=off+k+1 by omega,csa (by simpa using jB)]
   simp[List.take_set_of_le]
  have e2:(c.toList.set (off+k) x).drop (off+(k+1)+l.length)=c.toList.drop (off+k+(l.length+1)):=by rw[List.drop_set_of_lt (by omega)];congr 1;omega
  rw[e1,e2];simp
theorem MU(u:Array Value)(cs:List Value)(off:Nat)(h:off+u.size≤cs.length):
  u.zipIdx.foldl (fun(cs:Array Value) (x:Value×Nat)=>cs.setIfInBounds (off+x.2) x.1) cs.toArray=(cs.take off++(u.toList++cs.drop (off+u.toList.length))).toArray:=by
 apply cAa;have:=CZ off u.toList 0 cs.toArray (by simpa using h)
 simp only[cya] at this;rw[←Array.foldl_toList,Array.toList_zipIdx];rw[this]
theorem Gg{P:Program}{w:World}{α β:Type}(g:α→Sem β)(f:α→β):∀(l:List α),(∀ x∈l,(g x).run P w=.ok (f x) w)→(l.mapM g).run P w=.ok (l.map f) w
 |[],_=>by simp
 |x::l,h=>by
  have ih:=Gg g f l (fun y hy=>h y (by simp[hy]))
  have hx:=h x (by simp)
  simp[hx,ih]
theorem aag{P:Program}{w:World}{α β:Type}(g:α→Sem β)(f:α→β)(xs:Array α)(h:∀ x∈xs,(g x).run P w=.ok (f x) w):(xs.mapM g).run P w=.ok (xs.map f) w:=by
 rw[Array.mapM_eq_mapM_toList];have:=Gg (P:=P) (w:=w) g f xs.toList (fun x hx=>h x (by simpa using hx))
 rw[Sem.run_map,this];simp only[aFa]
 congr 1
 apply cAa;simp
theorem R9{G:Gh}:∀ l:List Value,All2 (aY G) (l.map wB) l
 |[]=>trivial
 |v::l=>by
  refine⟨?_,R9 l⟩;cases v with
  |int k n=>exact⟨_,by simp[Ty.agg],rfl,rfl⟩
  |bool b=>exact⟨_,by simp[Ty.agg],rfl,rfl⟩
  |string s=>exact⟨_,by simp[Ty.agg];rfl,by simp[gy,kz]⟩
  |slice a n c=>
   cases a with
   |none=>cases n<;>cases c<;>simp[wB,aY]
   |some a=>simp[wB,aY]
  |pointer a=>cases a<;>simp[wB,aY]
  |_=>simp[wB,aY]
theorem VT{P:Program}{E:tr}(hE:iQ P E.iK){X:mW}{st:St}{G:Gh}{w:World}(hm:aB X st G w){oq:Array Field}{fs:List (Nat×TypeId)}
  (hfs:fs=oq.toList.map fun f=>(f.offset,f.type)) (sz:TypeId→Nat) (m9:∀ t ti,E.iK t=some ti→sz t=ti.size) {ls:List ai}:
  ∀{iy:List (Nat×af)} {vs:List (Nat×Value)} {zs:List ai} {cs:List Value},All2 (fun(p:Nat×af) (q:Nat×Value)=>p.1=q.1∧aU G p.2 q.2) iy vs→
   All2 (aY G) zs cs→vd E fs zs iy=some ls→
   ∃ cs',Instr.fill ((oq.map fun f=>(f.offset,sz f.type))[·]?) cs.toArray vs=some cs'.toArray∧All2 (aY G) ls cs'
 |[],[],zs,cs,hp,hz,hb=>by simp only[vd,Ob] at hb;subst hb;exact⟨cs,rfl,hz⟩
 |[],_::_,_,_,hp,_,_=>hp.elim
 |_::_,[],_,_,hp,_,_=>hp.elim
 |(j,v)::iy,(j',u)::vs,zs,cs,hp,hz,hb=>by
  obtain⟨⟨hj,hv⟩,hp⟩:=hp;simp only at hj hv;subst hj;simp only[vd] at hb;cases hf:fs[j]? with
  |none=>simp[hf] at hb
  |some f=>
   obtain⟨off,ft⟩:=f;cases hl:v.qc with
   |none=>simp[hf,hl] at hb
   |some lv=>
    simp only[hf,hl] at hb;cases hF:E.iK ft with
    |none=>simp[hF] at hb
    |some fi=>
     simp only[hF] at hb;cases hc:(Nat.beq lv.length fi.size&&Nat.ble (off+lv.length) zs.length) with
     |false=>simp[hc] at hb
     |true=>
      simp only[hc,aja] at hb;simp only[Q3] at hc;have LV:lv.length=fi.size:=Q4 hc.1;have xS:off+lv.length≤zs.length:=aZa hc.2;have F4:=mU hm hl hv;have jB:=F4.length;have hzl:=hz.length;have hul:u.cells.size=fi.size:=by rw[←LV,jB];simp
      have adr:All2 (aY G) (mN zs off lv) (cs.take off++(u.cells.toList++cs.drop (off+u.cells.toList.length))):=by unfold mN;rw[jB];exact(hz.take off).append (F4.append (hz.drop _))
      obtain⟨cs',g1,g2⟩:=VT hE hm hfs sz m9 hp adr hb;refine⟨cs',?_,g2⟩;have agm:(oq.map fun f=>(f.offset,sz f.type))[j]? = some (off,fi.size):=by
       rw[hfs,bIa,bza] at hf;cases hq:oq[j]? with
       |none=>simp[hq] at hf
       |some fld=>simp[hq] at hf;obtain⟨rfl,rfl⟩:=hf;simp[hq,m9 _ _ hF]
      have M6:(u.cells.size≠fi.size||decide (off+u.cells.size > cs.toArray.size))=false:=by simp[hul];omega
      have Nh:Instr.fill ((oq.map fun f=>(f.offset,sz f.type))[·]?) cs.toArray ((j,u)::vs) =
        Instr.fill ((oq.map fun f=>(f.offset,sz f.type))[·]?) (u.cells.zipIdx.foldl (fun(cs:Array Value) (x:Value×Nat)=>cs.setIfInBounds (off+x.2) x.1) cs.toArray) vs:=by
       conv=>lhs;unfold Instr.fill
       simp only[agm];rw[aBa (by simpa using M6)]
      rw[Nh,MU u.cells cs off (by rw[hul,←LV,←hzl];exact xS)]
      exact g1
theorem NF{P:Program}{E:tr}(hE:iQ P E.iK){X:mW}{st:St}{G:Gh}{w:World}{R:Type}{r:R}{T:TypeId}{iy:List (Nat×af)}{vs:List (Nat×Value)}{K:af→St→Option R}(h:xH E T iy st K=some r)(hm:aB X st G w)
  (hp:All2 (fun(p:Nat×af) (q:Nat×Value)=>p.1=q.1∧aU G p.2 q.2) iy vs):
  ∃ av v,(Instr.build T vs.toArray).run P w=.ok v w∧aU G av v∧K av st=some r:=by
 unfold xH at h;cases hT:E.iK T with
 |none=>simp[hT] at h
 |some ti=>
  simp only[hT] at h;split at h
  ·rename_i fs hd
   cases fG:(fs.all fun p=>(E.iK p.2).isSome) with
   |false=>simp[fG] at h
   |true=>
    simp only[fG,aja] at h;cases hb:vd E fs (ti.zero.map wB) iy with
    |none=>simp[hb] at h
    |some ls=>
     simp only[hb] at h;obtain⟨i,d,z,h1,h2,h3,h4,h5,h6,h7,h8,h9⟩:=hE T ti hT;rw[hd] at h7;cases d with
     |struct oq=>
      simp only[zn] at h7;let sz:TypeId→Nat:=fun t=>match E.iK t with|some ti=>ti.size|none=>0
      have m9:∀ t ti,E.iK t=some ti→sz t=ti.size:=fun t ti ht=>by simp[sz,ht]
      obtain⟨cs',g1,g2⟩:=VT hE hm h7 sz m9 hp (R9 ti.zero) hb;refine⟨.agg ls,.agg cs'.toArray,?_,⟨cs',rfl,g2⟩,h⟩;have aa6:(oq.mapM fun f=>(Prod.mk f.offset <$> sizeOf f.type:Sem (Nat×Nat))).run P w=.ok (oq.map fun f=>(f.offset,sz f.type)) w:=by
       refine aag _ _ _ fun f hf=>?_;have:(E.iK f.type).isSome=true:=by
        have:=aqa.1 fG (f.offset,f.type) (by rw[h7];exact a0a.2 ⟨f,by simpa using hf,rfl⟩)
        exact this
       obtain⟨fi,hfi⟩:=cla.1 this;simp[(hE _ _ hfi).size w,m9 _ _ hfi]
      have hzc:z.cells=ti.zero.toArray:=by rw[←h6]
      simp only[Array.getElem?_map] at g1;simp[Instr.build,zeroValue,typeInfo,h1,h5,aEa h2,aa6,hzc,g1]
     |_=>simp[zn] at h7
  ·cases h
end Go.Fx
namespace Go.Fx
theorem gn{w:World}{b:Nat}{o:Obj}(h:w.heap[b]? = some o):b<w.heap.size:=(cea.1 h).1
theorem fq.lt{X:mW}{st:St}{G:Gh}{w:World}(hm:aB X st G w){x:Bool×Nat}{b:Nat}(h:fq G st x b):b<w.heap.size:=by
 obtain⟨k,n⟩:=x;cases k with
 |false=>obtain⟨⟨ls,hl⟩,rfl⟩:=h;obtain⟨arr,elem,mid,h1,_⟩:=hm.ob n ls hl;exact gn h1
 |true=>obtain⟨⟨A,hA,hs⟩,p,hp,rfl⟩:=h;exact gn (hm.ah n A hA hs p hp)
theorem ja(w:World)(o:Obj){k:Nat}(h:k<w.heap.size):(w.alloc o).heap[k]? = w.heap[k]?:=Below.Sm w o k h
where
 Below.Sm (w:World) (o:Obj) (k:Nat) (h:k<w.heap.size):(w.alloc o).heap[k]? = w.heap[k]?:=by show(w.heap.push o)[k]? = _;rw[bfa,aBa (by omega)]
theorem va(w:World)(o:Obj):(w.alloc o).heap[w.heap.size]? = some o:=by show(w.heap.push o)[w.heap.size]? = _;rw[bfa,a8a rfl]
theorem tu(w:World)(o:Obj):(w.alloc o).heap.size=w.heap.size+1:=by show(w.heap.push o).size=_;simp
theorem aB.drew{X:mW}{st:St}{G:Gh}{w:World}(hm:aB X st G w):aB X st G w.drew:=
 {sl:=hm.sl,sh:=hm.sh,ob:=hm.ob,ar:=hm.ar,ah:=hm.ah,nd:=hm.nd,qw:=hm.qw,dS:=hm.dS,ua:=hm.ua,s0:=hm.s0,sn:=hm.sn,fr:=hm.fr,sz:=hm.sz,os:=hm.os,tp:=hm.tp,out:=hm.out,pin:=hm.pin,bv:=hm.bv,ap:=hm.ap,hv:=hm.hv,ds:=hm.ds,hh:=hm.hh}
theorem BA{st:St}{k:Bool}{x:Nat}(h:st.dj k x=false){i:Nat}{v:af}(hv:st.iz i=some v):v.dj k x=false:=by
 simp only[St.dj,aGa] at h;obtain⟨⟨⟨⟨h1,h2⟩,h3⟩,h4⟩,_⟩:=h;unfold St.iz at hv;cases hr:look st.eH i with
 |some u=>rw[hr] at hv;cases hv;have:=aTa.1 h1 _ (ep hr);simpa using this
 |none=>rw[hr] at hv;have:=aTa.1 h2 _ (ep hv);simpa using this
theorem sx{st:St}{k:Bool}{x:Nat}(h:st.dj k x=false){o:Nat}{ls:List ai}(ho:st.dT o=some ls):∀ j,(st.kg o j ls).any (ai.dj k x)=false:=by
 simp only[St.dj,aGa] at h;obtain⟨⟨⟨⟨h1,h2⟩,h3⟩,h4⟩,_⟩:=h;have hl:ls.any (ai.dj k x)=false:=by have:=aTa.1 h3 _ (ep ho);simpa using this
 have Bj:∀ j l,l.dj k x=false→(st.res o j l).dj k x=false:=fun j l hl=>by
  cases l with
  |vb=>
   simp only[St.res];cases hb:et st.cK o j with
   |none=>rfl
   |some l'=>have h5:=aTa.1 h4 _ (J4 hb);simpa using h5
  |_=>exact hl
 have key:∀(ls:List ai),ls.any (ai.dj k x)=false→∀ j,(st.kg o j ls).any (ai.dj k x)=false:=by
  intro ls;induction ls with
  |nil=>intro _ _;rfl
  |cons l ls ih=>intro h j;simp only[cLa,aGa] at h;simp only[St.kg,cLa,aGa];exact⟨Bj j l h.1,ih h.2 (j+1)⟩
 exact key ls hl
theorem EZ{st:St}{x:Nat}(h:st.dj false x=false){a:Nat}{A:jV}(ha:st.arr a=some A){i o:Nat}(hm:A.md=.Ds i o):o≠x:=by
 simp only[St.dj,aGa,Bool.not_false,Bool.true_and] at h;obtain⟨_,h1,h2⟩:=h;have key:A.J2 x=false:=by
  unfold St.arr at ha;cases hr:look st.cT a with
  |some u=>rw[hr] at ha;cases ha;have:=aTa.1 h1 _ (ep hr);simpa using this
  |none=>rw[hr] at ha;have:=aTa.1 h2 _ (ep ha);simpa using this
 intro e;subst e;simp[jV.J2,hm] at key
theorem bQ.le{G G':Gh}{k:Bool}{x:Nat}(h:G.Le G' k x){st st':St}(hn:st'.n=st.n)(xC:∀ i,st'.iz i=st.iz i)(Ky:st.dj k x=false){a:Act}(r:bQ G st a):bQ G' st' a:=
 ⟨r.1.trans h.ds.symm,r.2.1.trans hn.symm,fun i v hv=>by
  rw[xC i] at hv;exact(r.2.2 i v hv).le h (BA Ky hv)⟩
theorem vD(st:St)(o:Nat):∀(j:Nat) (ls:List ai),ls.any ai.pV=false→st.kg o j ls=ls
 |_,[],_=>rfl
 |j,l::r,h=>by simp only[cLa,aGa] at h;simp only[St.kg,vD st o (j+1) r h.2];cases l<;>simp_all[St.res,ai.pV]
theorem aB.UX{X:mW}{st:St}{G:Gh}{w:World}(hm:aB X st G w){o:Nat}{ls:List ai}{arr:Array Value}{elem:TypeId}(ho:st.dT o=none)(Ky:st.dj false o=false)
  (hb:ls.any ai.pV=false) (hlm:ls.any (ai.dj false o)=false) (Oj:All2 (aY G) ls arr.toList):
  ∃ G',aB X (st.qP o ls) G' (w.alloc (.cells arr elem (0,0)))∧G.Le G' false o∧aU G' (.one (.lB o 0)) (.pointer (some ⟨w.heap.size,0,none⟩)):=by
 let G':Gh:={G with φ:=fun q=>if q=o then w.heap.size else G.φ q,pre:=fun q=>if q=o then [] else G.pre q,post:=fun q=>if q=o then [] else G.post q}
 have B8:G.Le G' false o:=⟨fun _ _ h=>h,fun q h=>by simp[G',h rfl],fun q h=>by simp[G',h rfl],fun q h=>by simp[G',h rfl],fun _ _=>rfl,fun _=>rfl,fun _ _=>rfl,rfl⟩
 have nW:∀ x b,fq G' (st.qP o ls) x b→(x=(false,o)∧b=w.heap.size)∨(fq G st x b∧x≠(false,o)):=fun x b hx=>by
  obtain⟨k,n⟩:=x;cases k with
  |true=>exact .inr ⟨hx,by simp⟩
  |false=>
   obtain⟨⟨l,hl⟩,rfl⟩:=hx;rw[kW] at hl;by_cases e:o=n
   ·subst e;exact .inl ⟨rfl,by simp[G']⟩
   ·simp only[e,aka] at hl
    have ik:n≠o:=fun h=>e h.symm;exact .inr ⟨⟨⟨l,hl⟩,by simp[G',ik]⟩,by simpa using ik⟩
 have UI:∀ x b,fq G st x b→b≠w.heap.size:=fun x b h e=>by have:=fq.lt hm h;omega
 refine⟨G',?_,B8,by simp[aU,aY,G']⟩
 refine {sl:=hm.sl,sh:=?_,ob:=?_,ar:=?_,ah:=?_,nd:=?_,qw:=?_,dS:=?_,ua:=?_,s0:=hm.s0,sn:=hm.sn,fr:=?_,sz:=?_,os:=hm.os,tp:=hm.tp,out:=hm.out,pin:=fun q p h=>(by obtain⟨⟨l,h1⟩,h2⟩:=hm.pin q p h;have ik:q≠o:=(fun e=>absurd ho (by rw[←e,h1];simp));exact⟨⟨l,by rw[kW,aBa (bDa ik)];exact h1⟩,by simp[G',ik,h2]⟩),bv:=fun q j u h=>(by obtain⟨h1,⟨l,h2,h3⟩,yp,rK,h4,h5⟩:=hm.bv q j u h;have ik:q≠o:=(fun e=>absurd ho (by rw[←e,h2];simp));exact⟨h1,⟨l,by rw[kW,aBa (bDa ik)];exact h2,h3⟩,yp,rK,by simp only[G',ik,aka];rw[ja w _ (gn h4)];exact h4,by simp only[G',ik,aka];exact h5⟩),ap:=hm.ap,hv:=hm.hv,ds:=hm.ds,hh:=hm.hh}
 ·intro b ob hb
  rw[ja w _ (gn (hm.sh b ob hb))];exact hm.sh b ob hb
 ·intro q l hq
  rw[kW] at hq;by_cases e:o=q
  ·subst e
   simp only[ava,Ob] at hq;subst hq;refine⟨arr,elem,arr.toList,by simp only[G',ava];exact va w _,by simp[G'],?_⟩
   unfold ix;rw[vD _ _ _ _ hb];exact BW B8 hlm Oj
  ·simp only[e,aka] at hq
   obtain⟨arr',Ps,mid,g1,g2,g3⟩:=hm.ob q l hq;have hqo:q≠o:=fun h=>e h.symm;refine⟨arr',Ps,mid,by simp only[G',hqo,aka];rw[ja w _ (gn g1)];exact g1,by simp only[G',hqo,aka];exact g2,?_⟩
   unfold ix at g3 ⊢;rw[kh (st:=st) (fun j l=>by simp)]
   exact BW B8 (sx Ky hq 0) g3
 ·intro a A hA
  refine(hm.ar a A hA).mono (G:=G) (a:=a) (G':=G') (a':=a) (fun _ _ h=>h) rfl rfl (fun i q hq=>?_);have ik:=EZ Ky hA hq;exact⟨by simp[G',ik],by simp[G',ik],by simp[G',ik]⟩
 ·intro a A hA hs p hp
  have:=hm.ah a A hA hs p hp;rw[ja w _ (gn this)];exact this
 ·exact hm.nd
 ·intro x y b hx hy
  rcases nW x b hx with ⟨rfl,rfl⟩|⟨h1,h2⟩<;>rcases nW y _ hy with ⟨rfl,h⟩|⟨h3,h4⟩
  ·rfl
  ·exact absurd rfl (UI y _ h3)
  ·exact absurd h (UI x _ h1)
  ·exact hm.qw x y b h1 h3
 ·intro x b hx
  rcases nW x b hx with ⟨rfl,rfl⟩|⟨h1,h2⟩
  ·cases hS:G.S w.heap.size with
   |none=>rfl
   |some ob=>have:=gn (hm.sh _ _ hS);omega
  ·exact hm.dS x b h1
 ·intro x b hx
  rcases nW x b hx with ⟨rfl,rfl⟩|⟨h1,h2⟩
  ·exact .inr hm.sz
  ·exact hm.ua x b h1
 ·intro b hb hn
  have:=hm.fr b hb hn;rw[ja w _ (by have:=hm.sz;omega)];exact this
 ·rw[tu];have:=hm.sz;omega
theorem adi{X:mW}{st:St}{G G':Gh}{w:World}(hm:aB X st G w){a:Nat}{A:jV}(hA:A.nest=false)(h:∀ q,q≠a→G'.HV q (G'.vn q)=G.HV q (G.vn q)∧G'.HA q=G.HA q):
  ∀ q B,(st.gW a A).arr q=some B→B.sh=false→B.nest=true→G'.HV q (G'.vn q)=kI (G'.HA q):=fun q B hB Ca hn=>by
 rw[dM] at hB;by_cases e:a=q
 ·simp only[e,ava,Ob] at hB;rw[←hB,hA] at hn;cases hn
 ·simp only[e,aka] at hB
  obtain⟨h1,h2⟩:=h q (fun h=>e h.symm);rw[h1,h2];exact hm.hh q B hB Ca hn
theorem Xt{A:jV}(h:A.bA=false):A.nest=false:=by have:=ET h;simp[jV.nest,this]
theorem aB.Ax{X:mW}{st:St}{G:Gh}{w:World}(hm:aB X st G w){a:Nat}{t:Ty}{l:List t.nM}{arr:Array Value}{elem:TypeId}{cells rest:List Value}{cap:Nat}{dp:Bool}(ha:st.arr a=none)(Ky:st.dj true a=false)
  (px:arr.toList=cells++rest) (Xi:cap * t.size≤arr.size) (jB:l.length≤cap) (hl:RepL (gy G.S dp t) cells l []):
  ∃ G',aB X (st.gW a ⟨t,bif dp then .bA else .eL,false,l⟩) G' (w.alloc (.cells arr elem (0,0)))∧G.Le G' true a∧aU G' (.one (.mX a)) (.slice (some ⟨w.heap.size,0,none⟩) l.length cap):=by
 let G':Gh:={G with ψ:=fun q=>if q=a then .slice (some ⟨w.heap.size,0,none⟩) l.length cap else G.ψ q,HA:=fun q=>if q=a then [(w.heap.size,.cells arr elem (0,0))] else G.HA q,HV:=fun q=>if q=a then fun _=>arr.toList else G.HV q}
 have B8:G.Le G' true a:=⟨fun _ _ h=>h,fun _ _=>rfl,fun _ _=>rfl,fun _ _=>rfl,fun q h=>by simp[G',h rfl],fun _=>rfl,fun q h=>by simp[G',h rfl],rfl⟩
 have UI:∀ x b,fq G st x b→b≠w.heap.size:=fun x b h e=>by have:=fq.lt hm h;omega
 have nW:∀ x b,fq G' (st.gW a ⟨t,bif dp then .bA else .eL,false,l⟩) x b→(x=(true,a)∧b=w.heap.size)∨(fq G st x b∧x≠(true,a)):=fun x b hx=>by
  obtain⟨k,n⟩:=x;cases k with
  |false=>exact .inr ⟨hx,by simp⟩
  |true=>
   obtain⟨⟨A,hA,hs⟩,p,hp,rfl⟩:=hx;rw[dM] at hA;by_cases e:a=n
   ·subst e
    simp only[G',ava,Q7] at hp;exact .inl ⟨rfl,by rw[hp]⟩
   ·simp only[e,aka] at hA
    have ik:n≠a:=fun h=>e h.symm;simp only[G',ik,aka] at hp;exact .inr ⟨⟨⟨A,hA,hs⟩,p,hp,rfl⟩,by simpa using ik⟩
 refine⟨G',?_,B8,by simp[aU,aY,G']⟩
 refine {sl:=?_,sh:=?_,ob:=?_,ar:=?_,ah:=?_,nd:=?_,qw:=?_,dS:=?_,ua:=?_,s0:=hm.s0,sn:=hm.sn,fr:=?_,sz:=?_,os:=hm.os,tp:=hm.tp,out:=hm.out,pin:=hm.pin,bv:=fun q j u h=>(by obtain⟨h1,h2,yp,rK,h4,h5⟩:=hm.bv q j u h;exact⟨h1,h2,yp,rK,by rw[ja w _ (gn h4)];exact h4,h5⟩),ap:=fun q u h=>(by obtain⟨h1,⟨B,h2⟩,h3⟩:=hm.ap q u h;have ik:q≠a:=(fun e=>by subst e;rw[ha] at h2;cases h2);exact⟨h1,⟨B,by rw[dM,aBa (bDa ik)];exact h2⟩,by simp[G',ik,h3]⟩),hv:=hm.hv,ds:=hm.ds,hh:=fun q B hB Ca hn=>(by
   rw[dM] at hB;by_cases e:a=q
   ·subst e;simp[G',kI]
   ·simp only[e,aka] at hB
    have ik:q≠a:=fun h=>e h.symm;simp only[G',ik,aka];exact hm.hh q B hB Ca hn)}
 ·intro q
  by_cases e:q=a
  ·exact .inl ⟨some ⟨w.heap.size,0,none⟩,l.length,cap,by simp[G',e]⟩
  ·have:=hm.sl q;simpa[G',e] using this
 ·intro b ob hb
  rw[ja w _ (gn (hm.sh b ob hb))];exact hm.sh b ob hb
 ·intro q ls hq
  obtain⟨arr',Ps,mid,g1,g2,g3⟩:=hm.ob q ls hq;refine⟨arr',Ps,mid,by rw[ja w _ (gn g1)];exact g1,g2,?_⟩
  unfold ix at g3 ⊢;rw[kh (st:=st) (fun j l=>by simp)]
  exact BW B8 (sx Ky hq 0) g3
 ·intro b B hB
  rw[dM] at hB;by_cases e:a=b
  ·subst e
   simp only[ava,Ob] at hB;subst hB;refine(ig rfl (by cases dp<;>rfl)).2 ?_
   rw[show(⟨t,bif dp then Md.bA else Md.eL,false,l⟩:jV).bA=dp by cases dp<;>rfl]
   exact .inr ⟨w.heap.size,cap,arr,elem,cells,rest,[],by simp[G'],by simp[G'],px,Xi,jB,hl⟩
  ·simp only[e,aka] at hB
   have ik:b≠a:=fun h=>e h.symm;exact(hm.ar b B hB).mono (G:=G) (a:=b) (G':=G') (a':=b) (fun _ _ h=>h) (by simp[G',ik]) (by simp[G',ik]) (fun _ _ _=>⟨rfl,rfl,rfl⟩)
 ·intro b B hB hs p hp
  rw[dM] at hB;by_cases e:a=b
  ·subst e
   simp only[G',ava,Q7] at hp;rw[hp];exact va w _
  ·simp only[e,aka] at hB
   have ik:b≠a:=fun h=>e h.symm;simp only[G',ik,aka] at hp;have:=hm.ah b B hB hs p hp;rw[ja w _ (gn this)];exact this
 ·intro b B hB hs
  rw[dM] at hB;by_cases e:a=b
  ·subst e;simp[G']
  ·simp only[e,aka] at hB
   have ik:b≠a:=fun h=>e h.symm;simp only[G',ik,aka];exact hm.nd b B hB hs
 ·intro x y b hx hy
  rcases nW x b hx with ⟨rfl,rfl⟩|⟨h1,h2⟩<;>rcases nW y _ hy with ⟨rfl,h⟩|⟨h3,h4⟩
  ·rfl
  ·exact absurd rfl (UI y _ h3)
  ·exact absurd h (UI x _ h1)
  ·exact hm.qw x y b h1 h3
 ·intro x b hx
  rcases nW x b hx with ⟨rfl,rfl⟩|⟨h1,h2⟩
  ·cases hS:G.S w.heap.size with
   |none=>rfl
   |some ob=>have:=gn (hm.sh _ _ hS);omega
  ·exact hm.dS x b h1
 ·intro x b hx
  rcases nW x b hx with ⟨rfl,rfl⟩|⟨h1,h2⟩
  ·exact .inr hm.sz
  ·exact hm.ua x b h1
 ·intro b hb hn
  have:=hm.fr b hb hn;rw[ja w _ (by have:=hm.sz;omega)];exact this
 ·rw[tu];have:=hm.sz;omega
theorem aB.Ra{X:mW}{st:St}{G:Gh}{w:World}(hm:aB X st G w)(a:Nat)(hb:look st.gc a=none)(Xl:fk a st.pin=false):aB X {st with cT:=FZ st.cT a} G w:=by
 have px:∀ q,({st with cT:=FZ st.cT a}:St).arr q=if a=q then none else st.arr q:=fun q=>by
  simp only[St.arr,qJ];by_cases e:a=q
  ·subst e;simp[hb]
  ·simp[e]
 have nW:∀ x b,fq G {st with cT:=FZ st.cT a} x b→fq G st x b:=fun x b hx=>by
  obtain⟨k,n⟩:=x;cases k with
  |false=>exact hx
  |true=>
   obtain⟨⟨A,hA,hs⟩,hp⟩:=hx;rw[px] at hA;by_cases e:a=n
   ·simp[e] at hA
   ·simp only[e,aka] at hA;exact⟨⟨A,hA,hs⟩,hp⟩
 refine {sl:=hm.sl,sh:=hm.sh,ob:=?_,ar:=?_,ah:=?_,nd:=?_,qw:=fun x y b hx hy=>hm.qw x y b (nW x b hx) (nW y b hy),dS:=fun x b hx=>hm.dS x b (nW x b hx),ua:=fun x b hx=>hm.ua x b (nW x b hx),s0:=hm.s0,sn:=hm.sn,fr:=hm.fr,sz:=hm.sz,os:=hm.os,tp:=hm.tp,out:=hm.out,pin:=hm.pin,bv:=hm.bv,ap:=fun q u h=>(by obtain⟨h1,⟨B,h2⟩,h3⟩:=hm.ap q u h;have ik:a≠q:=(fun e=>by subst e;rw[Xl] at h1;cases h1);exact⟨h1,⟨B,by rw[px,aBa ik];exact h2⟩,h3⟩),hv:=hm.hv,ds:=hm.ds,hh:=fun q B hB Ca hn=>(by rw[px] at hB;by_cases e:a=q<;>simp only[e,ava,aka] at hB<;>first|cases hB|exact hm.hh q B hB Ca hn)}
 ·intro o ls ho
  obtain⟨arr,elem,mid,h1,h2,h3⟩:=hm.ob o ls ho;refine⟨arr,elem,mid,h1,h2,?_⟩;unfold ix at h3 ⊢;rw[kh (st:=st) (fun j l=>by cases l<;>rfl)]
  exact h3
 ·intro b B hB
  rw[px] at hB;by_cases e:a=b
  ·simp[e] at hB
  ·simp only[e,aka] at hB;exact hm.ar b B hB
 ·intro b B hB
  rw[px] at hB;by_cases e:a=b
  ·simp[e] at hB
  ·simp only[e,aka] at hB;exact hm.ah b B hB
 ·intro b B hB
  rw[px] at hB;by_cases e:a=b
  ·simp[e] at hB
  ·simp only[e,aka] at hB;exact hm.nd b B hB
end Go.Fx
namespace Go.Fx
theorem aB.NV{X:mW}{st st':St}{G:Gh}{w w':World}(hm:aB X st G w){a dst:Nat}{A A':jV}(hA:st.arr a=some A)(hs:A.sh=false)(Ca:A'.sh=false)(how:A'.gK=true)
  {b len cap cap':Nat} {arr arr':Array Value} {elem:TypeId} {H':gz} (hψ:G.ψ a=.slice (some ⟨b,0,none⟩) len cap) (hHA:G.HA a=(b,Obj.cells arr elem (0,0))::H')
  (jK:kA (RepL (gy G.S A'.bA A'.t)) A'.t.size [.slice (some ⟨b,0,none⟩) A'.l.length cap'] A'.l ((b,Obj.cells arr' elem (0,0))::H'))
  (hw:w'.heap[b]? = some (.cells arr' elem (0,0))) (hwo:∀ k,k≠b→w'.heap[k]? = w.heap[k]?) (m9:w'.heap.size=w.heap.size) (hos:w'.os=w.os) (htp:w'.tape=w.tape) (yB:w'.output=w.output)
  (hnn:A'.nest=false) (hk:rQ st st') (px:∀ q,st'.arr q=if q=dst then some A' else if q=a then none else st.arr q)
  (aa1:(dst=a∧Value.slice (some ⟨b,0,none⟩) A'.l.length cap' = G.ψ a)∨(dst≠a∧st.arr dst=none∧st.dj true dst=false∧fk a st.pin=false)):
  ∃ G',aB X st' G' w'∧(∀ act,bQ G st act→bQ G' st' act)∧aU G' (.one (.mX dst)) (.slice (some ⟨b,0,none⟩) A'.l.length cap'):=by
 let hd:Value:=.slice (some ⟨b,0,none⟩) A'.l.length cap';let G':Gh:={G with ψ:=fun q=>if q=dst then hd else G.ψ q,HA:=fun q=>if q=dst then(b,Obj.cells arr' elem (0,0))::H' else G.HA q}
 have acm:∀ p∈G.HA a,fq G st (true,a) p.1:=fun p hp=>⟨⟨A,hA,hs⟩,p,hp,rfl⟩;have Rk:fq G st (true,a) b:=acm (b,Obj.cells arr elem (0,0)) (by rw[hHA];simp)
 have Nc:∀(l:ai) (v:Value),(dst≠a→l.dj true dst=false)→aY G l v→aY G' l v:=fun l v hl r=>by
  by_cases e:dst=a
  ·subst e
   have h2:hd=G.ψ dst:=by
    rcases aa1 with ⟨_,h⟩|⟨h,_⟩
    ·exact h
    ·exact absurd rfl h
   have hψ':G'.ψ=G.ψ:=funext fun q=>by
    by_cases hq:q=dst
    ·subst hq;simp[G',h2]
    ·simp[G',hq]
   cases l with
   |mX q=>simp only[aY,hψ'];exact r
   |DX q s i off=>simp only[aY,hψ'];exact r
   |E5 q v s i off=>exact vX.AB r (by rw[hψ']) (axa _) (fun _ _=>rfl)
   |nse q v s i off s2 j To=>obtain⟨b2,J1,Lf,h3,h4⟩:=r;exact⟨b2,J1,Lf,h3.AB (by rw[hψ']) (axa _) (fun _ _=>rfl),h4⟩
   |LP q kk n=>simp only[aY,hψ'];exact r
   |_=>exact r
  ·have B8:G.Le G' true dst:=⟨fun _ _ h=>h,fun _ _=>rfl,fun _ _=>rfl,fun _ _=>rfl,fun q h=>by simp[G',h rfl],fun _=>rfl,fun _ _=>rfl,rfl⟩
   exact r.le B8 (hl e)
 have ae8:∀(v:af) (u:Value),(dst≠a→v.dj true dst=false)→aU G v u→aU G' v u:=fun v u hl r=>by
  by_cases e:dst=a
  ·have LY:∀ l v,aY G l v→aY G' l v:=fun l v=>Nc l v (fun h=>absurd e h)
   cases v with
   |one l=>exact LY _ _ r
   |agg ls=>obtain⟨cs,e,hr⟩:=r;exact⟨cs,e,hr.imp fun _ _=>LY _ _⟩
   |KN vs=>
    obtain⟨us,e,hr⟩:=r;refine⟨us,e,hr.imp fun p u Nb=>?_⟩;split at Nb
    ·rename_i hc;simp only[hc,ava];obtain⟨cs,e,hr⟩:=Nb;exact⟨cs,e,hr.imp fun _ _=>LY _ _⟩
    ·rename_i hc
     obtain⟨l,e,hr⟩:=Nb;simp only[bCa] at hc;simp only[hc,asa,aka];exact⟨l,e,LY _ _ hr⟩
   |Au t ls=>obtain⟨u,cs,e1,e2,hr⟩:=r;exact⟨u,cs,e1,e2,hr.imp fun _ _=>LY _ _⟩
  ·have B8:G.Le G' true dst:=⟨fun _ _ h=>h,fun _ _=>rfl,fun _ _=>rfl,fun _ _=>rfl,fun q h=>by simp[G',h rfl],fun _=>rfl,fun _ _=>rfl,rfl⟩
   exact r.le B8 (hl e)
 have vm:dst≠a→st.dj true dst=false:=fun h=>by rcases aa1 with ⟨e,_⟩|⟨_,_,h,_⟩;exact absurd e h;exact h
 have nW:∀ x c,fq G' st' x c→(x=(true,dst)∧fq G st (true,a) c)∨(fq G st x c∧x≠(true,a)∧x≠(true,dst)):=fun x c hx=>by
  obtain⟨k,n⟩:=x;cases k with
  |false=>obtain⟨⟨ls,hl⟩,rfl⟩:=hx;rw[hk.dT] at hl;exact .inr ⟨⟨⟨ls,hl⟩,rfl⟩,by simp,by simp⟩
  |true=>
   obtain⟨⟨B,hB,JR⟩,p,hp,rfl⟩:=hx;rw[px] at hB;by_cases e:n=dst
   ·subst e
    simp only[G',ava,ala] at hp;refine .inl ⟨rfl,?_⟩;rcases hp with rfl|hp
    ·exact Rk
    ·exact acm p (by rw[hHA];simp[hp])
   ·simp only[e,aka] at hB
    by_cases e2:n=a
    ·simp[e2] at hB
    ·simp only[e2,aka] at hB
     simp only[G',e,aka] at hp;exact .inr ⟨⟨⟨B,hB,JR⟩,p,hp,rfl⟩,by simpa using e2,by simpa using e⟩
 have hnb:∀ x c,fq G st x c→x≠(true,a)→c≠b:=fun x c h hx e=>hx (hm.qw x (true,a) b (e ▸ h) Rk);refine⟨G',?_,?_,by simp[aU,aY,G',hd]⟩
 ·refine {sl:=?_,sh:=?_,ob:=?_,ar:=?_,ah:=?_,nd:=?_,qw:=?_,dS:=?_,ua:=?_,s0:=hm.s0,sn:=hm.sn,fr:=?_,sz:=?_,os:=hos.trans hm.os,tp:=htp.trans hm.tp,out:=yB.trans hm.out,pin:=fun o p h=>(by obtain⟨⟨l,h1⟩,h2⟩:=hm.pin o p h;exact⟨⟨l,by rw[hk.dT];exact h1⟩,h2⟩),bv:=fun o j u h=>(by obtain⟨h1,⟨l,h2,h3⟩,yp,rK,h4,h5⟩:=hm.bv o j u h;exact⟨by rw[hk.bl];exact h1,⟨l,by rw[hk.dT];exact h2,h3⟩,yp,rK,by rw[hwo _ (hnb (false,o) _ ⟨⟨l,h2⟩,rfl⟩ (by simp))];exact h4,h5⟩),ap:=fun q u h=>(by
   obtain⟨h1,⟨B,h2⟩,h3⟩:=hm.ap q u h;refine⟨by rw[hk.pn];exact h1,?_,?_⟩
   ·rw[px]
    by_cases e:q=dst
    ·exact⟨A',by rw[a8a e]⟩
    ·rw[aBa e]
     by_cases e2:q=a
     ·rcases aa1 with ⟨e3,_⟩|⟨_,_,_,e3⟩
      ·exact absurd (e2.trans e3.symm) e
      ·rw[←e2,h1] at e3;cases e3
     ·exact⟨B,by rw[aBa e2];exact h2⟩
   ·by_cases e:q=dst
    ·rcases aa1 with ⟨e3,e4⟩|⟨_,e3,_⟩
     ·simp only[G',e,ava,hd];rw[e4,←e3,←e];exact h3
     ·rw[←e,h2] at e3;cases e3
    ·simp[G',e,h3]),
          hv:=fun q=>(by unfold St.dH;rw[hk.vr];exact hm.hv q),
          ds:=hm.ds,hh:=fun q B hB hs2 hn=>(by
        rw[px] at hB;by_cases e:q=dst
        ·simp only[e,ava,Ob] at hB;rw[←hB,hnn] at hn;cases hn
        ·simp only[e,aka] at hB
         by_cases e2:q=a
         ·simp[e2] at hB
         ·simp only[e2,aka] at hB;simp only[G',e,aka];exact hm.hh q B hB hs2 hn)}
  ·intro q
   by_cases e:q=dst
   ·exact .inl ⟨some ⟨b,0,none⟩,A'.l.length,cap',by simp[G',e,hd]⟩
   ·have:=hm.sl q;simpa[G',e] using this
  ·intro c o hc
   have:c≠b:=fun e=>by have:=hm.dS _ _ Rk;rw[←e] at this;rw[show G'.S=G.S from rfl,this] at hc;cases hc
   rw[hwo c this];exact hm.sh c o hc
  ·intro o ls ho
   rw[hk.dT] at ho;obtain⟨yp,rK,mid,g1,g2,g3⟩:=hm.ob o ls ho;have ik:G.φ o≠b:=hnb (false,o) _ ⟨⟨ls,ho⟩,rfl⟩ (by simp)
   refine⟨yp,rK,mid,by rw[hwo _ ik];exact g1,g2,?_⟩
   unfold ix at g3 ⊢;rw[kh (st:=st) (fun j l=>hk.res o j l)];refine g3.vp fun l v hl hr=>Nc l v (fun ik=>?_) hr;have:=sx (vm ik) ho 0;have:=aTa.1 this l hl;simpa using this
  ·intro q B hB
   rw[px] at hB;by_cases e:q=dst
   ·subst e
    simp only[ava,Ob] at hB;subst hB;refine(ig Ca how).2 ?_;simpa[G',hd] using jK
   ·simp only[e,aka] at hB
    by_cases e2:q=a
    ·simp[e2] at hB
    ·simp only[e2,aka] at hB
     exact(hm.ar q B hB).mono (G:=G) (a:=q) (G':=G') (a':=q) (fun _ _ h=>h) (by simp[G',e]) (by simp[G',e]) (fun _ _ _=>⟨rfl,rfl,rfl⟩)
  ·intro q B hB JR p hp
   rw[px] at hB;by_cases e:q=dst
   ·subst e
    simp only[G',ava,ala] at hp;rcases hp with rfl|hp
    ·exact hw
    ·have Ji:p∈G.HA a:=by rw[hHA];simp[hp]
     have ik:p.1≠b:=fun e=>by have Iv:=hm.nd a A hA hs;rw[hHA] at Iv;simp only[aHa,a3a] at Iv;exact Iv.1 (by rw[←e];exact aIa hp)
     rw[hwo _ ik];exact hm.ah a A hA hs p Ji
   ·simp only[e,aka] at hB
    by_cases e2:q=a
    ·simp[e2] at hB
    ·simp only[e2,aka] at hB
     simp only[G',e,aka] at hp;have ik:p.1≠b:=hnb (true,q) _ ⟨⟨B,hB,JR⟩,p,hp,rfl⟩ (by simpa using e2)
     rw[hwo _ ik];exact hm.ah q B hB JR p hp
  ·intro q B hB JR
   rw[px] at hB;by_cases e:q=dst
   ·subst e
    simp only[G',ava];have:=hm.nd a A hA hs;rw[hHA] at this;simpa using this
   ·simp only[e,aka] at hB
    by_cases e2:q=a
    ·simp[e2] at hB
    ·simp only[e2,aka] at hB
     simp only[G',e,aka];exact hm.nd q B hB JR
  ·intro x y c hx hy
   rcases nW x c hx with ⟨rfl,h1⟩|⟨h1,h2,h2'⟩<;>rcases nW y c hy with ⟨rfl,h3⟩|⟨h3,h4,h4'⟩
   ·rfl
   ·exact absurd (hm.qw y (true,a) c h3 h1) h4
   ·exact absurd (hm.qw x (true,a) c h1 h3) h2
   ·exact hm.qw x y c h1 h3
  ·intro x c hx
   rcases nW x c hx with ⟨rfl,h1⟩|⟨h1,_⟩
   ·exact hm.dS _ c h1
   ·exact hm.dS x c h1
  ·intro x c hx
   rcases nW x c hx with ⟨rfl,h1⟩|⟨h1,_⟩
   ·exact hm.ua _ c h1
   ·exact hm.ua x c h1
  ·intro c hc hn
   have:c≠b:=fun e=>by
    rcases hm.ua _ _ Rk with h|h
    ·exact hn (e ▸ h)
    ·omega
   rw[hwo c this];exact hm.fr c hc hn
  ·rw[m9];exact hm.sz
 ·intro act r
  refine⟨r.1,r.2.1.trans hk.n.symm,fun i v hv=>?_⟩;rw[hk.iz] at hv;exact ae8 v _ (fun ik=>BA (vm ik) hv) (r.2.2 i v hv)
theorem Rm(w:World)(b o:Nat)(v:Value){arr:Array Value}{elem:TypeId}{fz:Nat×Nat}(h:w.heap[b]? = some (.cells arr elem fz)):
  (w.setCell ⟨b,o,none⟩ v).heap[b]? = some (.cells (arr.setIfInBounds o v) elem fz):=by
 simp[World.setCell,cwa,h]
theorem Lu(w:World)(b o k:Nat)(v:Value)(h:k≠b):(w.setCell ⟨b,o,none⟩ v).heap[k]? = w.heap[k]?:=by simp only[World.setCell,cwa];rw[aBa (by omega)]
theorem ot(b:Nat):∀(vs:List Value) (o:Nat) (w:World) {arr:Array Value} {elem:TypeId} {fz:Nat×Nat},w.heap[b]? = some (.cells arr elem fz)→o+vs.length≤arr.size→
  ∃ arr',(w.setCells b o vs).heap[b]? = some (.cells arr' elem fz)∧arr'.toList=arr.toList.take o++(vs++arr.toList.drop (o+vs.length))∧(∀ k,k≠b→(w.setCells b o vs).heap[k]? = w.heap[k]?)∧
   (w.setCells b o vs).heap.size=w.heap.size∧(w.setCells b o vs).os=w.os∧(w.setCells b o vs).tape=w.tape∧(w.setCells b o vs).output=w.output
 |[],o,w,arr,elem,fz,h,hl=>⟨arr,h,by simp,fun _ _=>rfl,rfl,rfl,rfl,rfl⟩
 |v::vs,o,w,arr,elem,fz,h,hl=>by
  simp only[aAa] at hl;obtain⟨arr',h1,h2,h3,h4,h5,h6,h7⟩:=ot b vs (o+1) (w.setCell ⟨b,o,none⟩ v) (Rm w b o v h) (by simp;omega)
  refine⟨arr',h1,?_,fun k hk=>(h3 k hk).trans (Lu w b o k v hk),h4.trans (by simp[World.setCell]),h5,h6,h7⟩
  rw[h2,Array.toList_setIfInBounds];have jB:o<arr.toList.length:=by simp;omega
  have e1:(arr.toList.set o v).take (o+1)=arr.toList.take o++[v]:=by rw[csa (by simpa using jB)];simp[List.take_set_of_le]
  have e2:(arr.toList.set o v).drop (o+1+vs.length)=arr.toList.drop (o+(vs.length+1)):=by rw[List.drop_set_of_lt (by omega)];congr 1;omega
  rw[e1,e2];simp
theorem BL{w:World}{b:Nat}{arr:Array Value}{elem:TypeId}(h:w.heap[b]? = some (.cells arr elem (0,0))){o n:Nat}(hn:o+n≤arr.size):w.there b o n:=by
 intro j hj;have:(arr[o+j]?).isSome=true:=by simp;omega
 exact⟨by simp[World.cell?,h];omega,by simp[World.frozen?,h]⟩
end Go.Fx
namespace Go.Fx
theorem ME{ls:List ai}(h:ls.all ai.cell=true):ls.any ai.pV=false:=by rw[aTa];intro l hl;have:=aqa.1 h l hl;cases l<;>simp_all[ai.cell,ai.pV]
theorem Qi(st:St)(o:Nat):∀(n j:Nat) (ls:List ai),st.kg o j (ls.take n)=(st.kg o j ls).take n
 |0,_,_=>by simp[St.kg]
 |n+1,_,[]=>by simp[St.kg]
 |n+1,j,l::ls=>by simp[St.kg,Qi st o n (j+1) ls]
theorem Qh(st:St)(o:Nat):∀(n j:Nat) (ls:List ai),st.kg o (j+n) (ls.drop n)=(st.kg o j ls).drop n
 |0,_,_=>by simp
 |n+1,_,[]=>by simp[St.kg]
 |n+1,j,l::ls=>by simp only[List.drop_succ_cons,St.kg];rw[←Qh st o n (j+1) ls,show j+(n+1)=j+1+n by omega]
theorem Vb(st:St)(o off:Nat)(ls nl:List ai)(hn:nl.any ai.pV=false)(hl:off+nl.length≤ls.length):
  st.kg o 0 (mN ls off nl)=mN (st.kg o 0 ls) off nl:=by
 unfold mN;have e:=Qh st o (off+nl.length) 0 ls;rw[aWa] at e;rw[EC,EC,Qi,vD st o _ nl hn,cPa,Nat.min_eq_left (by omega),aWa,e]
theorem aB.T6{X:mW}{st:St}{G:Gh}{w w':World}(hm:aB X st G w){o off:Nat}{ls nl:List ai}{vs:List Value}(ho:st.dT o=some ls)(hn:nl.any ai.pV=false)(hl:off+nl.length≤ls.length)(hcb:((ls.drop off).take nl.length).any ai.pV=false)
  (hv:All2 (aY G) nl vs) {arr arr':Array Value} {elem:TypeId} {mid:List Value} (g1:w.heap[G.φ o]? = some (.cells arr elem (0,0))) (g2:arr.toList=G.pre o++(mid++G.post o)) (g3:ix G st o 0 ls mid)
  (hw:w'.heap[G.φ o]? = some (.cells arr' elem (0,0))) (M0:arr'.toList=G.pre o++((mid.take off++(vs++mid.drop (off+vs.length)))++G.post o))
  (hwo:∀ k,k≠G.φ o→w'.heap[k]? = w.heap[k]?) (m9:w'.heap.size=w.heap.size) (hos:w'.os=w.os) (htp:w'.tape=w.tape) (yB:w'.output=w.output):
  aB X (st.qP o (mN ls off nl)) G w':=by
 have jK:fq G st (false,o) (G.φ o):=⟨⟨ls,ho⟩,rfl⟩;have nW:∀ x c,fq G (st.qP o (mN ls off nl)) x c→fq G st x c:=fun x c hx=>by
  obtain⟨k,n⟩:=x;cases k with
  |true=>exact hx
  |false=>
   obtain⟨⟨l,h⟩,rfl⟩:=hx;rw[kW] at h;by_cases e:o=n
   ·subst e;exact jK
   ·simp only[e,aka] at h;exact⟨⟨l,h⟩,rfl⟩
 have hnb:∀ x c,fq G st x c→x≠(false,o)→c≠G.φ o:=fun x c h hx e=>hx (hm.qw x (false,o) _ (e ▸ h) jK);refine {sl:=hm.sl,sh:=?_,ob:=?_,ar:=hm.ar,ah:=?_,nd:=hm.nd,qw:=fun x y b hx hy=>hm.qw x y b (nW x b hx) (nW y b hy),dS:=fun x b hx=>hm.dS x b (nW x b hx),ua:=fun x b hx=>hm.ua x b (nW x b hx),s0:=hm.s0,sn:=hm.sn,fr:=?_,sz:=by rw[m9];exact hm.sz,os:=hos.trans hm.os,tp:=htp.trans hm.tp,out:=yB.trans hm.out,pin:=fun q p h=>(by obtain⟨⟨l,h1⟩,h2⟩:=hm.pin q p h;refine⟨?_,h2⟩;rw[kW];by_cases e:o=q<;>simp[e,h1]),bv:=?_,ap:=hm.ap,hv:=hm.hv,ds:=hm.ds,hh:=hm.hh}
 ·intro c ob hc
  have:c≠G.φ o:=fun e=>by have:=hm.dS _ _ jK;rw[←e,hc] at this;cases this
  rw[hwo c this];exact hm.sh c ob hc
 ·intro q l hq
  rw[kW] at hq;by_cases e:o=q
  ·subst e
   simp only[ava,Ob] at hq;subst hq;refine⟨arr',elem,_,hw,M0,?_⟩;unfold ix at g3 ⊢;rw[kh (st:=st) (fun j l=>by simp),Vb st o off ls nl hn hl]
   unfold mN;rw[hv.length];exact(g3.take off).append (hv.append (g3.drop _))
  ·simp only[e,aka] at hq
   obtain⟨yp,rK,agK,k1,k2,k3⟩:=hm.ob q l hq;have ik:G.φ q≠G.φ o:=hnb (false,q) _ ⟨⟨l,hq⟩,rfl⟩ (by simpa using fun h=>e h.symm)
   refine⟨yp,rK,agK,by rw[hwo _ ik];exact k1,k2,?_⟩
   unfold ix at k3 ⊢;rw[kh (st:=st) (fun j l=>by simp)]
   exact k3
 ·intro a A hA hs p hp
  have ik:p.1≠G.φ o:=hnb (true,a) _ ⟨⟨A,hA,hs⟩,p,hp,rfl⟩ (by simp)
  rw[hwo _ ik];exact hm.ah a A hA hs p hp
 ·intro c hc hn
  have:c≠G.φ o:=fun e=>by
   rcases hm.ua _ _ jK with h|h
   ·exact hn (e ▸ h)
   ·rw[←e] at h;omega
  rw[hwo c this];exact hm.fr c hc hn
 ·intro q j u h
  obtain⟨h1,⟨l,h2,h3⟩,yp,rK,h4,h5⟩:=hm.bv q j u h;by_cases e:o=q
  ·subst e
   rw[ho] at h2;cases h2;rw[g1] at h4;cases h4;have hml:mid.length=ls.length:=by have:=All2.length g3;rw[iX] at this;exact this.symm
   have hj:j<ls.length:=(ama.1 h3).1;have hvl:=hv.length;have yB:j<off∨off+nl.length≤j:=by
    rcases cQa j off with h' | h'
    ·exact .inl h'
    ·refine .inr (cta fun h''=>?_)
     have ii:((ls.drop off).take nl.length)[j - off]? = some .vb:=by rw[bra (by omega),bQa,show off+(j - off)=j by omega];exact h3
     have:=aTa.1 hcb _ (a2a ii);exact this rfl
   have key:∀{α:Type} (x y:List α) (ys:List α),x.length=ls.length→ys.length=nl.length→(x.take off++(ys++x.drop (off+ys.length)))[j]? = x[j]?:=fun x y ys hx hy=>by
    rcases yB with h' | h'
    ·rw[aUa (by simp;omega),bra h']
    ·rw[aSa (by simp;omega),aSa (by simp;omega),bQa]
     congr 1;simp;omega
   refine⟨h1,⟨mN ls off nl,by rw[kW,a8a rfl],by unfold mN;rw[key ls ls nl rfl rfl];exact h3⟩,arr',elem,hw,?_⟩
   rw[M0,aSa (by omega),bea]
   rw[g2,aSa (by omega),bea] at h5
   have ag6:(mid.take off++(vs++mid.drop (off+vs.length))).length=mid.length:=by simp;omega
   rw[aUa (by omega)] at h5
   rw[aUa (by omega),key mid mid vs hml (by omega)];exact h5
  ·have ik:G.φ q≠G.φ o:=hnb (false,q) _ ⟨⟨l,h2⟩,rfl⟩ (by simpa using fun h=>e h.symm)
   exact⟨h1,⟨l,by rw[kW,aBa e];exact h2,h3⟩,yp,rK,by rw[hwo _ ik];exact h4,h5⟩
theorem HC{α:Type}(pre mid post vs:List α)(off n:Nat)(h:off+n≤mid.length):
  (pre++(mid++post)).take (pre.length+off)++(vs++(pre++(mid++post)).drop (pre.length+off+n))=pre++((mid.take off++(vs++mid.drop (off+n)))++post):=by
 rw[bNa,List.take_length_add_append,List.drop_length_add_append,cBa (by omega),List.drop_append_of_le_length h]
 simp
theorem EQ{X:mW}{st:St}{G:Gh}{w:World}(hm:aB X st G w):∀{ls:List ai} {vs:List Value},ls.all ai.cell=true→All2 (aY G) ls vs→∀ v∈vs,v.oneCell' = true
 |[],[],_,_,v,hv=>by cases hv
 |l::ls,u::vs,h,a,v,hv=>by
  simp only[bqa,Q3] at h;rcases ala.1 hv with rfl|hv
  ·exact(SD hm h.1 a.1).1
  ·exact EQ hm h.2 a.2 v hv
 |[],_::_,_,h,_,_=>h.elim
 |_::_,[],_,h,_,_=>h.elim
theorem z7{P:Program}{w:World}{t:TypeId}{ti:TI}(hT:Ai P t ti){b o:Nat}{v:Value}(hl:v.cells.size=ti.size)(ht:w.there b o v.cells.size)(h1:∀ u∈v.cells.toList,u.oneCell' = true):
  (Instr.storeAt t (.pointer (some ⟨b,o,none⟩)) v).run P w=.ok () (w.setCells b o v.cells.toList):=by
 obtain⟨i,d,z,h1',h2,h3,_⟩:=hT;have:=run_storeAt_mid (P:=P) w b o t v.cells ht (by rw[h1'];simp[h3,hl]) (Array.all_eq_true_iff_forall_mem.2 fun u hu=>h1 u (by simpa using hu))
 exact this
section ops
variable {P:Program} {E:tr} (hE:iQ P E.iK) {X:mW} {st:St} {G:Gh} {w:World} {R:Type} {r:R}
include hE
theorem U3{T:TypeId}{x v:af}{vx vv:Value}{K:St→Option R}(h:xK E T x v st K=some r)(hm:aB X st G w)(hx:aU G x vx)(hv:aU G v vv):
  ∃ st' G' w',(Instr.storeAt T vx vv).run P w=.ok () w'∧aB X st' G' w'∧(∀ act,bQ G st act→bQ G' st' act)∧K st' = some r:=by
 unfold xK at h;cases hT:E.iK T with
 |none=>simp[hT] at h
 |some ti=>
  cases hl:v.qc with
  |none=>simp[hT,hl] at h
  |some vs=>
   simp only[hT,hl] at h;cases hc:(Nat.beq vs.length ti.size&&vs.all ai.cell) with
   |false=>simp[hc] at h
   |true=>
    simp only[hc,aja] at h;simp only[Q3] at hc;have jB:vs.length=ti.size:=Q4 hc.1;have F4:=mU hm hl hv;have S3:=EQ hm hc.2 F4;have Dr:vv.cells.size=ti.size:=by rw[←jB,F4.length];simp
    have hti:=hE T ti hT;cases x with
    |agg ls=>simp[af.bR] at h
    |KN ls=>simp[af.bR] at h
    |Au t ls=>simp[af.bR] at h
    |one l=>
     simp only[af.bR] at h;cases l with
     |lB o off=>
      simp only at h;cases ho:st.dT o with
      |none=>simp[ho] at h
      |some ls=>
       simp only[ho] at h;cases hs:qS ls off ti.size with
       |none=>simp[hs] at h
       |some c=>
        simp only[hs] at h;cases hb:c.any ai.pV with
        |true=>simp[hb] at h
        |false=>
         simp only[hb,aoa] at h;have B8:off+ti.size≤ls.length:=by
          unfold qS at hs;cases hq:Nat.ble (off+ti.size) ls.length with
          |false=>simp[hq] at hs
          |true=>exact aZa hq
         obtain⟨arr,elem,mid,g1,g2,g3⟩:=hm.ob o ls ho;have hml:mid.length=ls.length:=by have:=All2.length g3;rw[iX] at this;exact this.symm
         have UE:arr.size=(G.pre o).length+(mid.length+(G.post o).length):=by rw[←bga,g2];simp
         have EV:vx=.pointer (some ⟨G.φ o,(G.pre o).length+off,none⟩):=hx;have xB:(G.pre o).length+off+vv.cells.size≤arr.size:=by omega
         obtain⟨arr',k1,k2,k3,k4,k5,k6,k7⟩:=ot (G.φ o) vv.cells.toList ((G.pre o).length+off) w g1 (by simpa using xB)
         refine⟨st.qP o (mN ls off vs),G,_,by rw[EV];exact z7 hti Dr (BL g1 xB) S3,?_,fun act ha=>⟨ha.1,ha.2.1,ha.2.2⟩,h⟩
         refine hm.T6 ho (ME hc.2) (by omega) (by rw[jB];unfold qS at hs;cases hq:Nat.ble (off+ti.size) ls.length<;>simp[hq] at hs;rw[hs];exact hb) F4 g1 g2 g3 k1 ?_ k3 k4 k5 k6 k7
         have B9:vv.cells.toList.length=ti.size:=by simpa using Dr
         rw[k2,g2,B9];exact HC _ _ _ _ _ _ (by omega)
     |DX a sz i off=>
      simp only at h;cases dz:st.vF vs with
      |none=>simp[dz] at h
      |some wR=>
       simp only[dz] at h;obtain⟨G1,Lx,qa,aci⟩:=Fb dz hm;cases hA:look wR.cT a with
       |none=>simp[hA] at h
       |some A=>
        simp only[hA] at h;cases hb:(A.bA||A.sh||!Nat.beq sz A.t.size) with
        |true=>simp[hb] at h
        |false=>
         simp only[hb,aoa] at h;simp only[aGa,bpa] at hb;obtain⟨⟨hd,PD⟩,m9⟩:=hb;have m9:sz=A.t.size:=Q4 m9;obtain⟨d,hd1,h⟩:=ata.1 h;cases B8:Nat.ble (off+ti.size) A.t.size with
         |false=>simp[B8] at h
         |true=>
          simp only[B8,aja] at h;have B8:=aZa B8;cases him:pC wR A.t (mN (ka A.t d) off vs) with
          |none=>simp[him] at h
          |some p=>
           obtain⟨x',r'⟩:=p;cases r' with
           |cons=>simp[him] at h
           |nil=>
            simp only[him] at h;have jW:wR.arr a=some A:=by simp[St.arr,hA]
            obtain⟨b,len,Ys,q1,q2,rfl⟩:aY G1 (.DX a sz i off) vx:=aY.sub qa hx;have tJ:=Lx.ar a A jW
            replace tJ:=(ig PD (DZ hd)).1 tJ
            rw[hd] at tJ;have hi:A.l[i]? = some d:=by simpa[bL] using hd1
            rcases tJ with ⟨e1,e2,e3⟩|⟨b',cap,arr,elem,cells,rest,H',e1,e2,e3,e4,e5,e6⟩
            ·rw[e1] at hi;simp at hi
            ·simp only[aJa,a7a] at e1
             rw[e1] at q1;cases q1;have tY:=Lx.ah a A jW PD (b,Obj.cells arr elem (0,0)) (by rw[e2];simp)
             obtain⟨pre,cc,post,Hp,Hc,Hq,k1,k2,k3,k4,k5⟩:=RepL.at (fun c x H hr=>gy.size hr) e6 hi;have hHc:=gy.nN k4;rw[hHc] at k4 k3;have aeG:All2 (aY G1) vs vv.cells.toList:=F4.imp fun _ _=>aY.sub qa;have aeL:cc.length=A.t.size:=gy.size k4;have ado:All2 (aY G1) (mN (ka A.t d) off vs) (mN cc off vv.cells.toList):=by unfold mN;rw[aeG.length];exact((lY k4).take off).append (aeG.append ((lY k4).drop _))
             obtain⟨c1,c2,f1,f2,f3⟩:=Nk Lx him ado;cases c2 with
             |cons=>exact f3.elim
             |nil=>
              rw[bha] at f1;have wC:mN cc off vv.cells.toList=cc.take off++(vv.cells.toList++cc.drop (off+vv.cells.toList.length)):=rfl;have B9:vv.cells.toList.length=ti.size:=by simpa using Dr
              have UE:arr.size=pre.length+(cc.length+(post.length+rest.length)):=by rw[←bga,e3,k1];simp
              have xB:i * sz+off+vv.cells.size≤arr.size:=by rw[m9,←k2];omega
              obtain⟨arr',g1,g2,g3,g4,g5,g6,g7⟩:=ot b vv.cells.toList (i * sz+off) w tY (by simpa using xB)
              have hrl:=k5 c1 x' [] f2;have rU:arr'.toList=(pre++(c1++post))++rest:=by
               rw[g2,e3,k1,←f1,wC,m9,←k2,B9];have:=HC pre cc (post++rest) vv.cells.toList off ti.size (by omega)
               simpa using this
              have Zc:arr'.size=arr.size:=by
               rw[←bga,rU,UE];have LV:c1.length=cc.length:=by rw[gy.size f2,aeL]
               simp;omega
              obtain⟨G2,m2,r2,_⟩:=Lx.NV (st':=wR.gW a {A with l:=A.l.set i x' }) (a:=a) (dst:=a) (A:=A) (A':={A with l:=A.l.set i x' }) jW PD PD (show A.gK=true from DZ hd) e1 e2 (cap':=Ys) (arr':=arr') (elem:=elem)
               (.inr ⟨b,Ys,arr',elem,pre++(c1++post),rest,H',by simp,rfl,rU,by rw[Zc];exact e4,by simpa using e5,by
                rw[k3,show({A with l:=A.l.set i x' }:jV).bA=false from hd];simpa using hrl⟩)
               g1 g3 g4 g5 g6 g7 (Xt hd) ⟨rfl,fun _=>rfl,fun _=>rfl,fun o j l=>by simp,rfl,rfl,rfl⟩ (fun q=>by rw[dM];by_cases e:q=a<;>simp[e,cfa (a:=a)])
               (.inl ⟨rfl,by simp[e1]⟩)
              exact⟨_,G2,_,z7 hti Dr (BL tY xB) S3,m2,fun act ra=>r2 act (ra.sub qa aci.n aci.iz),h⟩
     |_=>simp at h
end ops
end Go.Fx
namespace Go.Fx
theorem W7{G:Gh}{t:Ty}{d:t.nM}{v:Value}(r:aY G (.fy t d) v):gy G.S false t v.cells.toList d []:=by
 obtain⟨cs,e,hr⟩:=r;cases ht:t.agg with
 |true=>simp only[ht,ava] at e;subst e;exact hr
 |false=>
  simp only[ht,asa,aka] at e;subst e;have:v.cells = #[v]:=by
   cases t with
   |int k=>cases hr.1;rfl
   |bool=>cases hr.1;rfl
   |str=>cases hr.1;rfl
   |slice t=>rcases hr with ⟨_,⟨_,iZ,cap,h⟩|⟨b,cap,arr,elem,fz,pre,cells,rest,h,_⟩⟩<;>cases h<;>rfl
   |dg a b=>cases ht
   |one a=>cases ht
   |arr n a=>cases ht
  rw[this];exact hr
theorem MQ(sz:Nat):∀(vs:List (Nat×Value)) (k:Nat) (cs:List Value),(∀ j p,vs[j]? = some p→p.1=k+j∧p.2.cells.size=sz)→(k+vs.length) * sz≤cs.length→
  Instr.fill (fun i=>some (i * sz,sz)) cs.toArray vs=some (cs.take (k * sz)++((vs.map fun p=>p.2.cells.toList).flatten++cs.drop ((k+vs.length) * sz))).toArray
 |[],k,cs,h,hl=>by simp[Instr.fill]
 |(i,v)::vs,k,cs,h,hl=>by
  obtain⟨h1,h2⟩:=h 0 (i,v) rfl;simp only[cya] at h1 h2;subst h1;simp only[aAa] at hl;have hk:i * sz+sz≤cs.length:=by
   have:(i+1) * sz≤(i+(vs.length+1)) * sz:=bna _ (by omega)
   rw[bsa,Nat.one_mul] at this;omega
  have hvl:v.cells.toList.length=sz:=by simpa using h2
  have Nh:Instr.fill (fun i=>some (i * sz,sz)) cs.toArray ((i,v)::vs)=Instr.fill (fun i=>some (i * sz,sz)) (cs.take (i * sz)++(v.cells.toList++cs.drop (i * sz+v.cells.toList.length))).toArray vs:=by
   conv=>lhs;unfold Instr.fill
   simp only;rw[aBa (by simp[h2];omega),MU v.cells cs (i * sz) (by rw[h2];exact hk)]
  rw[Nh,MQ sz vs (i+1) _ (fun j p hp=>by
   obtain⟨g1,g2⟩:=h (j+1) p (by simpa using hp)
   exact⟨by omega,g2⟩) (by
    have e:(i+1+vs.length) * sz=(i+(vs.length+1)) * sz:=by congr 1;omega
    rw[e];simp[hvl];omega)]
  congr 1
  have e:(i+1+vs.length) * sz=(i+(vs.length+1)) * sz:=by congr 1;omega
  have t1:(cs.take (i * sz)++(v.cells.toList++cs.drop (i * sz+v.cells.toList.length))).take ((i+1) * sz)=cs.take (i * sz)++v.cells.toList:=by rw[←a5a,cBa (by simp[hvl,bsa];omega),List.take_of_length_le (by simp[hvl,bsa];omega)]
  have Lv:(i+1) * sz≤(i+(vs.length+1)) * sz:=bna _ (by omega)
  have t2:(cs.take (i * sz)++(v.cells.toList++cs.drop (i * sz+v.cells.toList.length))).drop ((i+(vs.length+1)) * sz)=cs.drop ((i+(vs.length+1)) * sz):=by
   rw[←a5a,List.drop_append,cma];rw[coa (by simp[hvl,bsa] at Lv ⊢;omega)]
   simp only[aVa]
   congr 1
   simp[hvl,bsa] at Lv ⊢;omega
  rw[e,t1,t2];simp
section ops
variable {P:Program} {E:tr} (hE:iQ P E.iK) {X:mW} {w:World} {R:Type} {r:R}
theorem Gi{t:Ty}:∀{iy:List (Nat×af)} {vs:List (Nat×Value)} {k:Nat} {st st':St} {G:Gh} {l:List t.nM},nt t k iy st=some (l,st')→aB X st G w→
  All2 (fun(p:Nat×af) (q:Nat×Value)=>p.1=q.1∧aU G p.2 q.2) iy vs→
  ∃ G',aB X st' G' w∧G.Mn G'∧rQ st st'∧RepL (gy G'.S false t) (vs.map fun p=>p.2.cells.toList).flatten l []∧l.length=vs.length∧(∀ j p,vs[j]? = some p→p.1=k+j∧p.2.cells.size=t.size)
 |[],[],k,st,st',G,l,h,hm,hp=>by simp only[nt,Ob,aia] at h;obtain⟨rfl,rfl⟩:=h;exact⟨G,hm,.refl G,.refl _,⟨rfl,rfl⟩,rfl,by simp⟩
 |(j,v)::iy,(j',u)::vs,k,st,st',G,l,h,hm,hp=>by
  obtain⟨⟨e,hv⟩,hp⟩:=hp;simp only at e hv;subst e;simp only[nt] at h;cases hk:Nat.beq k j with
  |false=>simp[hk] at h
  |true=>
   simp only[hk,aja] at h;have hk:=Q4 hk;subst hk;cases h1:v.qR st with
   |none=>simp[h1] at h
   |some wR=>
    simp only[h1] at h;obtain⟨G1,m1,s1,k1⟩:=Fc h1 hm;cases h2:v.vJ wR t with
    |none=>simp[h2] at h
    |some d=>
     simp only[h2] at h;cases h3:nt t (k+1) iy wR with
     |none=>simp[h3] at h
     |some p=>
      obtain⟨l',st2⟩:=p;simp only[h3,Ob,aia] at h;obtain⟨rfl,rfl⟩:=h;have hd:=W7 (DM m1 h2 (hv.sub s1));obtain⟨G2,m2,s2,k2,r2,l2,z2⟩:=Gi h3 m1 (hp.imp fun p q hpq=>⟨hpq.1,hpq.2.sub s1⟩);refine⟨G2,m2,s1.trans s2,k1.trans k2,⟨_,_,[],[],by simp only[aHa,cNa],rfl,hd.mono s2.S,r2⟩,by simp[l2],?_⟩
      intro i q hq;cases i with
      |zero=>simp only[bda,Ob] at hq;subst hq;exact⟨rfl,by have:=gy.size hd;simpa using this⟩
      |succ i=>
       obtain⟨g1,g2⟩:=z2 i q (by simpa using hq)
       exact⟨by omega,g2⟩
 |[],_::_,_,_,_,_,_,_,_,hp=>hp.elim
 |_::_,[],_,_,_,_,_,_,_,hp=>hp.elim
theorem Tw{st:St}{G:Gh}{T:TypeId}{o:Nat}{ls:List ai}{cs:Array Value}{K:af→St→Option R}(h:Gb E T o ls st K=some r)(hm:aB X st G w)(hl:All2 (aY G) ls cs.toList):
  ∃ av st' G',aB X st' G' (w.alloc (.cells cs T))∧(∀ act,bQ G st act→bQ G' st' act)∧aU G' av (.pointer (some ⟨w.heap.size,0,none⟩))∧K av st' = some r:=by
 unfold Gb at h;cases hT:E.iK T with
 |none=>simp[hT] at h
 |some ti=>
  cases ho:st.dT o with
  |some l=>simp[hT,ho] at h
  |none=>
   simp only[hT,ho] at h;cases hc:(Nat.beq ls.length ti.size&&!ls.any ai.pV&&!st.dj false o&&!ls.any (ai.dj false o)) with
   |false=>simp[hc] at h
   |true=>simp only[hc,aja] at h;simp only[Q3,aOa] at hc;obtain⟨⟨⟨_,h2⟩,h3⟩,h4⟩:=hc;obtain⟨G',m,B8,hv⟩:=hm.UX (elem:=T) ho h3 h2 h4 hl;exact⟨_,_,G',m,fun act ra=>ra.le B8 rfl (fun _=>rfl) h3,hv,h⟩
include hE
theorem LD{st:St}{G:Gh}{T:TypeId}{dst len:Nat}{iy:List (Nat×af)}{vs:List (Nat×Value)}{K:af→St→Option R}(h:mJ E T dst len iy st K=some r)(hm:aB X st G w)
  (hp:All2 (fun(p:Nat×af) (q:Nat×Value)=>p.1=q.1∧aU G p.2 q.2) iy vs):
  ∃ av v st' G' w',(Instr.buildSlice T len vs.toArray).run P w=.ok v w'∧aB X st' G' w'∧(∀ act,bQ G st act→bQ G' st' act)∧aU G' av v∧K av st' = some r:=by
 unfold mJ at h;split at h
 ·rename_i s b y e z hT
  cases Ap:E.iK e with
  |none=>simp[Ap] at h
  |some ei=>
   simp only[Ap] at h;cases hy:ei.ty with
   |none=>simp[hy] at h
   |some t=>
    simp only[hy] at h;cases hc:(Nat.beq len iy.length&&Nat.beq ei.size t.size&&Nat.ble (len * ei.size) 16777216) with
    |false=>simp[hc] at h
    |true=>
     simp only[hc,aja] at h;simp only[Q3] at hc;obtain⟨⟨LV,xS⟩,M4⟩:=hc;have LV:=Q4 LV;have xS:=Q4 xS;have M4:=aZa M4;cases hsp:nt t 0 iy st with
     |none=>simp[hsp] at h
     |some p=>
      obtain⟨l,wR⟩:=p;simp only[hsp] at h;cases ha:wR.arr dst with
      |some A=>simp[ha] at h
      |none=>
       simp only[ha] at h;cases Ar:wR.dj true dst with
       |true=>simp[Ar] at h
       |false=>
        simp only[Ar,aoa] at h;obtain⟨G1,m1,s1,k1,r1,l1,z1⟩:=Gi hsp hm hp;have B9:vs.length=len:=by rw[LV,hp.length]
        have hu:=(hE T _ hT).slice;obtain⟨i,d,zz,i1,i2,i3,i4,i5,i6,i7,i8,i9,_⟩:=hE e ei Ap;have mH:(vs.map fun p=>p.2.cells.toList).flatten.length=len * t.size:=by rw[RepL.size (fun c x H hr=>gy.size hr) r1,l1,B9]
        let zc:Array Value:=if len * ei.size=0 then #[] else zz.cells
        let Ro:List Value:=((Array.range (len * ei.size)).map (zc[· % zc.size]!)).toList
        have FJ:Ro.length=len * ei.size:=by simp[Ro]
        have M8:=MQ ei.size vs 0 Ro (fun j p hp=>by
         obtain⟨g1,g2⟩:=z1 j p hp;exact⟨g1,by rw[g2,xS]⟩) (by rw[aWa,B9,FJ];exact axa _)
        rw[aWa,B9,Nat.zero_mul,List.take_zero,aVa,coa (by rw[FJ];exact axa _),bha] at M8
        obtain⟨G2,m2,adl,F6⟩:=m1.Ax (elem:=e) (arr:=(vs.map fun p=>p.2.cells.toList).flatten.toArray) (cells:=(vs.map fun p=>p.2.cells.toList).flatten) (rest:=[]) (cap:=len) ha Ar (by simp)
         (by rw[bJa,mH];exact axa _) (by rw[l1,B9];exact axa _) r1
        refine⟨_,_,_,G2,_,?_,m2,fun act ra=>(ra.sub s1 k1.n k1.iz).le adl rfl (fun _=>rfl) Ar,F6,h⟩;have h24:¬ (2 ^ 24<len * i.size):=by rw[i3];omega
        have m9:=(hE e ei Ap).size w;have D9:(Array.range (len * ei.size)).map (zc[· % zc.size]!)=Ro.toArray:=(Array.toArray_toList (xs:=(Array.range (len * ei.size)).map (zc[· % zc.size]!))).symm
        by_cases h0:len * ei.size=0
        ·have hzc:zc = #[]:=by simp[zc,h0]
         rw[hzc] at D9;simp only[Instr.buildSlice,aNa,aEa hu,aFa,m9,Sem.run_ite,aBa (show ¬ (len * ei.size > 2 ^ 24) by omega),h0,ava,baa]
         rw[h0] at D9;rw[D9];simp only[M8];simp[newRow,l1,B9]
        ·have hzc:zc=zz.cells:=by simp[zc,h0]
         rw[hzc] at D9;simp only[Instr.buildSlice,aNa,aEa hu,aFa,m9,Sem.run_ite,aBa (show ¬ (len * ei.size > 2 ^ 24) by omega),h0,aka,baa,zeroValue,typeInfo,run_program,i1,i5]
         rw[D9];simp only[M8];simp[newRow,l1,B9]
 ·cases h
end ops
end Go.Fx
namespace Go.Fx
theorem RepL.one{α:Type}{R:List Value→α→gz→Prop}(hR:∀ c x H,R c x H→∀ v∈c,v.oneCell' = true):∀{cs:List Value} {l:List α} {H:gz},RepL R cs l H→∀ v∈cs,v.oneCell' = true
 |_,[],_,h,v,hv=>by rw[h.1] at hv;cases hv
 |_,_::_,_,⟨c1,c2,H1,H2,e1,e2,r,rl⟩,v,hv=>by
  rw[e1] at hv;rcases ana.1 hv with hv|hv
  ·exact hR _ _ _ r v hv
  ·exact RepL.one hR rl v hv
theorem gy.one{S:Du}{m:Bool}:∀{t:Ty} {cs:List Value} {d:t.nM} {H:gz},gy S m t cs d H→∀ v∈cs,v.oneCell' = true
 |.int k,cs,d,H,h,v,hv=>by rw[h.1] at hv;simp at hv;subst hv;rfl
 |.bool,cs,d,H,h,v,hv=>by rw[h.1] at hv;simp at hv;subst hv;rfl
 |.str,cs,d,H,h,v,hv=>by rw[h.1] at hv;simp at hv;subst hv;rfl
 |.slice t,cs,l,H,h,v,hv=>by
  simp only[gy] at h;split at h
  ·rcases h with ⟨_,_,rfl⟩|⟨b,cap,arr,elem,cells,rest,H',rfl,_⟩<;>(simp at hv;subst hv;rfl)
  ·rcases h with ⟨_,⟨_,iZ,cap,rfl⟩|⟨b,cap,arr,elem,fz,pre,cells,rest,rfl,_⟩⟩<;>(simp at hv;subst hv;rfl)
 |.dg a b,cs,d,H,h,v,hv=>by
  obtain⟨c1,c2,H1,H2,rfl,rfl,h1,h2⟩:=h;rcases ana.1 hv with hv|hv
  ·exact gy.one h1 v hv
  ·exact gy.one h2 v hv
 |.one a,cs,d,H,h,v,hv=>by exact gy.one (t:=a) h v hv
 |.arr n t,cs,l,H,h,v,hv=>RepL.one (fun c x H hx=>gy.one hx) h.1 v hv
theorem Fh{S:Du}{m:Bool}:∀{t:Ty} {l r:List Value},t8 t l=some r→∃ c,l=c++r∧gy S m t c (qe t) []
 |.int k,l,r,h=>by
  cases l with
  |nil=>simp[t8] at h
  |cons v l=>
   cases v<;>simp only[t8] at h<;>try (cases h;done)
   rename_i k' n;by_cases hk:k=k'
   ·by_cases hn:n=0
    ·subst hk hn
     simp at h;subst h;exact⟨[.int k 0],rfl,rfl,rfl⟩
    ·simp[hn] at h
   ·simp[hk] at h
 |.bool,l,r,h=>by
  cases l with
  |nil=>simp[t8] at h
  |cons v l=>
   cases v<;>try (simp[t8] at h;done)
   rename_i b;cases b<;>simp[t8] at h;subst h;exact⟨[.bool false],rfl,rfl,rfl⟩
 |.str,l,r,h=>by
  cases l with
  |nil=>simp[t8] at h
  |cons v l=>
   cases v<;>try (simp[t8] at h;done)
   rename_i s;simp only[t8] at h;cases hs:s.data.toList with
   |cons=>simp[hs] at h
   |nil=>
    simp only[hs,Ob] at h;subst h;refine⟨[.string s],rfl,?_,rfl⟩;have:s=⟨([]:ab).toArray⟩:=by apply ByteArray.ext;apply cAa;simpa using hs
    rw[this];rfl
 |.slice t,l,r,h=>by
  cases l with
  |nil=>simp[t8] at h
  |cons v l=>
   cases v<;>try (simp[t8] at h;done)
   rename_i a n c;cases a<;>cases n<;>cases c<;>simp[t8] at h;subst h;exact⟨[.slice none 0 0],rfl,by
    cases m
    ·exact⟨rfl,.inl ⟨rfl,none,0,rfl⟩⟩
    ·exact .inl ⟨rfl,rfl,rfl⟩⟩
 |.dg a b,l,r,h=>by
  simp only[t8] at h;cases h1:t8 a l with
  |none=>simp[h1] at h
  |some r1=>simp only[h1] at h;obtain⟨c1,e1,g1⟩:=Fh (S:=S) (m:=m) h1;obtain⟨c2,e2,g2⟩:=Fh (S:=S) (m:=m) h;exact⟨c1++c2,by rw[e1,e2];simp,c1,c2,[],[],rfl,rfl,g1,g2⟩
 |.one a,l,r,h=>by simp only[t8] at h;obtain⟨c,e,g⟩:=Fh (S:=S) (m:=m) h;exact⟨c,e,g⟩
 |.arr n t,l,r,h=>by
  simp only[t8] at h;have key:∀(n:Nat) {l r:List Value},MG (t8 t) n l=some r→∃ c,l=c++r∧RepL (gy S m t) c (List.replicate n (qe t)) []:=by
   intro n;induction n with
   |zero=>intro l r h;simp only[MG,Ob] at h;subst h;exact⟨[],rfl,rfl,rfl⟩
   |succ n ih=>
    intro l r h;simp only[MG] at h;cases h1:t8 t l with
    |none=>simp[h1] at h
    |some q=>simp only[h1] at h;obtain⟨c1,e1,g1⟩:=Fh (S:=S) (m:=m) h1;obtain⟨c2,e2,g2⟩:=ih h;exact⟨c1++c2,by rw[e1,e2];simp,c1,c2,[],[],rfl,rfl,g1,g2⟩
  obtain⟨c,e,g⟩:=key n h;exact⟨c,e,g,by simp[qe]⟩
theorem PZ(z:Array Value):∀ c:Nat,(madeCells z (c * z.size)).toList=(List.replicate c z.toList).flatten
 |0=>by simp[madeCells,Array.range]
 |c+1=>by
  have ih:=PZ z c;simp only[madeCells,bVa,Array.toList_range] at ih ⊢;rw[bsa,Nat.one_mul,List.range_add,bwa,ih,List.replicate_succ',List.flatten_append]
  congr 1
  simp only[cza,cNa,List.flatten_nil,bha];apply List.ext_getElem
  ·simp
  ·intro j h1 h2
   simp only[List.length_map,List.length_range] at h1;simp only[List.getElem_map,List.getElem_range,Function.comp_apply,Array.getElem_toList];rw[Nat.mul_comm,Nat.mul_add_mod,Nat.mod_eq_of_lt h1,getElem!_pos z j h1]
theorem Ww{S:Du}{m:Bool}{t:Ty}{c:List Value}{x:t.nM}(h:gy S m t c x []):∀ n:Nat,RepL (gy S m t) (List.replicate n c).flatten (List.replicate n x) []
 |0=>⟨rfl,rfl⟩
 |n+1=>⟨c,_,[],[],by rw[List.replicate_succ,cNa],rfl,h,Ww h n⟩
theorem aB.ZH{X:mW}{st:St}{G:Gh}{w:World}(hm:aB X st G w){a:Nat}{t:Ty}(ha:st.arr a=none)(Ky:st.dj true a=false):
  ∃ G',aB X (st.gW a ⟨t,.eL,false,[]⟩) G' w∧G.Le G' true a∧aU G' (.one (.mX a)) (.slice none 0 0):=by
 let G':Gh:={G with ψ:=fun q=>if q=a then .slice none 0 0 else G.ψ q,HA:=fun q=>if q=a then [] else G.HA q}
 have B8:G.Le G' true a:=⟨fun _ _ h=>h,fun _ _=>rfl,fun _ _=>rfl,fun _ _=>rfl,fun q h=>by simp[G',h rfl],fun _=>rfl,fun _ _=>rfl,rfl⟩
 have nW:∀ x b,fq G' (st.gW a ⟨t,.eL,false,[]⟩) x b→fq G st x b:=fun x b hx=>by
  obtain⟨k,n⟩:=x;cases k with
  |false=>exact hx
  |true=>
   obtain⟨⟨A,hA,hs⟩,p,hp,rfl⟩:=hx;rw[dM] at hA;by_cases e:a=n
   ·subst e;simp[G'] at hp
   ·simp only[e,aka] at hA
    have ik:n≠a:=fun h=>e h.symm;simp only[G',ik,aka] at hp;exact⟨⟨A,hA,hs⟩,p,hp,rfl⟩
 refine⟨G',?_,B8,by simp[aU,aY,G']⟩
 refine {sl:=?_,sh:=hm.sh,ob:=?_,ar:=?_,ah:=?_,nd:=?_,qw:=fun x y b hx hy=>hm.qw x y b (nW x b hx) (nW y b hy),dS:=fun x b hx=>hm.dS x b (nW x b hx),ua:=fun x b hx=>hm.ua x b (nW x b hx),s0:=hm.s0,sn:=hm.sn,fr:=hm.fr,sz:=hm.sz,os:=hm.os,tp:=hm.tp,out:=hm.out,pin:=hm.pin,bv:=hm.bv,ap:=fun q u h=>(by obtain⟨h1,⟨B,h2⟩,h3⟩:=hm.ap q u h;have ik:q≠a:=(fun e=>by subst e;rw[ha] at h2;cases h2);exact⟨h1,⟨B,by rw[dM,aBa (bDa ik)];exact h2⟩,by simp[G',ik,h3]⟩),hv:=hm.hv,ds:=hm.ds,hh:=adi hm rfl (fun q hq=>⟨rfl,by simp[G',hq]⟩)}
 ·intro q
  by_cases e:q=a
  ·exact .inl ⟨none,0,0,by simp[G',e]⟩
  ·have:=hm.sl q;simpa[G',e] using this
 ·intro q ls hq
  obtain⟨arr',Ps,mid,g1,g2,g3⟩:=hm.ob q ls hq;refine⟨arr',Ps,mid,g1,g2,?_⟩;unfold ix at g3 ⊢;rw[kh (st:=st) (fun j l=>by simp)]
  exact BW B8 (sx Ky hq 0) g3
 ·intro b B hB
  rw[dM] at hB;by_cases e:a=b
  ·subst e
   simp only[ava,Ob] at hB;subst hB;refine Kq.2 ?_;exact .inl ⟨rfl,by simp[G'],by simp[G']⟩
  ·simp only[e,aka] at hB
   have ik:b≠a:=fun h=>e h.symm;exact(hm.ar b B hB).mono (G:=G) (a:=b) (G':=G') (a':=b) (fun _ _ h=>h) (by simp[G',ik]) (by simp[G',ik]) (fun _ _ _=>⟨rfl,rfl,rfl⟩)
 ·intro b B hB hs p hp
  rw[dM] at hB;by_cases e:a=b
  ·subst e;simp[G'] at hp
  ·simp only[e,aka] at hB
   have ik:b≠a:=fun h=>e h.symm;simp only[G',ik,aka] at hp;exact hm.ah b B hB hs p hp
 ·intro b B hB hs
  rw[dM] at hB;by_cases e:a=b
  ·subst e;simp[G']
  ·simp only[e,aka] at hB
   have ik:b≠a:=fun h=>e h.symm;simp only[G',ik,aka];exact hm.nd b B hB hs
theorem ZE{α:Type}{n:Int}{x:α}{l:List α}(h:mkl n x=some l):0≤n∧n≤4294967296∧l=List.replicate n.toNat x:=by unfold mkl at h;by_cases h0:0≤n<;>by_cases h1:n≤4294967296<;>simp[h0,h1] at h;exact⟨h0,h1,h.symm⟩
section ops
variable {P:Program} {E:tr} (hE:iQ P E.iK) {X:mW} {w:World} {R:Type} {r:R} {st:St} {G:Gh}
include hE
theorem NL{T:TypeId}{dst:Nat}{x y:af}{vx vy:Value}{K:af→St→Option R}(h:n9 E T dst x y st K=some r)(hm:aB X st G w)(hx:aU G x vx)(hy:aU G y vy):
  ∃ av v st' G' w',(Instr.makeSlice T vx vy).run P w=.ok v w'∧aB X st' G' w'∧(∀ act,bQ G st act→bQ G' st' act)∧aU G' av v∧K av st' = some r:=by
 unfold n9 at h;split at h
 ·rename_i s b y' e z n c hT hn hc
  cases Ap:E.iK e with
  |none=>simp[Ap] at h
  |some ei=>
   simp only[Ap] at h;split at h
   ·rename_i t hty px
    generalize hcc:(Nat.beq ei.size t.size&&Nat.ble ei.bytes 16384&&!st.dj true dst&&(match t8 t ei.zero with|some []=>true|_=>false))=cc at h
    cases cc with
    |false=>cases h
    |true=>
     have M6:=hcc
     replace h:((mkl c (qe t)).bind fun z=>(sub z 0 n).bind fun l=>K (.one (.mX dst)) (st.gW dst ⟨t,bif E.Ks dst then .bA else .eL,false,l⟩))=some r:=h
     simp only[Q3,aOa] at M6;obtain⟨⟨⟨q1,q2⟩,q3⟩,q4⟩:=M6;have q1:=Q4 q1;have q2:=aZa q2;obtain⟨zl,hzl,h⟩:=ata.1 h;obtain⟨l,hl,h⟩:=ata.1 h;obtain⟨m0,m1,rfl⟩:=ZE hzl;obtain⟨n0,n1,n2,rfl⟩:=Jf hl;cases qG hn hx;cases qG hc hy;have hu:=(hE T _ hT).slice;obtain⟨i,d,zz,i1,i2,i3,i4,i5,i6,i7,i8,i9,_⟩:=hE e ei Ap;simp only[bxa] at n2;have Ze:gy G.S (E.Ks dst) t zz.cells.toList (qe t) []:=by
      cases hz:t8 t ei.zero with
      |none=>simp[hz] at q4
      |some r'=>
       cases r' with
       |cons=>simp[hz] at q4
       |nil=>obtain⟨c0,e0,g0⟩:=Fh (S:=G.S) (m:=E.Ks dst) hz;rw[bha] at e0;rw[i6,e0];exact g0
     have hzs:zz.cells.size=i.size:=by rw[i3,←i9,←i6];simp
     have hcn:(0:Int)≤c:=m0;have hnc:n≤c:=by omega
     have hby:(i.bytes:Int) * c≤281474976710656:=by
      have h1:(i.bytes:Int)≤16384:=by rw[i4];omega
      have h2:(i.bytes:Int) * c≤16384 * 4294967296:=Int.mul_le_mul h1 m1 m0 (by omega)
      omega
     have iM:=run_make (P:=P) w T e i zz hu i1 i5 .i64 .i64 n c n1 hnc hby (by omega)
     have rU:(madeCells zz.cells (c.toNat * i.size)).toList=(List.replicate n.toNat zz.cells.toList).flatten++(List.replicate (c.toNat - n.toNat) zz.cells.toList).flatten:=by
      rw[←hzs,PZ,←List.flatten_append,List.replicate_append_replicate]
      congr 2;omega
     have aeY:((List.replicate c.toNat (qe t)).take n.toNat).drop (0:Int).toNat=List.replicate n.toNat (qe t):=by simp[List.take_replicate];omega
     rw[aeY] at h;obtain⟨G2,m2,adl,F6⟩:=hm.Ax (l:=List.replicate n.toNat (qe t)) (arr:=madeCells zz.cells (c.toNat * i.size)) (elem:=e) (cap:=c.toNat) px q3 rU
      (by rw[size_madeCells,i3,q1];exact axa _) (by simp;omega) (Ww Ze n.toNat)
     simp only[bxa] at F6;exact⟨_,_,_,G2,_,iM,m2,fun act ra=>ra.le adl rfl (fun _=>rfl) q3,F6,h⟩
   ·cases h
 ·cases h
end ops
end Go.Fx
namespace Go.Fx
theorem oZ{P:Program}{w:World}{T e ty:TypeId}{i:TypeInfo}(hu:P.underlying T=some (.slice e))(hi:P.info? e=some i)(iZ xb:Option Addr)(n cap xc:Nat)(hn:n≤cap):
  (Builtin.append_ #[T,T] ty #[.slice iZ n cap,.slice xb 0 xc]).run P w=.ok (.slice iZ n cap) w:=by
 cases iZ<;>cases xb<;>simp[Builtin.append_,aEa hu,sizeOf,typeInfo,hi,Builtin.lenOf,Builtin.firstCells,loadCells,loadCellsFrom,storeCells,hn]
theorem rQ.cT(st:St)(l:List (Nat×jV)):rQ st {st with cT:=l}:=⟨rfl,fun _=>rfl,fun _=>rfl,fun o j l=>by cases l<;>rfl,rfl,rfl,rfl⟩
section ops
variable {P:Program} {E:tr} (hE:iQ P E.iK) {X:mW} {w:World} {R:Type} {r:R} {st:St} {G:Gh}
include hE
set_option maxHeartbeats 2000000 in
theorem KC{T ty:TypeId}{dst:Nat}{x y:af}{vx vy:Value}{K:af→St→Option R}(h:sD E T dst x y st K=some r)(hm:aB X st G w)(hx:aU G x vx)(hy:aU G y vy):
  ∃ av v st' G' w',(Builtin.append_ #[T,T] ty #[vx,vy]).run P w=.ok v w'∧aB X st' G' w'∧(∀ act,bQ G st act→bQ G' st' act)∧aU G' av v∧K av st' = some r:=by
 unfold sD at h;split at h
 ·rename_i s b y' e z hT
  cases Ap:E.iK e with
  |none=>simp[Ap] at h
  |some ei=>
   simp only[Ap] at h;cases hty:ei.ty with
   |none=>simp[hty] at h
   |some t=>
    simp only[hty] at h;cases hc:(Nat.beq ei.size t.size&&Nat.ble ei.bytes 16384) with
    |false=>simp[hc] at h
    |true=>
     simp only[hc,aja] at h;simp only[Q3] at hc;have q1:=Q4 hc.1;have q2:=aZa hc.2;cases dz:y.qR st with
     |none=>simp[dz] at h
     |some wR=>
      simp only[dz] at h;obtain⟨G1,m1,s1,k1⟩:=Fc dz hm;cases hg:y.vJ wR (.slice t) with
      |none=>simp[hg] at h
      |some m=>
       cases LW:wR.arr dst with
       |some A=>simp[hg,LW] at h
       |none=>
        simp only[hg,LW] at h;cases Ar:wR.dj true dst with
        |true=>simp[Ar] at h
        |false=>
         simp only[Ar,aoa] at h;have hu:=(hE T _ hT).slice;obtain⟨i,d,zz,i1,i2,i3,i4,i5,i6,i7,i8,i9,_⟩:=hE e ei Ap;have hzs:zz.cells.size=i.size:=by rw[i3,←i9,←i6];simp
         obtain⟨cs,ecs,Bi⟩:=DM m1 hg (hy.sub s1);simp only[Ty.agg,asa,aka] at ecs;subst ecs;have hx1:aU G1 x vx:=hx.sub s1;have rU:(m=[]∧∃ iZ cap,vy=.slice iZ 0 cap)∨(0<m.length∧∃ ad c news,vy=.slice (some ad) m.length c∧RepL (gy G1.S false t) news m []∧(∀ j u,news[j]? = some u→w.cell? (ad.add j)=some u)):=by
          rcases Bi with ⟨_,⟨rfl,iZ,cap,h⟩|⟨b,cap,arr,elem,fz,pre,cells,rest,e1,e2,e3,e4,elc⟩⟩
          ·simp only[aJa,a7a] at h;exact .inl ⟨rfl,iZ,cap,h⟩
          ·simp only[aJa,a7a] at e1
           cases m with
           |nil=>exact .inl ⟨rfl,_,_,e1⟩
           |cons x0 m=>
            refine .inr ⟨by simp,⟨b,pre.length,none⟩,cap,cells,e1,e4,fun j u hj=>?_⟩
            rw[bZa];exact ov (m1.sh _ _ e2) e3 rfl j u hj
         have hnl:∀{news:List Value},RepL (gy G1.S false t) news m []→news.length=m.length * i.size:=fun hr=>by rw[RepL.size (fun c x H hr=>gy.size hr) hr,i3,q1]
         have F0:∀(st2:St) (rr:List t.nM),aB X st2 G1 w→st2.arr dst=none→st2.dj true dst=false→rQ wR st2→bE ([]:List t.nM) m=some rr→
           ∃ v G' w',(Builtin.append_ #[T,T] ty #[.slice none 0 0,vy]).run P w=.ok v w'∧aB X (st2.gW dst ⟨t,.eL,false,rr⟩) G' w'∧(∀ act,bQ G st act→bQ G' (st2.gW dst ⟨t,.eL,false,rr⟩) act)∧aU G' (.one (.mX dst)) v:=by
          intro st2 rr hm2 ha2 adn hk2 Lt;obtain⟨jB,ads⟩:=DI Lt;have adt:m=rr:=ads.symm;subst adt;have PK:∀{G':Gh},G1.Le G' true dst→∀ act,bQ G st act→bQ G' (st2.gW dst ⟨t,.eL,false,m⟩) act:=fun B8 act ra=>
           (ra.sub s1 (k1.trans hk2).n (k1.trans hk2).iz).le B8 rfl (fun _=>rfl) adn
          rcases rU with ⟨rfl,iZ,cap,rfl⟩|⟨t6,ad,c,news,rfl,Ea,rL⟩
          ·obtain⟨G',m',B8,hv⟩:=hm2.ZH (t:=t) ha2 adn
           exact⟨_,G',w,oZ hu i1 none iZ 0 0 cap (axa _),m',PK B8,hv⟩
          ·simp only[aza,aWa] at jB
           have h48:m.length * i.bytes≤281474976710656:=by
            have:m.length * i.bytes≤4294967296 * 16384:=cFa jB (by rw[i4];exact q2)
            omega
           have iM:=run_append_nil (P:=P) w T ty e i zz hu i1 i5 ad m.length c news (hnl Ea) rL t6 (by omega) h48
           have Lv:=grownCap_ge w m.length 0 e;obtain⟨G',m',B8,hv⟩:=(aB.drew hm2).Ax (l:=m) (arr:=news.toArray++Builtin.zeroCells zz.cells (grownCap w m.length 0 e - m.length)) (elem:=e) (cells:=news) (rest:=(Builtin.zeroCells zz.cells (grownCap w m.length 0 e - m.length)).toList) (cap:=grownCap w m.length 0 e) ha2 adn
            (by simp) (by
             rw[b0a,cEa,hzs,bJa,hnl Ea,←bsa,i3,q1];exact bna _ (by omega)) Lv Ea
           exact⟨_,G',_,iM,m',PK B8,hv⟩
         cases x with
         |agg ls=>simp[af.bR] at h
         |KN ls=>simp[af.bR] at h
         |Au t ls=>simp[af.bR] at h
         |one l=>
          simp only[af.bR] at h;cases l with
          |nil=>simp only at h;obtain⟨rr,PK,h⟩:=ata.1 h;have:vx=.slice none 0 0:=hx;subst this;obtain⟨v,G',w',f1,f2,f3,f4⟩:=F0 wR rr m1 LW Ar (.refl _) PK;exact⟨_,v,_,G',w',f1,f2,f3,f4,h⟩
          |mX a=>
           simp only at h;cases hA:look wR.cT a with
           |none=>simp[hA] at h
           |some A=>
            simp only[hA] at h;cases M4:(A.sh||A.bA ||(look wR.gc a).isSome||fk a wR.pin) with
            |true=>simp[M4] at h
            |false=>
             simp only[M4,aoa] at h;simp only[aGa] at M4;obtain⟨⟨⟨PD,hAd⟩,hAb⟩,Ok⟩:=M4;have hAb:look wR.gc a=none:=by simpa using hAb
             cases M5:wc (.slice A.t) (.slice t) A.l with
             |none=>simp[M5] at h
             |some l=>
              simp only[M5] at h;obtain⟨ety,hl⟩:=lX M5;have YQ:=ET hAd;obtain⟨At,Amd,Ash,Al⟩:=A;simp only[Ty.slice.injEq] at ety;subst ety;simp only at hl PD YQ;subst hl PD YQ;obtain⟨rr,PK,hK⟩:=ata.1 h;have jW:wR.arr a=some ⟨At,.eL,false,l⟩:=by simp[St.arr,hA]
              have ik:dst≠a:=fun e=>by rw[e,jW] at LW;cases LW
              have tJ:=m1.ar a _ jW
              replace tJ:=Kq.1 tJ
              have hvx:vx=G1.ψ a:=hx1;have M0:∀(N:jV) q,({wR with cT:=(dst,N)::FZ wR.cT a}:St).arr q=if q=dst then some N else if q=a then none else wR.arr q:=fun N q=>by
               simp only[St.arr,aw,qJ];by_cases e:q=dst
               ·subst e;simp
               ·by_cases e2:q=a
                ·subst e2;simp[e,bDa e,hAb,cfa]
                ·simp[e,e2,cfa (a:=dst),cfa (a:=a)]
              rcases tJ with ⟨e1,e2,e3⟩|⟨bb,cap,arr,elem,cells,rest,H',e1,e2,e3,e4,e5,e6⟩
              ·subst e1
               simp only[aJa,a7a] at e3;rw[hvx,e3];obtain⟨v,G',w',f1,f2,f3,f4⟩:=F0 {wR with cT:=FZ wR.cT a} rr (m1.Ra a hAb Ok) (by
                simp only[St.arr,qJ] at LW ⊢;rw[aBa (fun h=>ik h.symm)];exact LW) Ar (rQ.cT _ _) PK
               exact⟨_,v,_,G',w',f1,f2,f3,f4,hK⟩
              ·simp only[aJa,a7a] at e1
               rw[hvx,e1];obtain⟨jB,rfl⟩:=DI PK;have tY:=m1.ah a _ jW rfl (bb,Obj.cells arr elem (0,0)) (by rw[e2];simp)
               have mH:cells.length=l.length * At.size:=RepL.size (fun c x H hr=>gy.size hr) e6;have hH':H' = []:=RepL.nN (fun c x H hr=>gy.nN hr) e6;subst hH';have hRR:∀{G':Gh} {st2:St},(∀ act,bQ G1 wR act→bQ G' st2 act)→∀ act,bQ G st act→bQ G' st2 act:=fun hf act ra=>hf act (ra.sub s1 k1.n k1.iz);rcases rU with ⟨rfl,iZ,aeg,rfl⟩|⟨t6,ad,c,news,rfl,Ea,rL⟩
               ·
                rw[bha] at hK;obtain⟨G2,m2,r2,v2⟩:=m1.NV (st':={wR with cT:=(dst,⟨At,.eL,false,l⟩)::FZ wR.cT a}) (a:=a) (dst:=dst) (A':=⟨At,.eL,false,l⟩) jW rfl rfl rfl e1 e2 (cap':=cap) (arr':=arr) (elem:=elem)
                 (.inr ⟨bb,cap,arr,elem,cells,rest,[],rfl,rfl,e3,e4,e5,e6⟩) tY (fun _ _=>rfl) rfl rfl rfl rfl rfl (rQ.cT _ _) (M0 _) (.inr ⟨ik,LW,Ar,Ok⟩)
                exact⟨_,_,_,G2,w,oZ hu i1 _ _ _ _ _ e5,m2,hRR r2,v2,hK⟩
               ·by_cases Nd:l.length+m.length≤cap
                ·have xB:0+l.length * i.size+news.length≤arr.size:=by
                  rw[hnl Ea,aWa,←bsa,i3,q1];exact bGa (bna _ Nd) e4
                 have hth:=BL tY xB;have iM:=run_append_room_cells (P:=P) w T ty e i hu i1 bb 0 l.length cap ad m.length c news (hnl Ea) rL (RepL.one (fun c x H hr=>gy.one hr) Ea) Nd
                  (fun j hj=>(hth j hj).1) (fun j hj=>(hth j hj).2)
                 obtain⟨arr',g1,g2,g3,g4,g5,g6,g7⟩:=ot bb news (0+l.length * i.size) w tY xB;have Rl:arr'.toList=(cells++news)++arr.toList.drop (0+l.length * i.size+news.length):=by
                  rw[g2];have:arr.toList.take (0+l.length * i.size)=cells:=by rw[e3,aWa,i3,q1,←mH];simp
                  rw[this];simp
                 have Zc:arr'.size=arr.size:=by rw[←bga,g2];simp;omega
                 obtain⟨G2,m2,r2,v2⟩:=m1.NV (st':={wR with cT:=(dst,⟨At,.eL,false,l++m⟩)::FZ wR.cT a}) (a:=a) (dst:=dst) (A':=⟨At,.eL,false,l++m⟩) jW rfl rfl rfl e1 e2 (cap':=cap) (arr':=arr') (elem:=elem)
                  (.inr ⟨bb,cap,arr',elem,cells++news,_,[],rfl,rfl,Rl,by rw[Zc];exact e4,by simpa using Nd,(by have h6:=e6.append Ea;rw[bha] at h6;exact h6)⟩) g1 g3 g4 g5 g6 g7 rfl (rQ.cT _ _) (M0 _) (.inr ⟨ik,LW,Ar,Ok⟩)
                 simp only[aua] at v2;exact⟨_,_,_,G2,_,iM,m2,hRR r2,v2,hK⟩
                ·have holds:∀ j u,cells[j]? = some u→w.cell? ((⟨bb,0,none⟩:Addr).add j)=some u:=fun j u hj=>by
                  rw[bZa];exact ov (pre:=[]) tY (by simpa using e3) rfl j u hj
                 have hby:(l.length+m.length) * i.bytes≤140737488355328:=by
                  have:(l.length+m.length) * i.bytes≤4294967296 * 16384:=cFa jB (by rw[i4];exact q2)
                  omega
                 have xB:=growslice_fits (need:=l.length+m.length) (old:=cap) (bytes:=i.bytes) (by omega) hby
                 have iM:=run_append_grow (P:=P) w T ty e i zz hu i1 i5 ⟨bb,0,none⟩ l.length cap cells (by rw[mH,i3,q1]) holds ad m.length c news (hnl Ea) rL (by omega) (by omega) xB
                 have Lv:=grownCap_ge w (l.length+m.length) cap e;obtain⟨G',m',B8,hv⟩:=(aB.drew (m1.Ra a hAb Ok)).Ax (l:=l++m) (arr:=cells.toArray++news.toArray++Builtin.zeroCells zz.cells (grownCap w (l.length+m.length) cap e - (l.length+m.length))) (elem:=e) (cells:=cells++news) (rest:=(Builtin.zeroCells zz.cells (grownCap w (l.length+m.length) cap e - (l.length+m.length))).toList) (cap:=grownCap w (l.length+m.length) cap e)
                  (a:=dst) (by
                   simp only[St.arr,qJ] at LW ⊢;rw[aBa (fun h=>ik h.symm)];exact LW) Ar (by simp) (by
                   rw[b0a,b0a,cEa,hzs,bJa,bJa,hnl Ea,mH,i3,q1,←bsa,←bsa];exact bna _ (by omega)) (by simpa using Lv) (by simpa using e6.append Ea)
                 simp only[aua] at hv;exact⟨_,_,_,G',_,iM,m',hRR (fun act ra=>(ra.sub (.refl _) rfl (fun _=>rfl)).le B8 rfl (fun _=>rfl) Ar),hv,hK⟩
          |_=>simp at h
 ·cases h
end ops
end Go.Fx
namespace Go.Fx
theorem A4{P:Program}{w:World}{G:Gh}{lo:Option af}{vlo:Option Value}{d n:Int}(h:nF d lo=some n)(hr:∀ a,lo=some a→∃ v,vlo=some v∧aU G a v)(hn:lo=none→vlo=none):
  (vlo=none∧lo=none∧n=d)∨∃ k,vlo=some (.int k n):=by
 cases lo with
 |none=>simp only[nF,Ob] at h;exact .inl ⟨hn rfl,rfl,h.symm⟩
 |some a=>simp only[nF,aKa] at h;obtain⟨⟨k,m⟩,h1,h2⟩:=h;simp only at h2;subst h2;obtain⟨v,h3,h4⟩:=hr a rfl;exact .inr ⟨k,by rw[h3,qG h1 h4]⟩
theorem za{P:Program}{w:World}{isSlice:Bool}{len cap:Nat}{vlo vhi:Option Value}{i j:Int}(hlc:len≤cap)(h0:0≤i)(h1:i≤j)(h2:j≤(len:Int))
  (hlo:(vlo=none∧i=0)∨∃ k,vlo=some (.int k i)) (hhi:(vhi=none∧j=(len:Int))∨∃ k,vhi=some (.int k j)):
  (Instr.sliceBounds isSlice len cap vlo vhi none).run P w=.ok (i.toNat,j.toNat,cap) w:=by
 have hjc:j≤(cap:Int):=by omega
 have hj0:0≤j:=by omega
 rcases hlo with ⟨rfl,rfl⟩|⟨k,rfl⟩<;>rcases hhi with ⟨rfl,rfl⟩|⟨k',rfl⟩
 ·simp[Instr.sliceBounds]
 ·simp[Instr.sliceBounds,Instr.sliceBound,asIntOf,hj0,hjc]
 ·have:i.toNat≤len:=by omega
  have h3:i≤(len:Int):=by omega
  simp[Instr.sliceBounds,Instr.sliceBound,asIntOf,h0,h3]
 ·have h3:i≤((j.toNat:Nat):Int):=by omega
  have h4:¬ (max j 0<i):=by omega
  simp[Instr.sliceBounds,Instr.sliceBound,asIntOf,h0,hj0,hjc,h3,h4]
theorem SR(s:ab)(i j:Nat):(⟨s.toArray⟩:ByteArray).extract i j=⟨((s.take j).drop i).toArray⟩:=by apply ByteArray.ext;apply cAa;simp[ByteArray.data_extract,List.drop_take]
section ops
variable {P:Program} {E:tr} (hE:iQ P E.iK) {X:mW} {w:World} {R:Type} {r:R} {st:St} {G:Gh}
include hE
theorem N3{T e:TypeId}{ei:TI}(hu:P.underlying T=some (.slice e))(Ap:E.iK e=some ei){t:Ty}(hz:ei.size=t.size){l:List t.nM}{vx:Value}(hx:BV G.S (RepL (gy G.S false t)) [vx] l [])
  {vlo vhi:Option Value} {i j:Int} {rr:List t.nM} (hs:sub l i j=some rr) (hlo:(vlo=none∧i=0)∨∃ k,vlo=some (.int k i)) (hhi:(vhi=none∧j=(l.length:Int))∨∃ k,vhi=some (.int k j)):
  ∃ v,(Instr.slice T vx vlo vhi none).run P w=.ok v w∧aU G (.one (.fy (.slice t) rr)) v:=by
 obtain⟨h0,h1,h2,rfl⟩:=Jf hs;have m9:=(hE _ _ Ap).size w;rcases hx with ⟨_,⟨rfl,iZ,cap,hb⟩|⟨b,cap,arr,elem,fz,pre,cells,rest,e1,e2,e3,e4,elc⟩⟩
 ·simp only[aJa,a7a] at hb
  subst hb;simp only[aza] at h2;obtain rfl:i=0:=by omega
  obtain rfl:j=0:=by simp at h2;omega
  have iM:=za (P:=P) (w:=w) (isSlice:=true) (len:=0) (cap:=cap) (vlo:=vlo) (vhi:=vhi) (Nat.zero_le _) (cpa 0) (cpa 0) (by simp) hlo (by simpa using hhi)
  refine⟨.slice (if cap=0 then iZ else iZ.map (·.add (0 * ei.size))) 0 cap,?_,⟨[_],rfl,rfl,.inl ⟨by simp,_,_,rfl⟩⟩⟩
  simp only[Instr.slice,aNa,aEa hu,aFa,iM,m9];simp
 ·simp only[aJa,a7a] at e1
  subst e1
  ·have Xi:=elc
   have iM:=za (P:=P) (w:=w) (isSlice:=true) (len:=l.length) (cap:=cap) Xi h0 h1 h2 hlo hhi;have hi:i.toNat≤j.toNat:=by omega
   have hj:j.toNat≤l.length:=by omega
   refine⟨.slice (if cap=i.toNat then some ⟨b,pre.length,none⟩ else(some (⟨b,pre.length,none⟩:Addr)).map (·.add (i.toNat * ei.size))) (j.toNat - i.toNat) (cap - i.toNat),?_,?_⟩
   ·simp only[Instr.slice,aNa,aEa hu,aFa,iM,m9]
    simp
   ·have jB:((l.take j.toNat).drop i.toNat).length=j.toNat - i.toNat:=by simp;omega
    by_cases hci:cap=i.toNat
    ·have:j.toNat - i.toNat=0:=by omega
     have aa3:(l.take j.toNat).drop i.toNat=[]:=cCa (by omega)
     rw[aa3,a8a hci,this];exact⟨[_],rfl,rfl,.inl ⟨rfl,_,_,rfl⟩⟩
    ·rw[aBa hci]
     obtain⟨c1,c2,H1,H2,k1,k2,k3,k4,k5⟩:=RepL.split (fun c x H hr=>gy.size hr) (k:=j.toNat) e4 hj;have hH1:=RepL.nN (fun c x H hr=>gy.nN hr) k4;obtain⟨d1,d2,K1,K2,q1,q2,q3,q4,q5⟩:=RepL.split (fun c x H hr=>gy.size hr) (k:=i.toNat) k4 (by simp;omega)
     have hK2:=RepL.nN (fun c x H hr=>gy.nN hr) q5;rw[hK2] at q5;refine⟨[_],rfl,rfl,.inr ⟨b,cap - i.toNat,arr,elem,fz,pre++d1,d2,c2++rest,?_,e2,?_,q5,by rw[jB];omega⟩⟩
     ·rw[jB]
      simp[bZa,q3,hz]
     ·rw[e3,k1,q1];simp
theorem NO{T:TypeId}{dst:Nat}{x:af}{vx:Value}{lo hi mx:Option af}{vlo vhi vmx:Option Value}{K:af→St→Option R}(h:uA E T dst x lo hi mx st K=some r)(hm:aB X st G w)(hx:aU G x vx)
  (hlo:∀ a,lo=some a→∃ v,vlo=some v∧aU G a v) (aa2:lo=none→vlo=none) (hhi:∀ a,hi=some a→∃ v,vhi=some v∧aU G a v) (adj:hi=none→vhi=none) (hmx:mx=none→vmx=none):
  ∃ av v st' G',(Instr.sliceAt T vx vlo vhi vmx).run P w=.ok v w∧aB X st' G' w∧(∀ act,bQ G st act→bQ G' st' act)∧aU G' av v∧K av st' = some r:=by
 unfold uA at h;have lK:∀{av:af} {v:Value},(∃ d,P.underlying T=some d∧(match d with | .array _ _=>False|_=>True))→vmx=none→(Instr.slice T vx vlo vhi none).run P w=.ok v w→aU G av v→K av st=some r→
   ∃ av v st' G',(Instr.sliceAt T vx vlo vhi vmx).run P w=.ok v w∧aB X st' G' w∧(∀ act,bQ G st act→bQ G' st' act)∧aU G' av v∧K av st' = some r:=fun hd UH iM hv hK=>by
  obtain⟨d,hu,agx⟩:=hd;subst UH;refine⟨_,_,st,G,?_,hm,fun _ h=>h,hv,hK⟩;simp only[Instr.sliceAt,aNa,aEa hu,aFa];cases d<;>first|exact agx.elim|exact iM
 split at h
 ·
  rename_i s b y z hT;have hu:=(hE T _ hT).str;have UH:=hmx rfl;cases hs:x.N6 with
  |none=>simp[hs] at h
  |some str=>
   simp only[hs] at h;cases Dv:nF 0 lo with
   |none=>simp[Dv] at h
   |some i=>
    cases PF:nF (str.length:Int) hi with
    |none=>simp[Dv,PF] at h
    |some j=>simp only[Dv,PF] at h;obtain⟨rr,PK,h⟩:=ata.1 h;obtain⟨h0,h1,h2,rfl⟩:=Jf PK;cases Da hs hx;have k1:=A4 (P:=P) (w:=w) Dv hlo aa2;have k2:=A4 (P:=P) (w:=w) PF hhi adj;have iM:=za (P:=P) (w:=w) (isSlice:=false) (len:=str.length) (cap:=str.length) (axa _) h0 h1 h2 (k1.imp (fun h=>⟨h.1,h.2.2⟩) id) (k2.imp (fun h=>⟨h.1,h.2.2⟩) id);refine lK ⟨_,hu,trivial⟩ UH ?_ (Kh _) h;simp only[Instr.slice,aNa,aEa hu,aFa,kz,WG,iM,cJa,asa,aka,baa,SR]
 ·rename_i s b y e z hT
  have hu:=(hE T _ hT).slice;have UH:=hmx rfl;cases Ap:E.iK e with
  |none=>simp[Ap] at h
  |some ei=>
   simp only[Ap] at h;cases x with
   |agg ls=>simp[af.bR] at h
   |KN ls=>simp[af.bR] at h
   |Au t ls=>simp[af.bR] at h
   |one l=>
    simp only[af.bR] at h;cases l with
    |fy t l=>
     cases t with
     |slice t=>
      simp only at h;cases hz:Nat.beq ei.size t.size with
      |false=>simp[hz] at h
      |true=>
       simp only[hz,aja] at h;have hz:=Q4 hz;cases Dv:nF 0 lo with
       |none=>simp[Dv] at h
       |some i=>
        cases PF:nF (l.length:Int) hi with
        |none=>simp[Dv,PF] at h
        |some j=>simp only[Dv,PF] at h;obtain⟨rr,PK,h⟩:=ata.1 h;have k1:=A4 (P:=P) (w:=w) Dv hlo aa2;have k2:=A4 (P:=P) (w:=w) PF hhi adj;obtain⟨cs,ecs,Bi⟩:=hx;simp only[Ty.agg,asa,aka] at ecs;subst ecs;obtain⟨v,f1,f2⟩:=N3 hE (P:=P) (w:=w) hu Ap hz Bi PK (k1.imp (fun h=>⟨h.1,h.2.2⟩) id) (k2.imp (fun h=>⟨h.1,h.2.2⟩) id);exact lK ⟨_,hu,trivial⟩ UH f1 f2 h
     |_=>simp at h
    |mX a=>
     simp only at h;cases hA:st.arr a with
     |none=>simp[hA] at h
     |some A=>
      simp only[hA] at h;cases hz:Nat.beq ei.size A.t.size with
      |false=>simp[hz] at h
      |true=>
       simp only[hz,aja] at h;have hz:=Q4 hz;have hvx:vx=G.ψ a:=hx;have tJ:=hm.ar a A hA;cases PD:A.sh with
       |true=>
        simp only[PD,aja] at h
        replace tJ:=(xQ PD).1 tJ
        cases Dv:nF 0 lo with
        |none=>simp[Dv] at h
        |some i=>
         cases PF:nF (A.l.length:Int) hi with
         |none=>simp[Dv,PF] at h
         |some j=>
          simp only[Dv,PF] at h;obtain⟨rr,PK,h⟩:=ata.1 h;have k1:=A4 (P:=P) (w:=w) Dv hlo aa2;have k2:=A4 (P:=P) (w:=w) PF hhi adj;obtain⟨v,f1,f2⟩:=N3 hE (P:=P) (w:=w) (vx:=vx) hu Ap hz (by rw[hvx];exact tJ) PK (k1.imp (fun h=>⟨h.1,h.2.2⟩) id) (k2.imp (fun h=>⟨h.1,h.2.2⟩) id)
          exact lK ⟨_,hu,trivial⟩ UH f1 f2 h
       |false=>
        simp only[PD,aoa] at h;cases lo with
        |some _=>simp at h
        |none=>
         cases hi with
         |none=>simp at h
         |some hv=>
          simp only at h;cases hj:hv.FK with
          |none=>simp[hj] at h
          |some p=>
           obtain⟨k,j⟩:=p;simp only[hj] at h;cases hc:(A.bA ||(look st.cT a).isNone ||(look st.gc a).isSome ||(st.arr dst).isSome||st.dj true dst||fk a st.pin) with
           |true=>simp[hc] at h
           |false=>
            simp only[hc,aoa] at h;simp only[aGa] at hc;obtain⟨⟨⟨⟨⟨hAd,LV⟩,xS⟩,M4⟩,Ar⟩,Ok⟩:=hc;have xS:look st.gc a=none:=by simpa using xS
            have M4:st.arr dst=none:=by simpa using M4
            obtain⟨rr,PK,h⟩:=ata.1 h;obtain⟨_,h1,h2,rfl⟩:=Jf PK;obtain⟨vh,rfl,hvh⟩:=hhi hv rfl;cases qG hj hvh;have agF:=aa2 rfl;subst agF UH
            replace tJ:=(ig PD (DZ hAd)).1 tJ
            rw[hAd] at tJ;have hmf:=ET hAd;have ik:dst≠a:=fun e=>by rw[e,hA] at M4;cases M4
            have m9:=(hE _ _ Ap).size w;have M0:∀(N:jV) q,({st with cT:=(dst,N)::FZ st.cT a}:St).arr q=if q=dst then some N else if q=a then none else st.arr q:=fun N q=>by
             simp only[St.arr,aw,qJ];by_cases e:q=dst
             ·subst e;simp
             ·by_cases e2:q=a
              ·subst e2;simp[e,bDa e,xS,cfa]
              ·simp[e,e2,cfa (a:=dst),cfa (a:=a)]
            have YW:((A.l.take j.toNat).drop (0:Int).toNat)=A.l.take j.toNat:=by simp
            rw[YW] at h;rcases tJ with ⟨e1,e2,e3⟩|⟨bb,cap,arr,elem,cells,rest,H',e1,e2,e3,e4,e5,e6⟩
            ·simp only[aJa,a7a] at e3
             have hj0:j=0:=by rw[e1] at h2;simp at h2;omega
             subst hj0;obtain⟨G',m',B8,hv'⟩:=(hm.Ra a xS Ok).ZH (a:=dst) (t:=A.t) (by
              simp only[St.arr,qJ] at M4 ⊢;rw[aBa (fun h=>ik h.symm)];exact M4) Ar
             have hl0:A.l.take (0:Int).toNat=[]:=by simp
             refine⟨.one (.mX dst),.slice none 0 0,_,G',?_,m',fun act ra=>(ra.sub (.refl _) rfl (fun _=>rfl)).le B8 rfl (fun _=>rfl) Ar,hv',by rw[hl0] at h;simp only[PD,hmf] at h;exact h⟩
             have iM:=za (P:=P) (w:=w) (isSlice:=true) (len:=0) (cap:=0) (vlo:=none) (vhi:=some (.int k 0)) (i:=0) (j:=0) (Nat.zero_le _) (cpa 0) (cpa 0) (by simp) (.inl ⟨rfl,rfl⟩) (.inr ⟨k,rfl⟩)
             rw[hvx,e3];simp only[Instr.sliceAt,Instr.slice,aNa,aEa hu,aFa,iM,m9];simp
            ·simp only[aJa,a7a] at e1
             have hH':H' = []:=RepL.nN (fun c x H hr=>gy.nN hr) e6;subst hH';have tY:=hm.ah a A hA PD (bb,Obj.cells arr elem (0,0)) (by rw[e2];simp)
             obtain⟨c1,c2,H1,H2,q1,q2,q3,q4,q5⟩:=RepL.split (fun c x H hr=>gy.size hr) (k:=j.toNat) e6 (by omega)
             have hH1:=RepL.nN (fun c x H hr=>gy.nN hr) q4;subst hH1;have bf:(A.l.take j.toNat).length=j.toNat:=by simp;omega
             obtain⟨G2,m2,r2,v2⟩:=hm.NV (st':={st with cT:=(dst,{A with l:=A.l.take j.toNat})::FZ st.cT a}) (a:=a) (dst:=dst) (A':={A with l:=A.l.take j.toNat}) hA PD PD (show A.gK=true from DZ hAd) e1 e2 (cap':=cap) (arr':=arr) (elem:=elem)
              (.inr ⟨bb,cap,arr,elem,c1,c2++rest,[],rfl,rfl,by rw[e3,q1];simp,e4,by rw[bf];omega,by rw[show({A with l:=A.l.take j.toNat}:jV).bA=false from hAd];exact q4⟩) tY (fun _ _=>rfl) rfl rfl rfl rfl (by simp[jV.nest,hmf]) (rQ.cT _ _) (M0 _) (.inr ⟨ik,M4,Ar,Ok⟩)
             refine⟨_,_,_,G2,?_,m2,r2,v2,by simpa[PD] using h⟩
             have iM:=za (P:=P) (w:=w) (isSlice:=true) (len:=A.l.length) (cap:=cap) (vlo:=none) (vhi:=some (.int k j)) (i:=0) (j:=j) e5 (cpa 0) h1 h2 (.inl ⟨rfl,rfl⟩) (.inr ⟨k,rfl⟩);rw[hvx,e1];simp only[Instr.sliceAt,Instr.slice,aNa,aEa hu,aFa,iM,m9];simp only[bf];by_cases Xi:cap=0
             ·simp[Xi]
             ·simp[Xi,Addr.add]
    |_=>simp at h
 ·cases h
end ops
end Go.Fx
namespace Go.Fx
structure wF(X:mW)(st st':St)(G G':Gh)(w w':World)(Old Tch:Bool×Nat→Prop)(F:List (Bool×Nat)):Prop where
 n:st'.n=st.n
 iz:∀ i,st'.iz i=st.iz i
 bl:st'.cK=st.cK
 pn:st'.pin=st.pin
 S:G'.S=G.S
 bR:∀ l v,(∀ x∈F,l.dj x.1 x.2=false)→aY G l v→aY G' l v
 fm:∀ x∈F,st.dj x.1 x.2=false
 sl:∀ a,SlV (G'.ψ a)
 dT:∀ o ls,st'.dT o=some ls→(Tch (false,o)∧∃ arr elem mid,w'.heap[G'.φ o]? = some (.cells arr elem (0,0))∧arr.toList=G'.pre o++(mid++G'.post o)∧ix G' st' o 0 ls mid)∨
  (¬ Tch (false,o)∧¬ Old (false,o)∧st.dT o=some ls∧G'.φ o=G.φ o∧G'.pre o=G.pre o∧G'.post o=G.post o)
 arr:∀ a A,st'.arr a=some A→(Tch (true,a)∧pj G' a A∧(A.sh=false→(∀ p∈G'.HA a,w'.heap[p.1]? = some p.2)∧((G'.HA a).map (·.1)).Nodup∧(A.nest=true→G'.HV a (G'.vn a)=kI (G'.HA a))))∨
  (¬ Tch (true,a)∧st.arr a=some A∧G'.ψ a=G.ψ a∧G'.HA a=G.HA a∧(A.sh=false→¬ Old (true,a))∧G'.HV a (G'.vn a)=G.HV a (G.vn a)∧∀ i o,A.md=.Ds i o→G'.φ o=G.φ o∧G'.pre o=G.pre o∧G'.post o=G.post o)
 gK:∀ x b,Tch x→fq G' st' x b→(∃ y,Old y∧fq G st y b)∨w.heap.size≤b
 qw:∀ x y b,Tch x→Tch y→fq G' st' x b→fq G' st' y b→x=y
 hv:∀ a,G'.vn a=st'.dH a
 old:∀ b,b<w.heap.size→(∀ y,Old y→¬ fq G st y b)→w'.heap[b]? = w.heap[b]?
 sz:w.heap.size≤w'.heap.size
 os:w'.os=w.os
 tp:w'.tape=w.tape
 out:w'.output=w.output
 ds:G'.ds=G.ds:=by rfl
 U7:∀ o ls,st.dT o=some ls→((∃ p,X.pin o=some p)∨∃ j u,X.bv o j=some u)→st'.dT o=some ls∧¬ Tch (false,o)
 U6:∀ a A,fk a st.pin=true→st.arr a=some A→(∃ B,st'.arr a=some B)∧G'.ψ a=G.ψ a
section
variable {X:mW} {st st':St} {G G':Gh} {w w':World} {Old Tch:Bool×Nat→Prop} {F:List (Bool×Nat)}
theorem wF.Td(h:wF X st st' G G' w w' Old Tch F){x:af}{v:Value}(hm:∀ y∈F,x.dj y.1 y.2=false)(r:aU G x v):aU G' x v:=by
 have fG:∀{ls:List ai} {vs:List Value},(∀ y∈F,ls.any (ai.dj y.1 y.2)=false)→All2 (aY G) ls vs→All2 (aY G') ls vs:=fun {ls vs} hq hr=>
  hr.vp fun l v hl B9=>h.bR l v (fun y hy=>by have:=aTa.1 (hq y hy) l hl;simpa using this) B9
 cases x with
 |one l=>exact h.bR l v hm r
 |agg ls=>obtain⟨cs,e,hr⟩:=r;exact⟨cs,e,fG hm hr⟩
 |KN vs=>
  obtain⟨us,e,hr⟩:=r;refine⟨us,e,hr.vp fun p u hp Nb=>?_⟩;have hm':∀ y∈F,p.2.any (ai.dj y.1 y.2)=false:=fun y hy=>by have:=aTa.1 (hm y hy) p hp;simpa using this
  split at Nb
  ·rename_i hc;simp only[hc,ava];obtain⟨cs,e,hr⟩:=Nb;exact⟨cs,e,fG hm' hr⟩
  ·rename_i hc
   obtain⟨l,e,hr⟩:=Nb;simp only[bCa] at hc;simp only[hc,asa,aka];exact⟨l,e,h.bR l u (fun y hy=>by have:=hm' y hy;rw[e] at this;simpa using this) hr⟩
 |Au t ls=>obtain⟨u,cs,e1,e2,hr⟩:=r;exact⟨u,cs,e1,e2,fG hm hr⟩
theorem wF.eH(h:wF X st st' G G' w w' Old Tch F){act:Act}(hr:bQ G st act):bQ G' st' act:=
 ⟨hr.1.trans h.ds.symm,hr.2.1.trans h.n.symm,fun i v hv=>by
  rw[h.iz] at hv;exact h.Td (fun y hy=>BA (h.fm y hy) hv) (hr.2.2 i v hv)⟩
theorem wF.ok(h:wF X st st' G G' w w' Old Tch F)(hm:aB X st G w):aB X st' G' w':=by
 have hS:∀ b o,G.S b=some o→G'.S b=some o:=fun b o e=>by rw[h.S];exact e
 have low:∀ x b,¬ Tch x→fq G' st' x b→fq G st x b∧¬ Old x:=fun x b hx ho=>by
  obtain⟨k,n⟩:=x;cases k with
  |false=>
   obtain⟨⟨ls,hl⟩,rfl⟩:=ho;rcases h.dT n ls hl with ⟨h1,_⟩|⟨_,h2,h3,h4,_⟩
   ·exact absurd h1 hx
   ·exact⟨⟨⟨ls,h3⟩,h4⟩,h2⟩
  |true=>
   obtain⟨⟨A,hA,hs⟩,p,hp,rfl⟩:=ho;rcases h.arr n A hA with ⟨h1,_⟩|⟨_,h2,h3,h4,h5,_⟩
   ·exact absurd h1 hx
   ·exact⟨⟨⟨A,h2,hs⟩,p,by rw[←h4];exact hp,rfl⟩,h5 hs⟩
 have lJ:∀ x b,fq G st x b→¬ Old x→w'.heap[b]? = w.heap[b]?:=fun x b hx ho=>
  h.old b (fq.lt hm hx) fun y hy hyb=>ho (by rw[←hm.qw y x b hyb hx];exact hy)
 have afv:∀ o ls,st.dT o=some ls→((∃ p,X.pin o=some p)∨∃ j u,X.bv o j=some u)→st'.dT o=some ls∧¬ Old (false,o)∧G'.φ o=G.φ o∧G'.pre o=G.pre o∧G'.post o=G.post o:=fun o ls ho hp=>by
  obtain⟨h1,h2⟩:=h.U7 o ls ho hp;rcases h.dT o ls h1 with ⟨h3,_⟩|⟨_,h4,_,h5⟩
  ·exact absurd h3 h2
  ·exact⟨h1,h4,h5⟩
 refine {sl:=h.sl,sh:=fun b o hb=>?_,ob:=fun o ls ho=>?_,ar:=fun a A hA=>?_,ah:=fun a A hA hs p hp=>?_,nd:=fun a A hA hs=>?_,qw:=fun x y b hx hy=>?_,dS:=fun x b hx=>?_,ua:=fun x b hx=>?_,s0:=fun b o hb=>hS b o (hm.s0 b o hb),sn:=fun b o hb=>hm.sn b o (by rw[←h.S];exact hb),fr:=fun b hb hn=>?_,sz:=bGa hm.sz h.sz,os:=h.os.trans hm.os,tp:=h.tp.trans hm.tp,out:=h.out.trans hm.out,pin:=fun o p hp=>?_,bv:=fun o j u hu=>?_,ap:=fun a u hu=>?_,hv:=h.hv,ds:=h.ds.trans hm.ds,hh:=fun a A hA hs hn=>?_}
 ·rw[h.S] at hb
  have h0:=hm.sh b o hb;rw[h.old b (gn h0) fun y _ hy=>(by rw[hm.dS y b hy] at hb;cases hb)]
  exact h0
 ·rcases h.dT o ls ho with ⟨_,h2⟩|⟨_,h2,h3,h4,h5,h6⟩
  ·exact h2
  ·obtain⟨arr,elem,mid,g1,g2,g3⟩:=hm.ob o ls h3
   refine⟨arr,elem,mid,by rw[h4,lJ (false,o) _ ⟨⟨ls,h3⟩,rfl⟩ h2];exact g1,by rw[h5,h6];exact g2,?_⟩
   unfold ix at g3 ⊢;rw[kh (st:=st) (fun j l=>by cases l<;>simp[St.res,h.bl])]
   refine g3.vp fun l v hl B9=>h.bR l v (fun y hy=>?_) B9;have:=aTa.1 (sx (h.fm y hy) h3 0) l hl;simpa using this
 ·rcases h.arr a A hA with ⟨_,h2,_⟩|⟨_,h2,h3,h4,_,_,h7⟩
  ·exact h2
  ·exact(hm.ar a A h2).mono (G:=G) (a:=a) (G':=G') (a':=a) hS h3 h4 h7
 ·rcases h.arr a A hA with ⟨_,_,h3⟩|⟨_,h2,h3,h4,h5,_⟩
  ·exact(h3 hs).1 p hp
  ·rw[h4] at hp
   rw[lJ (true,a) p.1 ⟨⟨A,h2,hs⟩,p,hp,rfl⟩ (h5 hs)];exact hm.ah a A h2 hs p hp
 ·rcases h.arr a A hA with ⟨_,_,h3⟩|⟨_,h2,h3,h4,_⟩
  ·exact(h3 hs).2.1
  ·rw[h4];exact hm.nd a A h2 hs
 ·by_cases EV:Tch x<;>by_cases F7:Tch y
  ·exact h.qw x y b EV F7 hx hy
  ·obtain⟨k1,k2⟩:=low y b F7 hy
   rcases h.gK x b EV hx with ⟨z,hz,hzb⟩|hf
   ·exact absurd (by rw[←hm.qw z y b hzb k1];exact hz) k2
   ·have:=fq.lt hm k1;omega
  ·obtain⟨k1,k2⟩:=low x b EV hx
   rcases h.gK y b F7 hy with ⟨z,hz,hzb⟩|hf
   ·exact absurd (by rw[←hm.qw z x b hzb k1];exact hz) k2
   ·have:=fq.lt hm k1;omega
  ·exact hm.qw x y b (low x b EV hx).1 (low y b F7 hy).1
 ·rw[h.S]
  by_cases EV:Tch x
  ·rcases h.gK x b EV hx with ⟨z,hz,hzb⟩|hf
   ·exact hm.dS z b hzb
   ·cases hc:G.S b with
    |none=>rfl
    |some o=>have:=gn (hm.sh b o hc);omega
  ·exact hm.dS x b (low x b EV hx).1
 ·by_cases EV:Tch x
  ·rcases h.gK x b EV hx with ⟨z,hz,hzb⟩|hf
   ·exact hm.ua z b hzb
   ·have:=hm.sz;exact .inr (by omega)
  ·exact hm.ua x b (low x b EV hx).1
 ·rw[h.old b (by have:=hm.sz;omega) fun y _ hy=>(by
   rcases hm.ua y b hy with g|g
   ·exact hn g
   ·omega)]
  exact hm.fr b hb hn
 ·obtain⟨⟨ls,h1⟩,h2⟩:=hm.pin o p hp
  obtain⟨h3,_,h4,h5,h6⟩:=afv o ls h1 (.inl ⟨p,hp⟩);exact⟨⟨ls,h3⟩,by rw[h4,h5,h6];exact h2⟩
 ·obtain⟨h1,⟨ls,h2,h3⟩,arr,elem,h4,h5⟩:=hm.bv o j u hu
  obtain⟨k1,k2,k3,k4,k5⟩:=afv o ls h2 (.inr ⟨j,u,hu⟩);exact⟨by rw[h.bl];exact h1,⟨ls,k1,h3⟩,arr,elem,by rw[k3,lJ (false,o) _ ⟨⟨ls,h2⟩,rfl⟩ k2];exact h4,by rw[k4];exact h5⟩
 ·rcases h.arr a A hA with ⟨_,_,h3⟩|⟨_,h2,h3,h4,h5,h6,_⟩
  ·exact(h3 hs).2.2 hn
  ·rw[h6,h4];exact hm.hh a A h2 hs hn
 ·obtain⟨h1,⟨A,h2⟩,h3⟩:=hm.ap a u hu
  obtain⟨h4,h5⟩:=h.U6 a A h1 h2;exact⟨by rw[h.pn];exact h1,h4,h5.trans h3⟩
end
end Go.Fx
namespace Go.Fx
theorem L3{x:Nat}:∀{l:List Nat},fk x l=true↔x∈l
 |[]=>by simp[fk]
 |y::r=>by simp only[fk,a6a,ala,L3 (l:=r)];exact⟨fun h=>h.imp (fun e=>Q4 e) id,fun h=>h.imp (fun e=>by subst e;simp) id⟩
theorem E4:∀{l:List Nat},ou l=true→l.Nodup
 |[],_=>cba
 |x::r,h=>by simp only[ou,Q3,aOa] at h;refine a3a.2 ⟨fun hm=>?_,E4 h.2⟩;rw[L3.2 hm] at h;cases h.1
theorem Ns{α:Type}:∀(l m:List (Nat×α)) (q:Nat),look (l++m) q=match look l q with|some v=>some v|none=>look m q
 |[],m,q=>rfl
 |(k,v)::r,m,q=>by
  rw[a4a,aw,aw];by_cases e:k=q
  ·simp[e]
  ·simp only[e,aka];exact Ns r m q
theorem zI:∀{c:List Nat} {l:List (Nat×jV)} {q:Nat},look (lu c l) q=if q∈c then none else look l q
 |[],l,q=>by simp[lu]
 |a::r,l,q=>by
  rw[lu,zI,qJ];by_cases h1:q∈r
  ·simp[h1]
  ·by_cases h2:a=q
   ·simp[h2]
   ·have:q≠a:=fun e=>h2 e.symm
    simp[h1,h2,this]
theorem wy{S S':Du}{m m':Bool}:∀{t:Ty} {cs:List Value} {d:t.nM} {H:gz},t.yZ=true→gy S m t cs d H→gy S' m' t cs d H
 |.int _,_,_,_,_,h=>h
 |.bool,_,_,_,_,h=>h
 |.str,_,_,_,_,h=>h
 |.slice _,_,_,_,e,_=>by cases e
 |.dg a b,cs,d,H,e,h=>by simp only[Ty.yZ,Q3] at e;obtain⟨c1,c2,H1,H2,rfl,rfl,h1,h2⟩:=h;exact⟨c1,c2,H1,H2,rfl,rfl,wy e.1 h1,wy e.2 h2⟩
 |.one a,cs,d,H,e,h=>by exact wy (t:=a) e h
 |.arr n t,cs,d,H,e,h=>⟨h.1.imp fun c x H hx=>wy (t:=t) e hx,h.2⟩
theorem Wl{α:Type}{RL:List Value→List α→gz→Prop}{sz:Nat}{v:Value}{l:List α}{H:gz}(h:kA RL sz [v] l H):SlV v:=by
 rcases h with ⟨_,_,e⟩|⟨b,cap,arr,elem,cells,rest,H',e,_⟩
 ·simp only[aJa,a7a] at e;exact .inl ⟨_,_,_,e⟩
 ·simp only[aJa,a7a] at e;exact .inl ⟨_,_,_,e⟩
theorem aB.Nm{X:mW}{st st':St}{G:Gh}{w w':World}(hm:aB X st G w){dst:Nat}{C:List Nat}{A':jV}{hd:Value}{HH:gz}
  (hC:∀ c∈C,(∃ A,st.arr c=some A∧A.sh=false)∧fk c st.pin=false) (Ca:A'.sh=false)
  (L0:SlV hd) (Nc:∀ G':Gh,G'.S=G.S→G'.ψ dst=hd→G'.HA dst=HH→pj G' dst A') (Iv:(HH.map (·.1)).Nodup)
  (YX:∀ p∈HH,(∃ c∈C,∃ q∈G.HA c,q.1=p.1)∨w.heap.size≤p.1) (YY:∀ p∈HH,w'.heap[p.1]? = some p.2)
  (adp:∀ b,b<w.heap.size→(∀ c∈C,∀ q∈G.HA c,q.1≠b)→w'.heap[b]? = w.heap[b]?) (m9:w.heap.size≤w'.heap.size) (hos:w'.os=w.os) (htp:w'.tape=w.tape) (yB:w'.output=w.output)
  (hk:rQ st st') (px:∀ q,st'.arr q=if q=dst then some A' else if q∈C then none else st.arr q) (LW:st.arr dst=none) (Ar:st.dj true dst=false):
  ∃ G',aB X st' G' w'∧(∀ act,bQ G st act→bQ G' st' act)∧aU G' (.one (.mX dst)) hd∧G.Le G' true dst:=by
 let G':Gh:={G with ψ:=fun q=>if q=dst then hd else G.ψ q,HA:=fun q=>if q=dst then HH else G.HA q,HV:=fun q=>if q=dst then fun _=>kI HH else G.HV q}
 have B8:G.Le G' true dst:=⟨fun _ _ h=>h,fun _ _=>rfl,fun _ _=>rfl,fun _ _=>rfl,fun q h=>by simp[G',h rfl],fun _=>rfl,fun q h=>by simp[G',h rfl],rfl⟩
 have Ol:wF X st st' G G' w w' (fun x=>∃ c∈C,x=(true,c)) (fun x=>x=(true,dst)) [(true,dst)]:=by
  refine {
      n:=hk.n,iz:=hk.iz,bl:=hk.bl,pn:=hk.pn,S:=rfl,bR:=fun l v h r=>r.le B8 (h (true,dst) (Q7.2 rfl)),fm:=fun x hx=>by rw[Q7.1 hx];exact Ar,
      sl:=fun q=>?_,dT:=fun o ls h=>?_,arr:=fun q A h=>?_,gK:=fun x b hx ho=>?_,qw:=fun x y b hx hy _ _=>hx.trans hy.symm,hv:=fun q=>?_,old:=fun b hb hn=>?_,
      sz:=m9,os:=hos,tp:=htp,out:=yB,U7:=fun o ls h _=>⟨by rw[hk.dT];exact h,by simp⟩,U6:=fun q A hp hA=>?_}
  ·by_cases e:q=dst
   ·simp only[G',e,ava];exact L0
   ·simp only[G',e,aka];exact hm.sl q
  ·rw[hk.dT] at h
   exact .inr ⟨by simp,by simp,h,rfl,rfl,rfl⟩
  ·rw[px] at h
   by_cases e:q=dst
   ·subst e
    simp only[ava,Ob] at h;subst h;refine .inl ⟨rfl,Nc G' rfl (by simp[G']) (by simp[G']),fun _=>?_⟩
    simp only[G',ava];exact⟨YY,Iv,fun _=>trivial⟩
   ·simp only[e,aka] at h
    by_cases e2:q∈C
    ·simp[e2] at h
    ·simp only[e2,aka] at h
     exact .inr ⟨by simp[e],h,by simp[G',e],by simp[G',e],fun _=>by simpa using fun h=>e2 h,by simp[G',e],fun _ _ _=>⟨rfl,rfl,rfl⟩⟩
  ·subst hx
   obtain⟨⟨A,hA,hs⟩,p,hp,rfl⟩:=ho;simp only[G',ava] at hp;rcases YX p hp with ⟨c,hc,q,hq,e⟩|h
   ·obtain⟨⟨B,hB,JR⟩,_⟩:=hC c hc
    exact .inl ⟨(true,c),⟨c,hc,rfl⟩,⟨B,hB,JR⟩,q,hq,e⟩
   ·exact .inr h
  ·show G.vn q=st'.dH q
   rw[hm.hv];simp only[St.dH,hk.vr]
  ·refine adp b hb fun c hc q hq e=>?_
   obtain⟨⟨B,hB,JR⟩,_⟩:=hC c hc;exact hn (true,c) ⟨c,hc,rfl⟩ ⟨⟨B,hB,JR⟩,q,hq,e⟩
  ·have h1:q≠dst:=fun e=>by rw[e,LW] at hA;cases hA
   have h2:q∉C:=fun e=>by rw[(hC q e).2] at hp;cases hp
   exact⟨⟨A,by rw[px,aBa h1,aBa h2];exact hA⟩,by simp[G',h1]⟩
 exact⟨G',Ol.ok hm,fun act=>Ol.eH,by simp[aU,aY,G'],B8⟩
theorem aB.uo{X:mW}{st st':St}{G:Gh}{w w':World}(hm:aB X st G w){dst:Nat}{C:List Nat}{A':jV}{hd:Value}{HH:gz}
  (hC:∀ c∈C,(∃ A,st.arr c=some A∧A.sh=false)∧fk c st.pin=false) (Ca:A'.sh=false) (how:A'.gK=true)
  (jK:kA (RepL (gy G.S A'.bA A'.t)) A'.t.size [hd] A'.l HH) (Iv:(HH.map (·.1)).Nodup)
  (YX:∀ p∈HH,(∃ c∈C,∃ q∈G.HA c,q.1=p.1)∨w.heap.size≤p.1) (YY:∀ p∈HH,w'.heap[p.1]? = some p.2)
  (adp:∀ b,b<w.heap.size→(∀ c∈C,∀ q∈G.HA c,q.1≠b)→w'.heap[b]? = w.heap[b]?) (m9:w.heap.size≤w'.heap.size) (hos:w'.os=w.os) (htp:w'.tape=w.tape) (yB:w'.output=w.output)
  (hk:rQ st st') (px:∀ q,st'.arr q=if q=dst then some A' else if q∈C then none else st.arr q) (LW:st.arr dst=none) (Ar:st.dj true dst=false):
  ∃ G',aB X st' G' w'∧(∀ act,bQ G st act→bQ G' st' act)∧aU G' (.one (.mX dst)) hd∧G.Le G' true dst:=
 hm.Nm hC Ca (Wl jK) (fun G' e1 e2 e3=>(ig Ca how).2 (by rw[e1,e2,e3];exact jK)) Iv YX YY adp m9 hos htp yB hk px LW Ar
theorem ZC(u:Ty):(Ry u=.eL∧u.yZ=true)∨Ry u=.bA:=by unfold Ry;cases h:u.yZ<;>simp
theorem abB{S:Du}{u:Ty}{cs:List Value}{l:List u.nM}{H:gz}{sz:Nat}{v:List Value}(h:kA (RepL (gy S true u)) sz v l H){m:Bool}(hm:m=true∨u.yZ=true):kA (RepL (gy S m u)) sz v l H:=by
 rcases hm with rfl|hn
 ·exact h
 ·exact h.imp fun c H hr=>hr.imp fun _ _ _ hx=>wy hn hx
theorem abC{S:Du}{u:Ty}{l:List u.nM}{H:gz}{sz:Nat}{v:List Value}{m:Bool}(hm:m=true∨u.yZ=true)(h:kA (RepL (gy S m u)) sz v l H):kA (RepL (gy S true u)) sz v l H:=by
 rcases hm with rfl|hn
 ·exact h
 ·exact h.imp fun c H hr=>hr.imp fun _ _ _ hx=>wy hn hx
theorem Pc(nm:Nat)(u:Ty)(l:List u.nM):(⟨u,Ry u,false,l⟩:jV).gK=true∧((⟨u,Ry u,false,l⟩:jV).bA=true∨u.yZ=true):=by
 rcases ZC u with ⟨h,h2⟩|h
 ·rw[h];exact⟨rfl,.inr h2⟩
 ·rw[h];exact⟨rfl,.inl rfl⟩
theorem aY.leF{G G':Gh}{F:List (Bool×Nat)}(hS:∀ b o,G.S b=some o→G'.S b=some o)(hφ:∀ o,(false,o)∉F→G'.φ o=G.φ o∧G'.pre o=G.pre o)
  (hψ:∀ a,(true,a)∉F→G'.ψ a=G.ψ a∧G.vn a≤G'.vn a∧∀ v,v≤G.vn a→G'.HV a v=G.HV a v) {l:ai} {v:Value} (hm:∀ x∈F,l.dj x.1 x.2=false) (r:aY G l v):aY G' l v:=by
 have ha:∀ a,l.dj true a=true→(true,a)∉F:=fun a h hf=>by rw[hm _ hf] at h;cases h
 have ho:∀ a,l.dj false a=true→(false,a)∉F:=fun a h hf=>by rw[hm _ hf] at h;cases h
 cases l with
 |any=>trivial
 |vb=>trivial
 |vU=>exact r
 |fy t d=>obtain⟨cs,e,hr⟩:=r;exact⟨cs,e,hr.mono hS⟩
 |nil=>exact r
 |J7=>exact r
 |mX a=>simp only[aY,(hψ a (ha a (by simp[ai.dj]))).1];exact r
 |lB o off=>have:=hφ o (ho o (by simp[ai.dj]));simp only[aY,this.1,this.2];exact r
 |DX a sz i off=>simp only[aY,(hψ a (ha a (by simp[ai.dj]))).1];exact r
 |Pa t d off=>obtain⟨b,arr,elem,fz,pre,cs,post,h1,h2,h3,h4⟩:=r;exact⟨b,arr,elem,fz,pre,cs,post,hS _ _ h1,h2,h3.mono hS,h4⟩
 |fn f=>exact r
 |E5 a vr sz i off=>have:=hψ a (ha a (by simp[ai.dj]));exact vX.AB r this.1 this.2.1 this.2.2
 |nse a vr sz i off sz2 j To=>
  have:=hψ a (ha a (by simp[ai.dj]))
  obtain⟨b2,J1,Lf,h1,h2⟩:=r;exact⟨b2,J1,Lf,h1.AB this.1 this.2.1 this.2.2,h2⟩
 |LP a kk n=>simp only[aY,(hψ a (ha a (by simp[ai.dj]))).1];exact r
 |ga t l=>obtain⟨b,arr,elem,fz,cs,rest,h1,h2,h3,h4⟩:=r;exact⟨b,arr,elem,fz,cs,rest,hS _ _ h1,h2,h3.El hS,h4⟩
theorem L7{S:Du}{nm:Nat→Nat}:∀{t:Ty} {d:t.nM} {cs:List Value} {H:gz} {off:Nat},t.sy=true→gy S true t cs d H→
  ∃ gs:List (Value×gz),H=gs.flatMap (·.2)∧All2 (fun(p:Nat×jV) (g:Value×gz)=>p.2.sh=false∧p.2.gK=true∧kA (RepL (gy S p.2.bA p.2.t)) p.2.t.size [g.1] p.2.l g.2) (zu nm t d off) gs∧
   ∀ G:Gh,G.S=S→All2 (fun(p:Nat×jV) (g:Value×gz)=>G.ψ p.1=g.1) (zu nm t d off) gs→All2 (aY G) (Hr nm t d off) cs
 |.int k,d,cs,H,off,_,h=>by rw[h.1,h.2];exact⟨[],rfl,trivial,fun G _ _=>⟨⟨_,by simp[Ty.agg],rfl,rfl⟩,trivial⟩⟩
 |.bool,d,cs,H,off,_,h=>by rw[h.1,h.2];exact⟨[],rfl,trivial,fun G _ _=>⟨⟨_,by simp[Ty.agg],rfl,rfl⟩,trivial⟩⟩
 |.str,d,cs,H,off,_,h=>by rw[h.1,h.2];exact⟨[],rfl,trivial,fun G _ _=>⟨⟨_,by simp[Ty.agg],rfl,rfl⟩,trivial⟩⟩
 |.slice u,d,cs,H,off,_,h=>by
  have hs:=gy.size h
  match cs,hs,h with
  |[v],_,h=>obtain⟨k1,k2⟩:=Pc (nm off) u d;exact⟨[(v,H)],by simp,⟨⟨rfl,k1,abB (cs:=[]) h k2⟩,trivial⟩,fun G _ hg=>⟨hg.1.symm,trivial⟩⟩
 |.dg a b,d,cs,H,off,hn,h=>by
  simp only[Ty.sy,Q3] at hn;obtain⟨c1,c2,H1,H2,rfl,rfl,h1,h2⟩:=h;obtain⟨g1,e1,a1,r1⟩:=L7 (nm:=nm) (off:=off) hn.1 h1;obtain⟨g2,e2,a2,r2⟩:=L7 (nm:=nm) (off:=off+a.size) hn.2 h2;refine⟨g1++g2,by rw[e1,e2,cDa],a1.append a2,fun G hS hg=>?_⟩
  obtain⟨y1,y2,e,k1,k2⟩:=hg.split;have hl:y1.length=g1.length:=by rw[←k1.length,a1.length]
  obtain⟨rfl,rfl⟩:=List.append_inj e hl.symm;exact(r1 G hS k1).append (r2 G hS k2)
 |.one a,d,cs,H,off,hn,h=>by exact L7 (t:=a) hn h
 |.arr _ _,d,cs,H,off,hn,_=>by cases hn
def Jh:List (Nat×jV)→List (Value×gz)→List (Nat×Value×gz)
 |p::r,g::s=>(p.1,g)::Jh r s
 |_,_=>[]
theorem qV{R:Nat×jV→Value×gz→Prop}:∀{l:List (Nat×jV)} {gs:List (Value×gz)} {q:Nat} {g:Value×gz},All2 R l gs→look (Jh l gs) q=some g→∃ A,look l q=some A∧R (q,A) g∧g∈gs
 |p::r,g0::gs,q,g,h,hl=>by
  obtain⟨k,A⟩:=p;simp only[Jh,aw] at hl ⊢;by_cases e:k=q
  ·subst e
   simp only[ava,Ob] at hl ⊢;subst hl;exact⟨A,rfl,h.1,awa ..⟩
  ·simp only[e,aka] at hl ⊢
   obtain⟨B,h1,h2,h3⟩:=qV h.2 hl;exact⟨B,h1,h2,Q8 _ h3⟩
 |[],[],_,_,_,hl=>by cases hl
 |[],_::_,_,_,h,_=>h.elim
 |_::_,[],_,_,h,_=>h.elim
theorem Nt{R:Nat×jV→Value×gz→Prop}:∀{l:List (Nat×jV)} {gs:List (Value×gz)} {q:Nat} {A:jV},All2 R l gs→look l q=some A→∃ g,look (Jh l gs) q=some g∧R (q,A) g
 |p::r,g0::gs,q,A,h,hl=>by
  obtain⟨k,B⟩:=p;simp only[Jh,aw] at hl ⊢;by_cases e:k=q
  ·subst e
   simp only[ava,Ob] at hl ⊢;subst hl;exact⟨g0,rfl,h.1⟩
  ·simp only[e,aka] at hl ⊢
   exact Nt h.2 hl
 |[],[],_,_,_,hl=>by cases hl
 |[],_::_,_,_,h,_=>h.elim
 |_::_,[],_,_,h,_=>h.elim
theorem afY{R:Nat×jV→Value×gz→Prop}{l:List (Nat×jV)}{gs:List (Value×gz)}{q:Nat}(h:All2 R l gs)(hl:look (Jh l gs) q=none):look l q=none:=by
 cases hh:look l q with
 |none=>rfl
 |some A=>obtain⟨g,hg,_⟩:=Nt h hh;rw[hl] at hg;cases hg
theorem acP{R:Nat×jV→Value×gz→Prop}{f:Nat→Value}:∀{l:List (Nat×jV)} {gs:List (Value×gz)},All2 R l gs→(l.map (·.1)).Nodup→(∀ q g,look (Jh l gs) q=some g→f q=g.1)→All2 (fun(p:Nat×jV) (g:Value×gz)=>f p.1=g.1) l gs
 |[],[],_,_,_=>trivial
 |p::r,g::gs,h,hn,hf=>by
  rw[aHa,a3a] at hn;refine⟨hf p.1 g (by simp[Jh,aw]),acP h.2 hn.2 fun q g' hq=>hf q g' ?_⟩
  simp only[Jh,aw];have ik:p.1≠q:=fun e=>by obtain⟨A,hA,_⟩:=qV h.2 hq;exact hn.1 (by rw[e];exact aIa (f:=(·.1)) (ep hA))
  rw[aBa ik];exact hq
 |[],_::_,h,_,_=>h.elim
 |_::_,[],h,_,_=>h.elim
theorem WW{R:Nat×jV→Value×gz→Prop}:∀{l:List (Nat×jV)} {gs:List (Value×gz)} {q q':Nat} {g g':Value×gz},All2 R l gs→((gs.flatMap (·.2)).map (·.1)).Nodup→look (Jh l gs) q=some g→look (Jh l gs) q' = some g'→
  ∀ p∈g.2,∀ p'∈g'.2,p.1=p'.1→q=q'
 |a::r,g0::gs,q,q',g,g',h,hn,hq,Ix,p,hp,p',As,e=>by
  simp only[Jh,aw] at hq Ix;rw[bSa,bwa,bba] at hn;have tail:∀{q:Nat} {g:Value×gz},look (Jh r gs) q=some g→∀ p∈g.2,p.1∈(gs.flatMap (·.2)).map (·.1):=fun {q g} hq p hp=>by obtain⟨_,_,_,hg⟩:=qV h.2 hq;exact aIa (bma.2 ⟨g,hg,hp⟩)
  by_cases e1:a.1=q<;>by_cases e2:a.1=q'
  ·rw[←e1,←e2]
  ·simp only[e1,ava,Ob] at hq
   simp only[e2,aka] at Ix;subst hq;exact absurd e (hn.2.2 _ (aIa hp) _ (tail Ix p' As))
  ·simp only[e1,aka] at hq
   simp only[e2,ava,Ob] at Ix;subst Ix;exact absurd e.symm (hn.2.2 _ (aIa As) _ (tail hq p hp))
  ·simp only[e1,aka] at hq
   simp only[e2,aka] at Ix;exact WW h.2 hn.2.1 hq Ix p hp p' As e
 |[],[],_,_,_,_,_,_,hq,_,_,_,_,_,_=>by cases hq
 |[],_::_,_,_,_,_,h,_,_,_,_,_,_,_,_=>h.elim
 |_::_,[],_,_,_,_,h,_,_,_,_,_,_,_,_=>h.elim
end Go.Fx
namespace Go.Fx
def GL(st:St)(x:af):Prop:=∀ k y,st.dj k y=false→x.dj k y=false
theorem su{st:St}{a:Nat}{A:jV}(h:look st.cT a=some A):st.arr a=some A:=by simp[St.arr,h]
structure Yh(X:mW)(st:St)(G:Gh)(w:World)(a i o:Nat)(s1:St)(G1:Gh):Prop where
 Gf:aB X s1 G1 w
 eH:∀ act,bQ G st act→bQ G1 s1 act
 val:∀ x v,GL st x→aU G x v→aU G1 x v
 Oe:∀ x v,x.dj false o=false→(∀ q,x.dj true (LC a (st.dH a) q)=false)→aU G x v→aU G1 x v
 iZ:s1.n=st.n∧s1.eH=st.eH∧s1.jw=st.jw∧s1.cK=st.cK∧s1.gc=st.gc∧s1.pin=st.pin∧s1.EM=st.EM
 none:st.dT o=none
 lB:∀ off v,aY G1 (.lB o off) v↔∃ A,look st.cT a=some A∧aY G (.DX a A.t.size i off) v
 abO:∀ A off u,look st.cT a=some A→off<A.t.size→vX G1 a (st.dH a) A.t.size i off u→u=G1.ψ (LC a (st.dH a) off)
theorem E6{nm:Nat→Nat}:∀{t:Ty} {d:t.nM} {off:Nat} {p:Nat×jV},p∈zu nm t d off→∃ q,p.1=nm q
 |.slice u,d,off,p,h=>⟨off,by rw[Q7.1 h]⟩
 |.dg a b,d,off,p,h=>by
  rcases ana.1 h with h|h
  ·exact E6 h
  ·exact E6 h
 |.one a,d,off,p,h=>by exact E6 (t:=a) h
 |.int _,d,off,p,h=>by cases h
 |.bool,d,off,p,h=>by cases h
 |.str,d,off,p,h=>by cases h
 |.arr _ _,d,off,p,h=>by cases h
theorem RN{X:mW}{st:St}{G:Gh}{w:World}{R:Type}{r:R}{a i o:Nat}{K:St→Option R}(h:FP st a i o K=some r)(hm:aB X st G w):
    ∃ s1 G1,Yh X st G w a i o s1 G1∧K s1=some r:=by
  unfold FP at h;cases hA:look st.cT a with
  |none=>simp[hA] at h
  |some A=>
    simp only[hA] at h;split at h
    · rename_i vm
      cases hc:(A.sh ||(st.dT o).isSome||st.dj false o||!A.t.sy) with
      |true=>simp[hc] at h
      |false=>
        simp only[hc,aoa] at h;simp only[aGa,bpa] at hc;obtain⟨⟨⟨dz,OJ⟩,hmo⟩,hna⟩:=hc;have OJ:st.dT o=none:=by simpa using OJ
        obtain⟨x,hx,h⟩:=ata.1 h;have hi:A.l[i]? = some x:=by simpa[bL] using hx
        generalize hnm:LC a (st.dH a)=nm at h;cases xS:(ou ((zu nm A.t x 0).map (·.1))&&(zu nm A.t x 0).all (fun p=>(st.arr p.1).isNone&&!st.dj true p.1)) with
        |false=>simp[xS] at h
        |true=>
          simp only[xS,aja] at h;simp only[Q3,aqa,aOa] at xS;have Iv:=E4 xS.1;have tZ:∀ p∈zu nm A.t x 0,st.arr p.1=none∧st.dj true p.1=false:=fun p hp=>by have:=xS.2 p hp;exact⟨by simpa using this.1,this.2⟩
          have jW:=su hA;have aeP:A.bA=true:=by simp[jV.bA,vm]
          have jK:A.gK=true:=by simp[jV.gK,vm]
          have tJ:=(ig dz jK).1 (hm.ar a A jW);rw[aeP] at tJ;rcases tJ with ⟨e1,_⟩|⟨b,cap,arr,elem,cells,rest,H',e1,e2,e3,e4,e5,e6⟩
          · rw[e1] at hi;simp at hi
          simp only[aJa,a7a] at e1;have FJ:i<A.l.length:=(ama.1 hi).1;obtain⟨pre,t1,Hp,t2,k1,k2,k3,k4,k5⟩:=RepL.split (fun c x H hr=>gy.size hr) e6 (Nat.le_of_lt FJ);have YW:A.l.drop i=x::A.l.drop (i+1):=by
            have:=aLa FJ;rw[this];congr 1
            have:=(ama.1 hi).2;exact this
          rw[YW] at k5;obtain⟨cc,post,Hc,Hq,k6,k7,k8,k9⟩:=k5;obtain⟨gs,f1,f2,f3⟩:=L7 (nm:=nm) (off:=0) hna k8;subst k6;subst k7;have tY:=hm.ah a A jW dz (b,Obj.cells arr elem (0,0)) (by rw[e2];simp)
          have SY:=hm.nd a A jW dz;rw[e2,k2] at SY;let Z:=Jh (zu nm A.t x 0) gs
          let G1:Gh:={G with
            φ:=fun q=>if q=o then b else G.φ q
            pre:=fun q=>if q=o then pre else G.pre q
            post:=fun q=>if q=o then post++rest else G.post q
            ψ:=fun q=>match look Z q with|some g=>g.1|none=>G.ψ q
            HA:=fun q=>match look Z q with|some g=>g.2|none=>if q=a then Hp++Hq else G.HA q
            HV:=fun q=>match look Z q with|some g=>fun _=>kI g.2|none=>G.HV q}
          let s1:St:={st with cT:=(a,{A with md:=.Ds i o})::(zu nm A.t x 0++st.cT),cp:=(o,Hr nm A.t x 0)::st.cp}
          have hZa:look Z a=none:=by
            cases hz:look Z a with
            |none=>rfl
            |some g=>obtain⟨B,hB,_⟩:=qV f2 hz;have:=(tZ _ (ep hB)).1;rw[jW] at this;cases this
          have hZF:∀ q g,look Z q=some g→(true,q)∈(false,o)::(zu nm A.t x 0).map (fun p=>(true,p.1)):=fun q g hz=>by obtain⟨B,hB,_⟩:=qV f2 hz;exact Q8 _ (a0a.2 ⟨_,ep hB,rfl⟩)
          have rU:All2 (aY G1) (Hr nm A.t x 0) cc:=f3 G1 rfl (acP f2 Iv fun q g hz=>by simp only[G1,Z] at *;rw[hz])
          have Eb:∀ q,s1.dT q=if o=q then some (Hr nm A.t x 0) else st.dT q:=fun q=>by simp only[s1,St.dT,aw]
          have M1:∀ q,s1.arr q=if a=q then some {A with md:=.Ds i o} else match look (zu nm A.t x 0) q with|some B=>some B|none=>st.arr q:=fun q=>by
            simp only[s1,St.arr,aw];by_cases e:a=q
            · simp[e]
            · simp only[e,aka,Ns]
              cases look (zu nm A.t x 0) q<;>rfl
          have hOa:∀ p∈G.HA a,fq G st (true,a) p.1:=fun p hp=>⟨⟨A,jW,dz⟩,p,hp,rfl⟩;have inA:∀ q g,look Z q=some g→∀ p∈g.2,p∈G.HA a:=fun q g hz p hp=>by obtain⟨_,_,_,hg⟩:=qV f2 hz;rw[e2,k2,f1];exact Q8 _ (ara _ (aya _ (bma.2 ⟨g,hg,hp⟩)))
          have aff:∀ p∈Hp++Hq,p∈G.HA a:=fun p hp=>by
            rw[e2,k2];rcases ana.1 hp with hp|hp
            · exact Q8 _ (aya _ hp)
            · exact Q8 _ (ara _ (ara _ hp))
          rw[aHa,a3a] at SY;obtain⟨hk1,hk2⟩:=SY;have hkm:∀ p,p∈Hp++(Hc++Hq)→p.1≠b:=fun p hp e=>hk1 (by show b∈_;rw[←e];exact aIa (f:=(·.1)) hp)
          rw[bwa,bwa,bba,bba] at hk2;obtain⟨n1,⟨n2,n3,n4⟩,n5⟩:=hk2;have gH:∀ q g,look Z q=some g→∀ p∈g.2,p∈Hc:=fun q g hz p hp=>by obtain⟨_,_,_,hg⟩:=qV f2 hz;rw[f1];exact bma.2 ⟨g,hg,hp⟩
          have NQ:∀ y c,fq G1 s1 y c→(y=(false,o)∧c=b)∨(y=(true,a)∧∃ p∈Hp++Hq,p.1=c)∨(∃ q g,y=(true,q)∧look Z q=some g∧∃ p∈g.2,p.1=c)∨(y≠(false,o)∧y≠(true,a)∧(∀ q g,look Z q=some g→y≠(true,q))):=fun y c hy=>by
            obtain⟨k,q⟩:=y;cases k with
            |false=>
              obtain⟨_,rfl⟩:=hy;by_cases e:q=o
              · subst e;exact .inl ⟨rfl,by simp[G1]⟩
              · exact .inr (.inr (.inr ⟨by simpa using e,by simp,by simp⟩))
            |true=>
              obtain⟨_,p,hp,rfl⟩:=hy;cases hz:look Z q with
              |some g=>simp only[G1,hz] at hp;exact .inr (.inr (.inl ⟨q,g,rfl,hz,p,hp,rfl⟩))
              |none=>
                simp only[G1,hz] at hp;by_cases e:q=a
                · subst e
                  simp only[ava] at hp;exact .inr (.inl ⟨rfl,p,hp,rfl⟩)
                · refine .inr (.inr (.inr ⟨by simp,by simpa using e,fun q' g hz' e2=>?_⟩))
                  cases e2;rw[hz] at hz';cases hz'
          have Ol:wF X st s1 G G1 w w (fun y=>y=(true,a)) (fun y=>y=(false,o)∨y=(true,a)∨∃ q g,y=(true,q)∧look Z q=some g) ((false,o)::(zu nm A.t x 0).map (fun p=>(true,p.1))):=by
            refine {
                     n:=rfl,iz:=fun _=>rfl,bl:=rfl,pn:=rfl,S:=rfl,bR:=fun l v hl hr=>?_,fm:=fun y hy=>?_,sl:=fun q=>?_,dT:=fun q ls hq=>?_,arr:=fun q B hq=>?_,
                     gK:=fun y c hy ho=>?_,qw:=fun y z c hy hz ho ho'=>?_,hv:=hm.hv,old:=fun _ _ _=>rfl,sz:=axa _,os:=rfl,tp:=rfl,out:=rfl,U7:=fun q ls hq _=>?_,U6:=fun q B hp hq=>?_}
            · refine aY.leF (G:=G) (G':=G1) (F:=(false,o)::(zu nm A.t x 0).map (fun p=>(true,p.1))) (fun _ _ h=>h) (fun q hq=>?_) (fun q hq=>?_) hl hr
              · have:q≠o:=fun e=>hq (by rw[e];exact awa ..)
                simp[G1,this]
              · have:look Z q=none:=by
                  cases hz:look Z q with
                  |none=>rfl
                  |some g=>exact absurd (hZF q g hz) hq
                simp[G1,this]
            · rcases ala.1 hy with rfl|hy
              · exact hmo
              · obtain⟨p,hp,rfl⟩:=a0a.1 hy
                exact(tZ p hp).2
            · cases hz:look Z q with
              |some g=>obtain⟨B,_,⟨_,_,hb⟩,_⟩:=qV f2 hz;simp only[G1,hz];exact Wl hb
              |none=>simp only[G1,hz];exact hm.sl q
            · rw[Eb] at hq
              by_cases e:o=q
              · subst e
                simp only[ava,Ob] at hq;subst hq;refine .inl ⟨.inl rfl,arr,elem,cc,by simp only[G1,ava];exact tY,by simp only[G1,ava];rw[e3,k1];simp,?_⟩
                unfold ix;have hnb:(Hr nm A.t x 0).any ai.pV=false:=by
                  have key:∀(t:Ty) (d:t.nM) (off:Nat),(Hr nm t d off).any ai.pV=false:=by
                    intro t;induction t with
                    |dg a b Nj ihb=>intro d off;simp only[Hr,List.any_append,Nj,ihb];rfl
                    |one a ih=>intro d off;exact ih d off
                    |_=>intro d off;rfl
                  exact key _ _ _
                rw[vD _ _ _ _ hnb];exact rU
              · simp only[e,aka] at hq
                have ik:q≠o:=fun h=>e h.symm;exact .inr ⟨by simp[ik],by simp,hq,by simp[G1,ik],by simp[G1,ik],by simp[G1,ik]⟩
            · rw[M1] at hq
              by_cases e:a=q
              · subst e
                simp only[ava,Ob] at hq;subst hq;refine .inl ⟨.inr (.inl rfl),?_,fun _=>⟨fun p hp=>?_,?_,fun ik=>by simp[jV.nest] at ik⟩⟩
                · unfold pj
                  simp only[dz,asa,aka,G1,hZa,ava];refine⟨cap,Hp,Hq,rest,post,e1,rfl,rfl,?_,e5,FJ,k3,k4,k9⟩;have mH:=gy.size k8;have:arr.size=pre.length+(cc.length+(post.length+rest.length)):=by rw[←bga,e3,k1];simp
                  rw[aua];show cap * A.t.size≤pre.length+A.t.size+(post.length+rest.length);omega
                · simp only[G1,hZa,ava] at hp
                  exact hm.ah a A jW dz p (aff p hp)
                · simp only[G1,hZa,ava]
                  rw[bwa,bba];exact⟨n1,n3,fun p hp q hq=>n5 p hp q (ara _ hq)⟩
              · simp only[e,aka] at hq
                cases hl:look (zu nm A.t x 0) q with
                |some B'=>
                  rw[hl] at hq;simp only[Ob] at hq;subst hq;obtain⟨g,hz,Dv,PF,hb3⟩:=Nt f2 hl;have hz':look Z q=some g:=hz;refine .inl ⟨.inr (.inr ⟨q,g,rfl,hz⟩),(ig Dv PF).2 ?_,fun _=>⟨fun p hp=>?_,?_,fun _=>by simp only[G1,hz']⟩⟩
                  · simp only[G1,hz'];exact hb3
                  · simp only[G1,hz'] at hp
                    exact hm.ah a A jW dz p (inA q g hz p hp)
                  · simp only[G1,hz']
                    obtain⟨_,_,_,hg⟩:=qV f2 hz;have:((gs.flatMap (·.2)).map (·.1)).Nodup:=by rw[←f1];exact n2
                    have qa:(g.2).Sublist (gs.flatMap (·.2)):=by
                      have key:∀{gs:List (Value×gz)},g∈gs→(g.2).Sublist (gs.flatMap (·.2)):=by
                        intro gs;induction gs with
                        |nil=>intro h;cases h
                        |cons y r ih=>
                          intro h;rw[bSa];rcases ala.1 h with rfl|h
                          · exact List.sublist_append_left ..
                          · exact(ih h).trans (List.sublist_append_right ..)
                      exact key hg
                    exact this.sublist (qa.map _)
                |none=>
                  rw[hl] at hq;simp only at hq;have hz:look Z q=none:=by
                    cases hz:look Z q with
                    |none=>rfl
                    |some g=>obtain⟨B',hB',_⟩:=qV f2 hz;rw[hl] at hB';cases hB'
                  have ik:q≠a:=fun h=>e h.symm;refine .inr ⟨?_,hq,by simp[G1,hz],by simp[G1,hz,ik],fun _=>by simpa using ik,by simp[G1,hz],fun i' o' e'=>?_⟩
                  · rintro(h|h|⟨q',g,h,hz'⟩)
                    · cases h
                    · cases h;exact ik rfl
                    · cases h;rw[hz] at hz';cases hz'
                  · have:o'≠o:=EZ hmo hq e'
                    simp[G1,this]
            · refine .inl ⟨(true,a),rfl,?_⟩
              rcases NQ y c ho with ⟨rfl,e⟩|⟨rfl,p,hp,rfl⟩|⟨q,g,rfl,hz,p,hp,rfl⟩|⟨g1,g2,g3⟩
              · rw[e];exact hOa (b,Obj.cells arr elem (0,0)) (by rw[e2];simp)
              · exact hOa p (aff p hp)
              · exact hOa p (inA q g hz p hp)
              · rcases hy with h|h|⟨q,g,h,hz⟩
                · exact absurd h g1
                · exact absurd h g2
                · exact absurd h (g3 q g hz)
            · have bad:∀{y:Bool×Nat},(y=(false,o)∨y=(true,a)∨∃ q g,y=(true,q)∧look Z q=some g)→¬ (y≠(false,o)∧y≠(true,a)∧(∀ q g,look Z q=some g→y≠(true,q))):=fun {y} h ⟨g1,g2,g3⟩=>by
                rcases h with h|h|⟨q,g,h,hz⟩
                · exact g1 h
                · exact g2 h
                · exact g3 q g hz h
              have inQ:∀ p∈Hp++Hq,p∈Hp++(Hc++Hq):=fun p hp=>by
                rcases ana.1 hp with hp|hp
                · exact aya _ hp
                · exact ara _ (ara _ hp)
              have inC:∀ p∈Hc,p∈Hp++(Hc++Hq):=fun p hp=>ara _ (aya _ hp);have ab4:∀ p∈Hp++Hq,∀ p'∈Hc,p.1≠p'.1:=fun p hp p' As=>by
                rcases ana.1 hp with hp|hp
                · exact n5 _ (aIa hp) _ (aya _ (aIa As))
                · exact fun e=>n4 _ (aIa As) _ (aIa hp) e.symm
              have hfl:((gs.flatMap (·.2)).map (·.1)).Nodup:=by rw[←f1];exact n2
              rcases NQ y c ho with ⟨rfl,e0⟩|⟨rfl,p,hp,rfl⟩|⟨q,g,rfl,hq,p,hp,rfl⟩|hb
              · rcases NQ z _ ho' with ⟨rfl,_⟩|⟨rfl,p',As,e'⟩|⟨q',g',rfl,Ix,p',As,e'⟩|hb
                · rfl
                · exact absurd (e'.trans e0) (hkm p' (inQ p' As))
                · exact absurd (e'.trans e0) (hkm p' (inC p' (gH q' g' Ix p' As)))
                · exact absurd hb (bad hz)
              · rcases NQ z _ ho' with ⟨rfl,e'⟩|⟨rfl,p',As,e'⟩|⟨q',g',rfl,Ix,p',As,e'⟩|hb
                · exact absurd e' (hkm p (inQ p hp))
                · rfl
                · exact absurd e'.symm (ab4 p hp p' (gH q' g' Ix p' As))
                · exact absurd hb (bad hz)
              · rcases NQ z _ ho' with ⟨rfl,e'⟩|⟨rfl,p',As,e'⟩|⟨q',g',rfl,Ix,p',As,e'⟩|hb
                · exact absurd e' (hkm p (inC p (gH q g hq p hp)))
                · exact absurd e' (ab4 p' As p (gH q g hq p hp))
                · rw[WW f2 hfl hq Ix p hp p' As e'.symm]
                · exact absurd hb (bad hz)
              · exact absurd hb (bad hy)
            · have ik:o≠q:=fun e=>by rw[e,hq] at OJ;cases OJ
              refine⟨by rw[Eb,aBa ik];exact hq,?_⟩
              rintro(h|h|⟨q',g,h,_⟩)
              · cases h;exact ik rfl
              · cases h
              · cases h
            · refine⟨?_,?_⟩
              · rw[M1]
                by_cases e:a=q
                · exact⟨_,by rw[a8a e]⟩
                · rw[aBa e];split
                  · exact⟨_,rfl⟩
                  · exact⟨_,hq⟩
              · have hz:look Z q=none:=by
                  cases hz:look Z q with
                  |none=>rfl
                  |some g=>obtain⟨B',hB',_⟩:=qV f2 hz;have:=(tZ _ (ep hB')).1;rw[hq] at this;cases this
                simp[G1,hz]
          refine⟨s1,G1,{Gf:=Ol.ok hm,eH:=fun act=>Ol.eH,val:=fun y v hy hv=>Ol.Td (fun z hz=>hy _ _ (Ol.fm z hz)) hv,Oe:=fun y v h1 h2 hv=>Ol.Td (fun z hz=>(by
            rcases ala.1 hz with rfl|hz
            · exact h1
            · obtain⟨p,hp,rfl⟩:=a0a.1 hz
              obtain⟨q,hq⟩:=E6 hp;show y.dj true p.1=false;rw[hq,←hnm];exact h2 q)) hv,iZ:=⟨rfl,rfl,rfl,rfl,rfl,rfl,rfl⟩,none:=OJ,lB:=fun off v=>?_,abO:=fun A' off u hA' UJ hu=>?_},h⟩
          · simp only[aY,G1,ava]
            constructor
            · rintro rfl
              exact⟨A,hA,b,A.l.length,cap,e1,FJ,by rw[k3]⟩
            · rintro⟨A',hA',b',len,cap',g1,g2,rfl⟩
              rw[hA] at hA';cases hA';rw[e1] at g1;cases g1;rw[k3]
          · rw[hA] at hA'
            cases hA';obtain⟨h1,⟨xx,nn,ccc,L0⟩,h3,h4⟩:=hu;have hHV:G1.HV a=G.HV a:=by simp only[G1,hZa]
            rw[hHV,←hm.hv,hm.hh a A jW dz (by simp[jV.nest,vm]),e2] at h4
            simp only[kI] at h4;have aeL:=gy.size k8;have hcu:cc[off]? = some u:=by
              rw[e3,k1,←k3,a5a,aSa (by omega),bea,a5a,aUa (by omega)] at h4
              exact h4
            have key:∀(t:Ty) (d:t.nM) (NA:Nat) (cs:List Value) (j:Nat),t.sy=true→All2 (aY G1) (Hr nm t d NA) cs→cs[j]? = some u→u=G1.ψ (nm (NA+j)):=by
              have Ay:∀{l:ai} {cs:List Value} {j:Nat} {t:Ty} {d:t.nM},l=.fy t d→(∀ v,aY G1 (.fy t d) v→∀ x n c,v≠.slice x n c)→All2 (aY G1) [l] cs→cs[j]? = some u→False:=fun {l cs j t d} hl ik hr hj=>by
                subst hl
                match cs,hr with
                |[v],hr=>
                  cases j with
                  |zero=>simp only[bda,Ob] at hj;subst hj;exact ik _ hr.1 _ _ _ L0
                  |succ j=>simp at hj
              intro t;induction t with
              |int k=>exact fun d NA cs j _ hr hj=>(Ay rfl (fun v hv x n c e=>by obtain⟨cs',e1,e2⟩:=hv;simp only[Ty.agg,asa,aka] at e1;subst e1;obtain⟨e2,_⟩:=e2;simp only[aJa,a7a] at e2;rw[e] at e2;cases e2) hr hj).elim
              |bool=>exact fun d NA cs j _ hr hj=>(Ay rfl (fun v hv x n c e=>by obtain⟨cs',e1,e2⟩:=hv;simp only[Ty.agg,asa,aka] at e1;subst e1;obtain⟨e2,_⟩:=e2;simp only[aJa,a7a] at e2;rw[e] at e2;cases e2) hr hj).elim
              |str=>exact fun d NA cs j _ hr hj=>(Ay rfl (fun v hv x n c e=>by obtain⟨cs',e1,e2⟩:=hv;simp only[Ty.agg,asa,aka] at e1;subst e1;obtain⟨e2,_⟩:=e2;simp only[aJa,a7a] at e2;rw[e] at e2;cases e2) hr hj).elim
              |slice t _=>
                intro d NA cs j _ hr hj
                match cs,hr with
                |[v],hr=>
                  cases j with
                  |zero=>simp only[bda,Ob] at hj;subst hj;exact hr.1
                  |succ j=>simp at hj
              |dg t1 t2 ih1 ih2=>
                intro d NA cs j hn hr hj;simp only[Ty.sy,Q3] at hn;have jB:∀(t:Ty) (d:t.nM) (o0:Nat),t.sy=true→(Hr nm t d o0).length=t.size:=by
                  intro t;induction t with
                  |dg a b Nj ihb=>intro d o0 hn;simp only[Ty.sy,Q3] at hn;simp only[Hr,aua,Nj _ _ hn.1,ihb _ _ hn.2,Ty.size]
                  |one a ih=>intro d o0 hn;exact ih d o0 hn
                  |arr n t _=>intro d o0 hn;cases hn
                  |_=>intro d o0 _;rfl
                obtain⟨y1,y2,rfl,g1,g2⟩:=All2.split (xs:=Hr nm t1 d.1 NA) hr;have hl1:y1.length=t1.size:=by rw[←g1.length,jB _ _ _ hn.1]
                by_cases hj1:j<y1.length
                · rw[aUa hj1] at hj
                  exact ih1 _ _ _ _ hn.1 g1 hj
                · rw[aSa (by omega),hl1] at hj
                  have:=ih2 _ _ _ _ hn.2 g2 hj;rw[this];congr 2;omega
              |one t ih=>exact fun d NA cs j hn hr hj=>ih d NA cs j hn hr hj
              |arr n t _=>intro d NA cs j hn;cases hn
            have:=key A.t x 0 cc off hna rU hcu;rw[aWa] at this;rw[hnm];exact this
    · cases h
end Go.Fx
namespace Go.Fx
theorem aB.abe{X:mW}{st:St}{G:Gh}{w:World}(hm:aB X st G w)(f:ai→ai)(YU:∀ l,f l=.vb↔l=.vb)(hf:∀ o ls,(o,ls)∈st.cp→∀ l∈ls,∀ v,aY G l v→aY G (f l) v):
  aB X {st with cp:=st.cp.map fun p=>(p.1,p.2.map f)} G w:=by
 let st':St:={st with cp:=st.cp.map fun p=>(p.1,p.2.map f)}
 have Iw:∀ o,st'.dT o=(st.dT o).map (·.map f):=fun o=>by
  show look (st.cp.map fun p=>(p.1,p.2.map f)) o=(look st.cp o).map _;induction st.cp with
  |nil=>rfl
  |cons p r ih=>
   obtain⟨k,ls⟩:=p;rw[aHa,aw,aw];by_cases e:k=o
   ·simp[e]
   ·simp only[e,aka];exact ih
 have nW:∀ x b,fq G st' x b→fq G st x b:=fun x b hx=>by
  obtain⟨k,n⟩:=x;cases k with
  |true=>exact hx
  |false=>obtain⟨⟨ls,hl⟩,rfl⟩:=hx;rw[Iw,aKa] at hl;obtain⟨ls0,h1,_⟩:=hl;exact⟨⟨ls0,h1⟩,rfl⟩
 have Bj:∀ o j l,st'.res o j l=st.res o j l:=fun o j l=>by cases l<;>rfl
 have fG:∀(o:Nat) (ls:List ai) (vs:List Value) (j:Nat),(∀ l∈ls,∀ v,aY G l v→aY G (f l) v)→All2 (aY G) (st.kg o j ls) vs→All2 (aY G) (st'.kg o j (ls.map f)) vs:=by
  intro o ls;induction ls with
  |nil=>intro vs j _ h;exact h
  |cons l r ih=>
   intro vs j hl h
   match vs,h with
   |v::vs,h=>
    simp only[aHa,St.kg];refine⟨?_,ih vs (j+1) (fun x hx=>hl x (Q8 _ hx)) h.2⟩;rw[Bj];by_cases e:l=.vb
    ·rw[(YU l).2 e];rw[e] at h;exact h.1
    ·have h1:st.res o j l=l:=by cases l<;>first|rfl|exact absurd rfl e
     have h2:st.res o j (f l)=f l:=by have:=fun h=>e ((YU l).1 h);cases hf':f l<;>first|rfl|exact absurd hf' this
     rw[h2];have:=h.1;rw[h1] at this;exact hl l (awa ..) v this
 refine {sl:=hm.sl,sh:=hm.sh,ob:=fun o ls ho=>?_,ar:=hm.ar,ah:=hm.ah,nd:=hm.nd,qw:=fun x y b hx hy=>hm.qw x y b (nW x b hx) (nW y b hy),dS:=fun x b hx=>hm.dS x b (nW x b hx),ua:=fun x b hx=>hm.ua x b (nW x b hx),s0:=hm.s0,sn:=hm.sn,fr:=hm.fr,sz:=hm.sz,os:=hm.os,tp:=hm.tp,out:=hm.out,pin:=fun o p h=>?_,bv:=fun o j u h=>?_,ap:=hm.ap,hv:=hm.hv,ds:=hm.ds,hh:=hm.hh}
 ·have ho:st'.dT o=some ls:=ho
  rw[Iw,aKa] at ho;obtain⟨ls0,h1,rfl⟩:=ho;obtain⟨arr,elem,mid,g1,g2,g3⟩:=hm.ob o ls0 h1;exact⟨arr,elem,mid,g1,g2,fG o ls0 mid 0 (hf o ls0 (ep h1)) g3⟩
 ·obtain⟨⟨ls,h1⟩,h2⟩:=hm.pin o p h
  exact⟨⟨ls.map f,by show st'.dT o=_;rw[Iw,h1];rfl⟩,h2⟩
 ·obtain⟨h1,⟨ls,h2,h3⟩,h4⟩:=hm.bv o j u h
  exact⟨h1,⟨ls.map f,by show st'.dT o=_;rw[Iw,h2];rfl,by rw[bIa,h3];exact bWa some ((YU .vb).2 rfl)⟩,h4⟩
theorem MR{α:Type}:∀{l:List (Nat×α)} {LK:List Nat} {p:Nat×α},p∈p9 l LK→p∈l
 |q::r,LK,p,h=>by
  simp only[p9] at h;cases hm:fk q.1 LK with
  |true=>rw[hm,aja] at h;exact Q8 _ (MR h)
  |false=>
   rw[hm,aoa] at h;rcases ala.1 h with h|h
   ·rw[h];exact awa ..
   ·exact Q8 _ (MR h)
theorem zK{α:Type}:∀{l:List (Nat×α)} {LK:List Nat} {q:Nat},q∉LK→look (p9 l LK) q=look l q
 |[],_,_,_=>rfl
 |p::r,LK,q,h=>by
  obtain⟨k,v⟩:=p;simp only[p9];rw[aw];cases hm:fk k LK with
  |true=>
   rw[aja,zK h];have ik:k≠q:=fun e=>h (by rw[←e];exact L3.1 hm)
   rw[aBa ik]
  |false=>
   rw[aoa,aw];by_cases e:k=q
   ·simp[e]
   ·rw[aBa e,aBa e,zK (fun hq=>(ala.1 hq).elim (fun e'=>e e'.symm) h)]
theorem aB.p9{X:mW}{st:St}{G:Gh}{w:World}(hm:aB X st G w):aB X {st with cp:=p9 st.cp []} G w:=by
 have Iw:∀ o,({st with cp:=Go.Fx.p9 st.cp []}:St).dT o=st.dT o:=fun o=>zK (by simp)
 have nW:∀ x b,fq G {st with cp:=Go.Fx.p9 st.cp []} x b→fq G st x b:=fun x b hx=>by
  obtain⟨k,n⟩:=x;cases k with
  |true=>exact hx
  |false=>obtain⟨⟨ls,hl⟩,e⟩:=hx;exact⟨⟨ls,by rw[←Iw];exact hl⟩,e⟩
 exact {
   sl:=hm.sl,sh:=hm.sh,ob:=fun o ls ho=>(by
    obtain⟨arr,elem,mid,g1,g2,g3⟩:=hm.ob o ls (by rw[←Iw];exact ho)
    refine⟨arr,elem,mid,g1,g2,?_⟩;unfold ix at g3 ⊢;rw[kh (st:=st) (fun j l=>by cases l<;>rfl)];exact g3)
   ar:=hm.ar,ah:=hm.ah,nd:=hm.nd,qw:=fun x y b hx hy=>hm.qw x y b (nW x b hx) (nW y b hy),dS:=fun x b hx=>hm.dS x b (nW x b hx),ua:=fun x b hx=>hm.ua x b (nW x b hx),s0:=hm.s0,sn:=hm.sn,fr:=hm.fr,sz:=hm.sz,os:=hm.os,tp:=hm.tp,out:=hm.out
   pin:=fun o p h=>(by obtain⟨⟨ls,h1⟩,h2⟩:=hm.pin o p h;exact⟨⟨ls,by rw[Iw];exact h1⟩,h2⟩),bv:=fun o j u h=>(by obtain⟨h1,⟨ls,h2,h3⟩,h4⟩:=hm.bv o j u h;exact⟨h1,⟨ls,by rw[Iw];exact h2,h3⟩,h4⟩),ap:=hm.ap,hv:=hm.hv,ds:=hm.ds,hh:=hm.hh}
theorem Vq(a v sz:Nat)(l:ai):qU a v sz l=.vb↔l=.vb:=by cases l<;>simp[qU];rename_i a' v' sz' i' off;cases (Nat.beq a' a&&Nat.beq v' v&&Nat.beq sz' sz&&Nat.blt off sz)<;>simp
theorem Uc{G:Gh}{a v sz i:Nat}{l:ai}{u:Value}(ht:∀ off u,off<sz→vX G a v sz i off u→u=G.ψ (LC a v off))(hc:xt a v sz i [l]=true)(h:aY G l u):aY G (qU a v sz l) u:=by
 cases l with
 |E5 a' v' sz' i' off=>
  simp only[qU,xt] at hc ⊢;cases hb:(Nat.beq a' a&&Nat.beq v' v&&Nat.beq sz' sz&&Nat.blt off sz) with
  |false=>exact h
  |true=>simp only[hb,aja,Bool.and_true] at hc ⊢;simp only[Q3] at hb;obtain⟨⟨⟨b1,b2⟩,b3⟩,b4⟩:=hb;obtain rfl:=Q4 b1;obtain rfl:=Q4 b2;obtain rfl:=Q4 b3;obtain rfl:=Q4 hc;exact ht off u (by rw[b5a] at b4;exact b4) h
 |_=>exact h
theorem Kl{a v sz i:Nat}:∀{ls:List ai},xt a v sz i ls=true→∀ l∈ls,xt a v sz i [l]=true
 |x::r,h,l,hl=>by
  have hx:xt a v sz i [x]=true∧xt a v sz i r=true:=by
   cases x with
   |E5 a' v' sz' i' off=>
    simp only[xt] at h ⊢;cases hb:(Nat.beq a' a&&Nat.beq v' v&&Nat.beq sz' sz&&Nat.blt off sz) with
    |false=>simp only[hb,aoa] at h;exact⟨rfl,h⟩
    |true=>simp only[hb,aja,Q3] at h;simpa using h
   |_=>exact⟨rfl,h⟩
  rcases ala.1 hl with rfl|hl
  ·exact hx.1
  ·exact Kl hx.2 l hl
theorem Qy{a v sz i:Nat}:∀{l:List (Nat×List ai)},Ua a v sz i l=true→∀ o ls,(o,ls)∈l→xt a v sz i ls=true
 |p::r,h,o,ls,hl=>by
  simp only[Ua,Q3] at h;rcases ala.1 hl with rfl|hl
  ·exact h.1
  ·exact Qy h.2 o ls hl
theorem T9{X:mW}{st:St}{G:Gh}{w:World}{R:Type}{r:R}{a sz i:Nat}{K:St→Option R}(h:BK st a sz i K=some r)(hm:aB X st G w)
  (ht:∀ off u,off<sz→vX G a (st.dH a) sz i off u→u=G.ψ (LC a (st.dH a) off)):
  aB X {st with cp:=(p9 st.cp []).map fun p=>(p.1,p.2.map (qU a (st.dH a) sz))} G w∧K {st with cp:=(p9 st.cp []).map fun p=>(p.1,p.2.map (qU a (st.dH a) sz))}=some r:=by
 unfold BK at h;cases hc:Ua a (st.dH a) sz i (p9 st.cp []) with
 |false=>simp[hc] at h
 |true=>simp only[hc,aja] at h;exact⟨hm.p9.abe _ (Vq _ _ _) fun o ls hl l hll v hv=>Uc ht (Kl (Qy hc o ls hl) l hll) hv,h⟩
def HY(st:St)(q:Nat):Prop:=∃ A,look st.cT q=some A∧A.sh=false∧fk q st.pin=false∧look st.gc q=none
theorem ZT{X:mW}{st:St}{G:Gh}{w:World}(hm:aB X st G w){u:Ty}{l:ai}{d:List u.nM}{c:List Nat}{v:Value}(h:TH st u l=some (d,c))(hr:aY G l v):
  kA (RepL (gy G.S true u)) u.size [v] d (c.flatMap G.HA)∧∀ q∈c,HY st q:=by
 unfold TH at h;split at h
 ·simp only[Ob,aia] at h
  obtain⟨rfl,rfl⟩:=h;exact⟨.inl ⟨rfl,rfl,by rw[show v=.slice none 0 0 from hr]⟩,fun q hq=>by cases hq⟩
 ·rename_i a
  split at h
  ·rename_i A hA
   cases hc:(A.sh||!A.md.lK (Ry u)||fk a st.pin ||(look st.gc a).isSome) with
   |true=>simp[hc] at h
   |false=>
    simp only[hc,aoa] at h;simp only[aGa,bpa] at hc;obtain⟨⟨⟨h1,h2⟩,h3⟩,h4⟩:=hc;split at h
    ·rename_i l0 hl
     simp only[Ob,aia] at h;obtain⟨rfl,rfl⟩:=h;obtain⟨ety,hl⟩:=lX hl;obtain⟨At,Amd,Ash,Al⟩:=A;simp only[Ty.slice.injEq] at ety;subst ety;simp only at hl h1 h2;subst hl h1;have vm:=Md.xy h2;subst vm;obtain⟨k1,k2⟩:=Pc 0 At l0;have tJ:=(ig rfl k1).1 (hm.ar a _ (su hA));have hv:v=G.ψ a:=hr;refine⟨?_,fun q hq=>?_⟩
     ·rw[hv];simp only[bSa,List.flatMap_nil,bha]
      exact abC k2 tJ
     ·rw[Q7.1 hq];exact⟨_,hA,rfl,h3,by simpa using h4⟩
    ·cases h
  ·cases h
 ·cases h
theorem Wk{X:mW}{st:St}{G:Gh}{w:World}(hm:aB X st G w):∀{t:Ty} {ls r:List ai} {d:t.nM} {c:List Nat} {vs:List Value},Ht st t ls=some (d,r,c)→All2 (aY G) ls vs→
  ∃ c1 c2,vs=c1++c2∧gy G.S true t c1 d (c.flatMap G.HA)∧All2 (aY G) r c2∧∀ q∈c,HY st q:=by
 have bR:∀{t:Ty},t.agg=false→t.yZ=true→∀{ls r:List ai} {d:t.nM} {c:List Nat} {vs:List Value},
   (match ls with|[]=>none|l::r=>(l.vJ st t).map fun d=>(d,r,([]:List Nat)))=some (d,r,c)→All2 (aY G) ls vs→
   ∃ c1 c2,vs=c1++c2∧gy G.S true t c1 d (c.flatMap G.HA)∧All2 (aY G) r c2∧∀ q∈c,HY st q:=by
  intro t ht hn ls r d c vs h a
  match ls,vs,h,a with
  |l::ls,v::vs,h,a=>simp only[aKa,aia] at h;obtain⟨d',hd,rfl,rfl,rfl⟩:=h;exact⟨[v],vs,rfl,wy hn (MW hm ht hd a.1),a.2,fun q hq=>by cases hq⟩
  |[],_,h,_=>simp at h
 intro t;induction t with
 |int k=>exact fun h a=>bR rfl rfl h a
 |bool=>exact fun h a=>bR rfl rfl h a
 |str=>exact fun h a=>bR rfl rfl h a
 |slice u _=>
  intro ls r d c vs h al
  match ls,vs,h,al with
  |l::ls,v::vs,h,al=>simp only[Ht,aKa,aia] at h;obtain⟨⟨d',c'⟩,hd,rfl,rfl,rfl⟩:=h;obtain⟨g1,g2⟩:=ZT hm hd al.1;exact⟨[v],vs,rfl,g1,al.2,g2⟩
  |[],_,h,_=>simp[Ht] at h
 |dg a b Nj ihb=>
  intro ls r d c vs h al;simp only[Ht] at h;cases h1:Ht st a ls with
  |none=>simp[h1] at h
  |some p=>
   obtain⟨x,r1,cc⟩:=p;simp only[h1] at h;cases h2:Ht st b r1 with
   |none=>simp[h2] at h
   |some q=>
    obtain⟨y,r2,cc2⟩:=q;simp only[h2,Ob,aia] at h;obtain⟨rfl,rfl,rfl⟩:=h;obtain⟨c1,c2,rfl,g1,a1,o1⟩:=Nj h1 al;obtain⟨c3,c4,rfl,g2,a2,o2⟩:=ihb h2 a1;refine⟨c1++c3,c4,by simp,⟨c1,c3,_,_,rfl,by rw[cDa],g1,g2⟩,a2,fun q hq=>?_⟩
    rcases ana.1 hq with hq|hq
    ·exact o1 q hq
    ·exact o2 q hq
 |one a Nj=>intro ls r d c vs h al;exact Nj h al
 |arr n t _=>intro ls r d c vs h al;cases h
theorem GV{X:mW}{st:St}{G:Gh}{w:World}(hm:aB X st G w):∀{c:List Nat},c.Nodup→(∀ q∈c,∃ A,st.arr q=some A∧A.sh=false)→((c.flatMap G.HA).map (·.1)).Nodup
 |[],_,_=>cba
 |q::c,hn,h=>by rw[a3a] at hn;obtain⟨A,hA,hs⟩:=h q (awa ..);rw[bSa,bwa,bba];refine⟨hm.nd q A hA hs,GV hm hn.2 fun p hp=>h p (Q8 _ hp),fun b hb b' hb' e=>?_⟩;obtain⟨p,hp,rfl⟩:=a0a.1 hb;obtain⟨p',As,rfl⟩:=a0a.1 hb';obtain⟨q',Ix,As⟩:=bma.1 As;obtain⟨B,hB,JR⟩:=h q' (Q8 _ Ix);have:=hm.qw (true,q) (true,q') p.1 ⟨⟨A,hA,hs⟩,p,hp,rfl⟩ ⟨⟨B,hB,JR⟩,p',As,e.symm⟩;simp only[aia,aYa] at this;exact hn.1 (by rw[this];exact Ix)
theorem TU{G:Gh}{st:St}{o:Nat}:∀{ls:List ai} {vs:List Value} {j:Nat},All2 (aY G) (st.kg o j ls) vs→All2 (aY G) ls vs
 |[],[],_,_=>trivial
 |l::r,v::vs,j,h=>⟨by
  cases l with
  |vb=>trivial
  |_=>exact h.1,TU h.2⟩
 |[],_::_,_,h=>h.elim
 |_::_,[],_,h=>h.elim
theorem QW{X:mW}{st:St}{G:Gh}{w:World}{R:Type}{r:R}{a o:Nat}{K:St→Option R}(h:A7 st a o K=some r)(hm:aB X st G w)(hX:∀ p,X.pin o≠some p)(hB:∀ j u,X.bv o j≠some u):
    ∃ s1 G1,aB X s1 G1 w∧(∀ act,bQ G st act→bQ G1 s1 act)∧(∀ x v,aU G x v→aU G1 x v)∧K s1=some r:=by
  unfold A7 at h;split at h
  · rename_i A ls hA ho
    split at h
    · rename_i i o' vm
      cases hc:(Nat.beq o o'&&!A.sh) with
      |false=>simp[hc] at h
      |true=>
        simp only[hc,aja] at h;simp only[Q3,aOa] at hc;obtain⟨hoo,dz⟩:=hc;obtain rfl:=Q4 hoo;split at h
        · rename_i x c hT
          cases xS:(ou c&&!fk a c) with
          |false=>simp[xS] at h
          |true=>
            simp only[xS,aja] at h;simp only[Q3,aOa] at xS;have Iv:=E4 xS.1;have hac:a∉c:=fun hm'=>by rw[L3.2 hm'] at xS;cases xS.2
            have jW:=su hA;obtain⟨arr,elem,mid,g1,g2,g3⟩:=hm.ob o ls ho;obtain⟨c1,c2,e0,Bi,hr0,jK⟩:=Wk hm hT (TU g3)
            match c2,hr0 with
            |[],_=>
            rw[bha] at e0;subst e0;have Y7:∀ q∈c,∃ A,st.arr q=some A∧A.sh=false:=fun q hq=>by obtain⟨B,hB1,hB2,_⟩:=jK q hq;exact⟨B,su hB1,hB2⟩
            have tJ:=hm.ar a A jW;unfold pj at tJ;simp only[dz,asa,aka,vm] at tJ;obtain⟨cap,Hp,Hq,rest,I1,k1,k2,k3,k4,k5,k6,k7,k8,k9⟩:=tJ;have hml:=gy.size Bi;let HH:gz:=(G.φ o,Obj.cells arr elem (0,0))::(Hp++(c.flatMap G.HA++Hq))
            let G1:Gh:={G with
              HA:=fun q=>if q=a then HH else G.HA q
              vn:=fun q=>if q=a then G.vn a+1 else G.vn q
              HV:=fun q v=>if q=a then(if v≤G.vn a then G.HV a v else arr.toList) else G.HV q v}
            let s1:St:={st with cT:=(a,⟨A.t,.bA,false,A.l.set i x⟩)::lu (a::c) st.cT,cp:=FZ st.cp o,EM:=(a,st.dH a+1)::st.EM}
            have aeW:∀ l v,aY G l v→aY G1 l v:=fun l v hr=>aY.leF (G:=G) (G':=G1) (F:=[]) (fun _ _ h=>h) (fun _ _=>⟨rfl,rfl⟩) (fun q _=>⟨rfl,by
                show G.vn q≤if q=a then G.vn a+1 else G.vn q
                by_cases e:q=a
                · subst e;simp
                · simp[e],fun v hv=>by
                show(if q=a then(if v≤G.vn a then G.HV a v else arr.toList) else G.HV q v)=G.HV q v
                by_cases e:q=a
                · subst e;simp[hv]
                · simp[e]⟩) (by simp) hr
            have Eb:∀ q,s1.dT q=if o=q then none else st.dT q:=fun q=>by simp only[s1,St.dT,qJ]
            have M1:∀ q,s1.arr q=if a=q then some ⟨A.t,.bA,false,A.l.set i x⟩ else if q∈c then none else st.arr q:=fun q=>by
              simp only[s1,St.arr,aw];by_cases e:a=q
              · simp[e]
              · simp only[e,aka,zI]
                have hq:q≠a:=fun h=>e h.symm;by_cases e2:q∈c
                · obtain⟨_,_,_,_,hb⟩:=jK q e2
                  simp[e2,hb]
                · simp[e2,hq]
            have hao:∀ p∈Hp++Hq,fq G st (true,a) p.1:=fun p hp=>⟨⟨A,jW,dz⟩,p,by rw[k2];exact hp,rfl⟩
            have hco:∀ p∈c.flatMap G.HA,∃ q∈c,fq G st (true,q) p.1:=fun p hp=>by obtain⟨q,hq,hp⟩:=bma.1 hp;exact⟨q,hq,Y7 q hq,p,hp,rfl⟩
            have ae4:fq G st (false,o) (G.φ o):=⟨⟨ls,ho⟩,rfl⟩;have SY:(HH.map (·.1)).Nodup:=by
              simp only[HH,aHa,bwa];have hpq:=hm.nd a A jW dz;rw[k2,bwa,bba] at hpq;obtain⟨m1,m2,m3⟩:=hpq;have m4:=GV hm Iv Y7;have cr:∀ p∈Hp++Hq,∀ p'∈c.flatMap G.HA,p.1≠p'.1:=fun p hp p' As e=>by
                obtain⟨q,hq,ho'⟩:=hco p' As;have:=hm.qw _ _ _ (hao p hp) (by rw[e];exact ho')
                simp only[aia,aYa] at this;exact hac (by rw[this];exact hq)
              rw[a3a,bba,bba];refine⟨fun ii=>?_,m1,⟨m4,m2,fun x1 h1 x2 h2 e=>?_⟩,fun x1 h1 x2 h2 e=>?_⟩
              · have:∃ y,y≠(false,o)∧fq G st y (G.φ o):=by
                  rcases ana.1 ii with ii|ii
                  · obtain⟨p,hp,e⟩:=a0a.1 ii
                    exact⟨(true,a),by simp,by rw[←e];exact hao p (aya _ hp)⟩
                  · rcases ana.1 ii with ii|ii
                    · obtain⟨p,hp,e⟩:=a0a.1 ii
                      obtain⟨q,_,hq⟩:=hco p hp;exact⟨(true,q),by simp,by rw[←e];exact hq⟩
                    · obtain⟨p,hp,e⟩:=a0a.1 ii
                      exact⟨(true,a),by simp,by rw[←e];exact hao p (ara _ hp)⟩
                obtain⟨y,hy,hyo⟩:=this;exact hy (hm.qw _ _ _ hyo ae4)
              · obtain⟨p,hp,rfl⟩:=a0a.1 h1
                obtain⟨p',As,rfl⟩:=a0a.1 h2;exact cr p' (ara _ As) p hp e.symm
              · obtain⟨p,hp,rfl⟩:=a0a.1 h1
                rcases ana.1 h2 with h2|h2
                · obtain⟨p',As,rfl⟩:=a0a.1 h2
                  exact cr p (aya _ hp) p' As e
                · exact m3 _ (aIa hp) _ h2 e
            have Ol:wF X st s1 G G1 w w (fun y=>y=(true,a)∨y=(false,o)∨∃ q∈c,y=(true,q)) (fun y=>y=(true,a)) []:=by
              refine {
                       n:=rfl,iz:=fun _=>rfl,bl:=rfl,pn:=rfl,S:=rfl,bR:=fun l v _ hr=>aeW l v hr,fm:=fun y hy=>(by cases hy),sl:=hm.sl,dT:=fun q xG hq=>?_,arr:=fun q B hq=>?_,
                       gK:=fun y b hy hyo=>?_,qw:=fun y z b hy hz _ _=>hy.trans hz.symm,hv:=fun q=>?_,old:=fun _ _ _=>rfl,sz:=axa _,os:=rfl,tp:=rfl,out:=rfl,U7:=fun q xG hq hp=>?_,U6:=fun q B hp hq=>?_}
              · rw[Eb] at hq
                by_cases e:o=q
                · simp[e] at hq
                · simp only[e,aka] at hq
                  have ik:q≠o:=fun h=>e h.symm;exact .inr ⟨by simp,by simp[ik],hq,rfl,rfl,rfl⟩
              · rw[M1] at hq
                by_cases e:a=q
                · subst e
                  simp only[ava,Ob] at hq;subst hq;refine .inl ⟨rfl,(ig rfl rfl).2 ?_,fun _=>⟨fun p hp=>?_,?_,fun _=>?_⟩⟩
                  · simp only[G1,ava]
                    rw[show(⟨A.t,Md.bA,false,A.l.set i x⟩:jV).bA=true from rfl]
                    have Ng:A.l.set i x=A.l.take i++x::A.l.drop (i+1):=List.set_eq_take_append_cons_drop.trans (by rw[a8a k6])
                    refine .inr ⟨G.φ o,cap,arr,elem,G.pre o++(mid++I1),rest,Hp++(c.flatMap G.HA++Hq),?_,rfl,?_,?_,?_,?_⟩
                    · rw[k1];simp
                    · rw[g2,k3];simp
                    · have:arr.size=(G.pre o).length+(mid.length+(G.post o).length):=by rw[←bga,g2];simp
                      show cap * A.t.size≤arr.size;omega
                    · simpa using k5
                    · show RepL (gy G.S true A.t) _ (A.l.set i x) _
                      rw[Ng];exact k8.append ⟨mid,I1,c.flatMap G.HA,Hq,rfl,rfl,Bi,k9⟩
                  · simp only[G1,ava] at hp
                    rcases ala.1 hp with rfl|hp
                    · exact g1
                    · rcases ana.1 hp with hp|hp
                      · exact hm.ah a A jW dz p (by rw[k2];exact aya _ hp)
                      · rcases ana.1 hp with hp|hp
                        · obtain⟨q',Ix,hp⟩:=bma.1 hp
                          obtain⟨B',hB',af9⟩:=Y7 q' Ix;exact hm.ah q' B' hB' af9 p hp
                        · exact hm.ah a A jW dz p (by rw[k2];exact ara _ hp)
                  · simp only[G1,ava];exact SY
                  · simp only[G1,ava,HH,kI];rw[aBa (by omega)]
                · simp only[e,aka] at hq
                  by_cases e2:q∈c
                  · simp[e2] at hq
                  · simp only[e2,aka] at hq
                    have ik:q≠a:=fun h=>e h.symm;refine .inr ⟨by simp[ik],hq,rfl,by simp[G1,ik],fun _=>?_,by simp[G1,ik],fun _ _ _=>⟨rfl,rfl,rfl⟩⟩
                    rintro(h|h|⟨q',Ix,h⟩)
                    · cases h;exact ik rfl
                    · cases h
                    · cases h;exact e2 Ix
              · subst hy
                obtain⟨_,p,hp,rfl⟩:=hyo;simp only[G1,ava] at hp;left;rcases ala.1 hp with rfl|hp
                · exact⟨(false,o),.inr (.inl rfl),ae4⟩
                · rcases ana.1 hp with hp|hp
                  · exact⟨(true,a),.inl rfl,hao p (aya _ hp)⟩
                  · rcases ana.1 hp with hp|hp
                    · obtain⟨q,hq,ho'⟩:=hco p hp
                      exact⟨(true,q),.inr (.inr ⟨q,hq,rfl⟩),ho'⟩
                    · exact⟨(true,a),.inl rfl,hao p (ara _ hp)⟩
              · show(if q=a then G.vn a+1 else G.vn q)=s1.dH q
                simp only[s1,St.dH,aw];by_cases e:q=a
                · subst e;simp;exact hm.hv q
                · have:a≠q:=fun h=>e h.symm
                  simp only[e,this,aka];exact hm.hv q
              · have ik:o≠q:=fun e=>by
                  subst e;rcases hp with ⟨p,hp⟩|⟨j,u,hu⟩
                  · exact hX p hp
                  · exact hB j u hu
                exact⟨by rw[Eb,aBa ik];exact hq,by simp⟩
              · refine⟨?_,rfl⟩
                rw[M1];by_cases e:a=q
                · exact⟨_,by rw[a8a e]⟩
                · have:q∉c:=fun Ix=>by
                    obtain⟨_,_,_,Ok,_⟩:=jK q Ix;rw[Ok] at hp;cases hp
                  exact⟨B,by rw[aBa e,aBa this];exact hq⟩
            exact⟨s1,G1,Ol.ok hm,fun act=>Ol.eH,fun y v hv=>Ol.Td (fun z hz=>by cases hz) hv,h⟩
        · cases h
    · cases h
  · cases h
end Go.Fx
namespace Go.Fx
section ops
variable {P:Program} {E:tr} (hE:iQ P E.iK) {X:mW} {w:World} {R:Type} {r:R}
theorem Qu{st:St}{G:Gh}{T:TypeId}{ti:TI}(hti:Ai P T ti)(hm:aB X st G w){o off:Nat}{vs ls c:List ai}{vx vv:Value}(jB:vs.length=ti.size)(rL:vs.all ai.cell=true)(F4:All2 (aY G) vs vv.cells.toList)
  (ho:st.dT o=some ls) (hs:qS ls off ti.size=some c) (hb:c.any ai.pV=false) (hx:aY G (.lB o off) vx):
  ∃ w',(Instr.storeAt T vx vv).run P w=.ok () w'∧aB X (st.qP o (mN ls off vs)) G w':=by
 have S3:=EQ hm rL F4;have Dr:vv.cells.size=ti.size:=by rw[←jB,F4.length];simp
 have B8:off+ti.size≤ls.length:=by
  unfold qS at hs;cases hq:Nat.ble (off+ti.size) ls.length with
  |false=>simp[hq] at hs
  |true=>exact aZa hq
 obtain⟨arr,elem,mid,g1,g2,g3⟩:=hm.ob o ls ho;have hml:mid.length=ls.length:=by have:=All2.length g3;rw[iX] at this;exact this.symm
 have UE:arr.size=(G.pre o).length+(mid.length+(G.post o).length):=by rw[←bga,g2];simp
 have EV:vx=.pointer (some ⟨G.φ o,(G.pre o).length+off,none⟩):=hx;have xB:(G.pre o).length+off+vv.cells.size≤arr.size:=by omega
 obtain⟨arr',k1,k2,k3,k4,k5,k6,k7⟩:=ot (G.φ o) vv.cells.toList ((G.pre o).length+off) w g1 (by simpa using xB)
 refine⟨_,by rw[EV];exact z7 hti Dr (BL g1 xB) S3,?_⟩
 refine hm.T6 ho (ME rL) (by omega) (by rw[jB];unfold qS at hs;cases hq:Nat.ble (off+ti.size) ls.length<;>simp[hq] at hs;rw[hs];exact hb) F4 g1 g2 g3 k1 ?_ k3 k4 k5 k6 k7
 have B9:vv.cells.toList.length=ti.size:=by simpa using Dr
 rw[k2,g2,B9];exact HC _ _ _ _ _ _ (by omega)
theorem X0{a v sz:Nat}{ls:List ai}(h:ls.all ai.cell=true):(ls.map (qU a v sz)).all ai.cell=true:=by
 rw[cOa,aqa];intro l hl;have:=aqa.1 h l hl;simp only[Function.comp_apply];cases l with
 |E5 a' v' sz' i' off=>simp only[qU];cases (Nat.beq a' a&&Nat.beq v' v&&Nat.beq sz' sz&&Nat.blt off sz)<;>rfl
 |_=>exact this
theorem Ub{G:Gh}{a v sz i:Nat}(ht:∀ off u,off<sz→vX G a v sz i off u→u=G.ψ (LC a v off)):∀{ls:List ai} {us:List Value},xt a v sz i ls=true→All2 (aY G) ls us→All2 (aY G) (ls.map (qU a v sz)) us
 |[],[],_,_=>trivial
 |l::ls,u::us,h,hr=>by
  refine⟨Uc ht (Kl h l (awa ..)) hr.1,Ub ht ?_ hr.2⟩;cases l with
  |E5 a' v' sz' i' off=>
   simp only[xt] at h;cases hb:(Nat.beq a' a&&Nat.beq v' v&&Nat.beq sz' sz&&Nat.blt off sz) with
   |false=>simp only[hb,aoa] at h;exact h
   |true=>simp only[hb,aja,Q3] at h;exact h.2
  |_=>exact h
 |[],_::_,_,h=>h.elim
 |_::_,[],_,h=>h.elim
theorem Nx{X:mW}{st:St}{G:Gh}{w:World}(hm:aB X st G w){o:Nat}(h:st.dT o=none):(∀ p,X.pin o≠some p)∧∀ j u,X.bv o j≠some u:=
 ⟨fun p hp=>(by obtain⟨⟨ls,h1⟩,_⟩:=hm.pin o p hp;rw[h] at h1;cases h1),fun j u hu=>(by obtain⟨_,⟨ls,h1,_⟩,_⟩:=hm.bv o j u hu;rw[h] at h1;cases h1)⟩
include hE
theorem Tz{st:St}{G:Gh}{T:TypeId}{a sz i off:Nat}{v:af}{vx vv:Value}{K:St→Option R}(h:uB E T a sz i off v st K=some r)(hm:aB X st G w)(hx:aY G (.DX a sz i off) vx)(hv:aU G v vv)(hw:GL st v):
  ∃ st' G' w',(Instr.storeAt T vx vv).run P w=.ok () w'∧aB X st' G' w'∧(∀ act,bQ G st act→bQ G' st' act)∧K st' = some r:=by
 unfold uB at h;split at h
 ·rename_i ti vs A hT hl hA
  cases hc:(Nat.beq vs.length ti.size&&vs.all ai.cell&&Nat.beq sz A.t.size) with
  |false=>simp[hc] at h
  |true=>
   simp only[hc,aja] at h;simp only[Q3] at hc;obtain⟨⟨jB,rL⟩,m9⟩:=hc;have jB:=Q4 jB;have m9:=Q4 m9;subst m9;have hti:=hE T ti hT;split at h
   ·rename_i vm
    obtain⟨s1,G1,O,h⟩:=RN h hm;obtain⟨b1,b2,b3,b4,b5,b6,b7⟩:=O.iZ;have adv:s1.dH a=st.dH a:=by simp only[St.dH,b7]
    have ht:∀ off u,off<A.t.size→vX G1 a (st.dH a) A.t.size i off u→u=G1.ψ (LC a (st.dH a) off):=fun off u ho hu=>O.abO A off u hA ho hu;obtain⟨m2,h⟩:=T9 h O.Gf (by rw[adv];exact ht)
    generalize hs2:({s1 with cp:=(p9 s1.cp []).map fun p=>(p.1,p.2.map (qU a (s1.dH a) A.t.size))}:St)=s2 at m2 h
    cases hth:xt a (st.dH a) A.t.size i vs with
    |false=>simp[hth] at h
    |true=>
     simp only[hth,aja] at h;split at h
     ·rename_i ls ho
      split at h
      ·rename_i c hs
       cases hb:c.any ai.pV with
       |true=>simp[hb] at h
       |false=>
        simp only[hb,aoa] at h;have F4:=Ub ht hth (mU O.Gf hl (O.val v vv hw hv));have hxp:aY G1 (.lB (obN a (st.dH a)) off) vx:=(O.lB off vx).2 ⟨A,hA,hx⟩;obtain⟨w',iM,m3⟩:=Qu (w:=w) hti m2 (by rw[List.length_map];exact jB) (X0 rL) F4 ho hs hb hxp
        obtain⟨hp1,HG⟩:=Nx hm O.none;obtain⟨s4,G4,m4,r4,_,hK⟩:=QW h m3 hp1 HG;refine⟨s4,G4,w',iM,m4,fun act ra=>r4 act ?_,hK⟩;have r1:=O.eH act ra;rw[←hs2];exact⟨r1.1,r1.2.1,r1.2.2⟩
      ·cases h
     ·cases h
   ·rename_i j o vm
    cases xS:(Nat.beq j i&&Nat.ble 10000 o) with
    |false=>simp[xS] at h
    |true=>
     simp only[xS,aja] at h;simp only[Q3] at xS;obtain rfl:=Q4 xS.1;have aa0:=aZa xS.2;split at h
     ·rename_i ls ho
      split at h
      ·rename_i c hs
       cases hb:c.any ai.pV with
       |true=>simp[hb] at h
       |false=>
        simp only[hb,aoa] at h;have jW:=su hA;cases dz:A.sh with
        |true=>
         have tJ:=hm.ar a A jW;exfalso;unfold A7 at h;rw[show look (st.qP o (mN ls off vs)).cT a=some A from hA,kW,a8a rfl] at h
         simp only[vm,dz] at h;simp at h
        |false=>
         have tJ:=hm.ar a A jW;unfold pj at tJ;simp only[dz,asa,aka,vm] at tJ;obtain⟨cap,Hp,Hq,rest,I1,k1,k2,k3,k4,k5,k6,k7,k8,k9⟩:=tJ;have hxp:aY G (.lB o off) vx:=by obtain⟨b,len,cap',g1,g2,rfl⟩:=hx;rw[k1] at g1;cases g1;simp only[aY,k7]
         obtain⟨w',iM,m3⟩:=Qu (w:=w) hti hm jB rL (mU hm hl hv) ho hs hb hxp;obtain⟨s4,G4,m4,r4,_,hK⟩:=QW h m3 (fun p hp=>by have:=X.pl o p hp;omega) (fun j u hu=>by have:=X.bl o j u hu;omega)
         exact⟨s4,G4,w',iM,m4,fun act ra=>r4 act ⟨ra.1,ra.2.1,ra.2.2⟩,hK⟩
      ·cases h
     ·cases h
   ·cases h
 ·cases h
omit hE in
theorem aB.agV{X:mW}{st:St}{G:Gh}{w w':World}(hm:aB X st G w){a b:Nat}{A A':jV}{o o':Obj}(hA:st.arr a=some A)(hs:A.sh=false)(Ca:A'.sh=false)(hn:A'.nest=false)(hH:G.HA a=[(b,o)])
  (Nc:∀ G':Gh,G'.S=G.S→G'.ψ a=G.ψ a→G'.HA a=[(b,o')]→pj G' a A') (hw:w'.heap[b]? = some o') (hwo:∀ k,k≠b→w'.heap[k]? = w.heap[k]?) (m9:w'.heap.size=w.heap.size) (hos:w'.os=w.os) (htp:w'.tape=w.tape) (yB:w'.output=w.output):
  ∃ G',aB X (st.gW a A') G' w'∧(∀ act,bQ G st act→bQ G' (st.gW a A') act):=by
 let G1:Gh:={G with HA:=fun q=>if q=a then [(b,o')] else G.HA q}
 have OJ:fq G st (true,a) b:=⟨⟨A,hA,hs⟩,(b,o),by rw[hH];simp,rfl⟩
 have Ol:wF X st (st.gW a A') G G1 w w' (fun y=>y=(true,a)) (fun y=>y=(true,a)) []:=by
  refine {
     n:=rfl,iz:=fun _=>rfl,bl:=rfl,pn:=rfl,S:=rfl,bR:=fun lf v _ hr=>aY.leF (G:=G) (G':=G1) (F:=[]) (fun _ _ h=>h) (fun _ _=>⟨rfl,rfl⟩) (fun q _=>⟨rfl,axa _,fun _ _=>rfl⟩) (by simp) hr,fm:=fun y hy=>(by cases hy),sl:=hm.sl,dT:=fun q ls hq=>.inr ⟨by simp,by simp,hq,rfl,rfl,rfl⟩,arr:=fun q B hq=>?_,
     gK:=fun y c hy hyo=>?_,qw:=fun y z c hy hz _ _=>hy.trans hz.symm,hv:=hm.hv,old:=fun c hc hn=>hwo c fun e=>hn (true,a) rfl (by rw[e];exact OJ),sz:=by rw[m9];exact axa _,os:=hos,tp:=htp,out:=yB,U7:=fun q ls hq _=>⟨hq,by simp⟩,U6:=fun q B hp hq=>⟨?_,rfl⟩}
  ·rw[dM] at hq
   by_cases e:a=q
   ·subst e
    simp only[ava,Ob] at hq;subst hq;refine .inl ⟨rfl,Nc G1 rfl rfl (by simp[G1]),fun _=>⟨fun p hp=>?_,by simp[G1],fun ik=>by rw[hn] at ik;cases ik⟩⟩
    simp only[G1,ava,Q7] at hp;rw[hp];exact hw
   ·simp only[e,aka] at hq
    have ik:q≠a:=fun h=>e h.symm;exact .inr ⟨by simp[ik],hq,rfl,by simp[G1,ik],fun _=>by simp[ik],rfl,fun _ _ _=>⟨rfl,rfl,rfl⟩⟩
  ·subst hy
   obtain⟨_,p,hp,rfl⟩:=hyo;simp only[G1,ava,Q7] at hp;exact .inl ⟨(true,a),rfl,by rw[hp];exact OJ⟩
  ·rw[dM]
   by_cases e:a=q
   ·exact⟨_,by rw[a8a e]⟩
   ·exact⟨B,by rw[aBa e];exact hq⟩
 exact⟨G1,Ol.ok hm,fun act=>Ol.eH⟩
theorem TA{st:St}{G:Gh}{T:TypeId}{a k n:Nat}{v:af}{vx vv:Value}{K:St→Option R}(h:uC E T a k v st K=some r)(hm:aB X st G w)(hx:aY G (.LP a k n) vx)(hv:aU G v vv):
  ∃ st' G' w',(Instr.storeAt T vx vv).run P w=.ok () w'∧aB X st' G' w'∧(∀ act,bQ G st act→bQ G' st' act)∧K st' = some r:=by
 unfold uC at h;split at h
 ·rename_i ti l A hT hl hA
  cases hc:(Nat.beq ti.size 1&&l.cell&&!A.sh&&Md.lK A.md .arr&&Nat.beq A.t.size 1&&!A.t.agg&&A.t.yZ) with
  |false=>rw[hc] at h;cases h
  |true=>
   rw[hc,aja] at h;simp only[Q3,aOa] at hc;obtain⟨⟨⟨⟨⟨⟨hts,rL⟩,dz⟩,vm⟩,m9⟩,hag⟩,hns⟩:=hc;have hts:=Q4 hts;have m9:=Q4 m9;have vm:=Md.xy vm;split at h
   ·rename_i d hd
    obtain⟨x0,hx0,h⟩:=ata.1 h;have hi:A.l[k]? = some x0:=by simpa[bL] using hx0
    have jW:=su hA;have F4:=mU hm hl hv;obtain⟨b,g1,hvx⟩:=hx;obtain⟨b',arr,elem,e1,e2,e3⟩:=GM dz vm (hm.ar a A jW);rw[g1] at e1;cases e1;have tY:=hm.ah a A jW dz (b,Obj.cells arr elem (0,0)) (by rw[e2];simp)
    obtain⟨pre,cc,post,Hp,Hc,Hq,k1,k2,k3,k4,k5⟩:=RepL.at (fun c x H hr=>gy.size hr) e3 hi;obtain⟨u,hu⟩:∃ u,vv.cells.toList=[u]:=by
     have:=F4.length
     match hvv:vv.cells.toList,this with
     |[u],_=>exact⟨u,rfl⟩
    rw[hu] at F4;have Bi:gy G.S false A.t [u] d []:=MW hm hag hd F4.1;have Dr:vv.cells.size=ti.size:=by rw[hts,←bga,hu];rfl
    have ahc:k<arr.size:=by
     have mH:=gy.size k4;have:arr.size=pre.length+(cc.length+post.length):=by rw[←bga,k1];simp
     have hpk:pre.length=k:=by rw[k2,m9,Nat.mul_one]
     omega
    have S3:∀ v∈vv.cells.toList,v.oneCell' = true:=by rw[hu];exact EQ hm (ls:=[l]) (by simpa using rL) F4
    have xB:k+vv.cells.size≤arr.size:=by omega
    obtain⟨arr',g2,g3,g4,g5,g6,g7,g8⟩:=ot b vv.cells.toList k w tY (by simpa using xB)
    have hrl:=k5 [u] d [] Bi;have hH0:Hp=[]∧Hc=[]∧Hq=[]:=by have e:=bYa.1 k3.symm;have e':=bYa.1 e.2;exact⟨e.1,e'.1,e'.2⟩
    have rU:arr'.toList=pre++([u]++post):=by
     have mH:cc.length=1:=by rw[gy.size k4,m9]
     rw[g3,hu,k1];have hpk:pre.length=k:=by rw[k2,m9,Nat.mul_one]
     match cc,mH with
     |[c0],_=>rw[←hpk];simp
    obtain⟨G2,m2,r2⟩:=hm.agV (A':=⟨A.t,.arr,false,A.l.set k d⟩) (o':=Obj.cells arr' elem (0,0)) jW dz rfl rfl e2 (fun G' h1 h2 h3=>⟨b,arr',elem,h2.trans g1,h3,by
     rw[rU,h1];have:=hrl;rw[hH0.1,hH0.2.2] at this;exact this⟩) g2 g4 g5 g6 g7 g8
    exact⟨_,G2,_,by rw[hvx];exact z7 (hE T ti hT) Dr (BL tY xB) S3,m2,r2,h⟩
   ·cases h
 ·cases h
theorem TB{st:St}{G:Gh}{T:TypeId}{x v:af}{vx vv:Value}{K:St→Option R}(h:uD E T x v st K=some r)(hm:aB X st G w)(hx:aU G x vx)(hv:aU G v vv)(hw:GL st v):
  ∃ st' G' w',(Instr.storeAt T vx vv).run P w=.ok () w'∧aB X st' G' w'∧(∀ act,bQ G st act→bQ G' st' act)∧K st' = some r:=by
 unfold uD at h;split at h
 ·rename_i a sz i off hn
  unfold We at hn;split at hn
  ·rename_i a' sz' i' adQ hl
   have PL:x=.one (.DX a' sz' i' adQ):=by cases x<;>simp[af.bR] at hl;rw[hl]
   split at hn
   ·rename_i A hA
    cases hs:A.sh with
    |true=>simp[hs] at hn
    |false=>
     simp only[hs,aoa] at hn;have e:(a',sz',i',adQ)=(a,sz,i,off):=by
      split at hn
      ·exact bva hn
      ·exact bva hn
      ·cases hn
     simp only[aia] at e;obtain⟨rfl,rfl,rfl,rfl⟩:=e;rw[PL] at hx;exact Tz hE h hm hx hv hw
   ·cases hn
  ·cases hn
 ·split at h
  ·rename_i a k ha
   unfold acT at ha;split at ha
   ·rename_i a' k' n' hl
    cases ha;rw[show x=.one (.LP a k n') by cases x<;>simp[af.bR] at hl;rw[hl]] at hx
    exact TA hE (n:=n') h hm hx hv
   ·cases ha
  ·exact U3 hE h hm hx hv
omit hE in
theorem yq{st:St}{dst:Nat}{C:List Nat}{N:jV}(hb:∀ c∈C,look st.gc c=none)(q:Nat):({st with cT:=(dst,N)::lu C st.cT}:St).arr q=if q=dst then some N else if q∈C then none else st.arr q:=by
 simp only[St.arr,aw,zI];by_cases e:dst=q
 ·simp[e]
 ·have hq:q≠dst:=fun h=>e h.symm
  simp only[e,hq,aka];by_cases e2:q∈C
  ·simp[e2,hb q e2]
  ·simp[e2]
omit hE in
theorem KF{st:St}{G:Gh}(hm:aB X st G w){t:Ty}:∀{ps:List (Nat×af)} {vs:List (Nat×Value)} {k:Nat} {l:List t.nM} {c:List Nat},uE t k ps st=some (l,c)→All2 (fun(p:Nat×af) (q:Nat×Value)=>p.1=q.1∧aU G p.2 q.2) ps vs→
  RepL (gy G.S true t) (vs.map fun p=>p.2.cells.toList).flatten l (c.flatMap G.HA)∧l.length=vs.length∧(∀(i:Nat) q,vs[i]? = some q→q.1=k+i∧q.2.cells.size=t.size)∧∀ q∈c,HY st q
 |[],[],k,l,c,h,_=>by simp only[uE,Ob,aia] at h;obtain⟨rfl,rfl⟩:=h;exact⟨⟨rfl,rfl⟩,rfl,fun i q hq=>by simp at hq,fun q hq=>by cases hq⟩
 |(j,v)::ps,(j',u)::vs,k,l,c,h,hp=>by
  simp only[uE] at h;cases hb:Nat.beq k j with
  |false=>simp[hb] at h
  |true=>
   simp only[hb,aja] at h;have hkj:=Q4 hb;split at h
   ·rename_i ls hl
    split at h
    ·rename_i d c0 hT
     split at h
     ·rename_i l' c' afa
      simp only[Ob,aia] at h;obtain⟨rfl,rfl⟩:=h;obtain⟨c1,c2,e0,g1,g2,g3⟩:=Wk hm hT (mU hm hl hp.1.2)
      match c2,g2 with
      |[],_=>
      rw[bha] at e0;obtain⟨r1,r2,r3,r4⟩:=KF hm afa hp.2;refine⟨⟨c1,_,c0.flatMap G.HA,c'.flatMap G.HA,by simp[e0],by rw[cDa],g1,r1⟩,by simp[r2],fun i q hq=>?_,fun q hq=>?_⟩
      ·cases i with
       |zero=>
        simp only[bda,Ob] at hq;subst hq;refine⟨by have h1:=hp.1.1;simp only at h1 ⊢;omega,?_⟩
        have:=gy.size g1;rw[←e0] at this;simpa using this
       |succ i=>
        obtain⟨z1,z2⟩:=r3 i q (by simpa using hq)
        exact⟨by omega,z2⟩
      ·rcases ana.1 hq with hq|hq
       ·exact g3 q hq
       ·exact r4 q hq
     ·cases h
    ·cases h
   ·cases h
 |[],_::_,_,_,_,_,hp=>hp.elim
 |_::_,[],_,_,_,_,hp=>hp.elim
omit hE in
theorem abq{st:St}{c:List Nat}(h:∀ q∈c,HY st q):(∀ q∈c,(∃ A,st.arr q=some A∧A.sh=false)∧fk q st.pin=false)∧∀ q∈c,look st.gc q=none:=
 ⟨fun q hq=>by obtain⟨A,h1,h2,h3,_⟩:=h q hq;exact⟨⟨A,su h1,h2⟩,h3⟩,fun q hq=>by obtain⟨_,_,_,_,h4⟩:=h q hq;exact h4⟩
theorem J8{st:St}{G:Gh}{T:TypeId}{dst len:Nat}{iy:List (Nat×af)}{vs:List (Nat×Value)}{K:af→St→Option R}(h:li E T dst len iy st K=some r)(hm:aB X st G w)
  (hp:All2 (fun(p:Nat×af) (q:Nat×Value)=>p.1=q.1∧aU G p.2 q.2) iy vs):
  ∃ av v st' G' w',(Instr.buildSlice T len vs.toArray).run P w=.ok v w'∧aB X st' G' w'∧(∀ act,bQ G st act→bQ G' st' act)∧aU G' av v∧K av st' = some r:=by
 unfold li at h;split at h
 ·rename_i s b y e z hT
  cases Ap:E.iK e with
  |none=>simp[Ap] at h
  |some ei=>
   simp only[Ap] at h;cases hy:ei.ty with
   |none=>simp[hy] at h
   |some t=>
    simp only[hy] at h;cases hc:(Nat.beq len iy.length&&Nat.beq ei.size t.size&&Nat.ble (len * ei.size) 16777216) with
    |false=>simp[hc] at h
    |true=>
     simp only[hc,aja] at h;simp only[Q3] at hc;obtain⟨⟨LV,xS⟩,M4⟩:=hc;have LV:=Q4 LV;have xS:=Q4 xS;have M4:=aZa M4;split at h
     ·rename_i l c hsp ha
      cases Ar:(st.dj true dst||!ou c) with
      |true=>simp[Ar] at h
      |false=>
       simp only[Ar,aoa] at h;simp only[aGa,bpa] at Ar;obtain⟨Ar,Iv⟩:=Ar;have Iv:=E4 Iv;obtain⟨r1,l1,z1,o1⟩:=KF hm hsp hp;obtain⟨oc1,oc2⟩:=abq o1;have B9:vs.length=len:=by rw[LV,hp.length]
       have hu:=(hE T _ hT).slice;obtain⟨i,d,zz,i1,i2,i3,i4,i5,i6,i7,i8,i9,_⟩:=hE e ei Ap;have mH:(vs.map fun p=>p.2.cells.toList).flatten.length=len * t.size:=by rw[RepL.size (fun c x H hr=>gy.size hr) r1,l1,B9]
       let zc:Array Value:=if len * ei.size=0 then #[] else zz.cells
       let Ro:List Value:=((Array.range (len * ei.size)).map (zc[· % zc.size]!)).toList
       have FJ:Ro.length=len * ei.size:=by simp[Ro]
       have M8:=MQ ei.size vs 0 Ro (fun j p hp=>by
        obtain⟨g1,g2⟩:=z1 j p hp;exact⟨g1,by rw[g2,xS]⟩) (by rw[aWa,B9,FJ];exact axa _)
       rw[aWa,B9,Nat.zero_mul,List.take_zero,aVa,coa (by rw[FJ];exact axa _),bha] at M8
       let blk:Obj:=.cells (vs.map fun p=>p.2.cells.toList).flatten.toArray e (0,0);have OI:∀ p∈c.flatMap G.HA,p.1<w.heap.size∧w.heap[p.1]? = some p.2:=fun p hp=>by obtain⟨q,hq,hp⟩:=bma.1 hp;obtain⟨⟨A,hA,hs⟩,_⟩:=oc1 q hq;have:=hm.ah q A hA hs p hp;exact⟨gn this,this⟩
       have It:kA (RepL (gy G.S true t)) t.size [.slice (some ⟨w.heap.size,0,none⟩) l.length len] l ((w.heap.size,blk)::c.flatMap G.HA):=
        .inr ⟨w.heap.size,len,(vs.map fun p=>p.2.cells.toList).flatten.toArray,e,(vs.map fun p=>p.2.cells.toList).flatten,[],c.flatMap G.HA,rfl,rfl,by simp,by rw[bJa,mH];exact axa _,by rw[l1,B9];exact axa _,r1⟩
       obtain⟨G2,m2,r2,F6,_⟩:=hm.uo (w':=w.alloc blk) (dst:=dst) (C:=c) (A':=⟨t,.bA,false,l⟩) (hd:=.slice (some ⟨w.heap.size,0,none⟩) l.length len) (HH:=(w.heap.size,blk)::c.flatMap G.HA)
        (st':={st with cT:=(dst,⟨t,.bA,false,l⟩)::lu c st.cT}) oc1 rfl rfl
        It
        (by
         rw[aHa,a3a];refine⟨fun ii=>?_,GV hm Iv fun q hq=>(oc1 q hq).1⟩;obtain⟨p,hp,e⟩:=a0a.1 ii;have:=(OI p hp).1;simp only at e;omega)
        (fun p hp=>by
         rcases ala.1 hp with rfl|hp
         ·exact .inr (axa _)
         ·obtain⟨q,hq,hp⟩:=bma.1 hp
          exact .inl ⟨q,hq,p,hp,rfl⟩)
        (fun p hp=>by
         rcases ala.1 hp with rfl|hp
         ·exact va w _
         ·rw[ja w _ (OI p hp).1];exact(OI p hp).2)
        (fun b hb _=>ja w _ hb) (by rw[tu];omega) rfl rfl rfl (rQ.cT _ _) (yq oc2) ha Ar
       refine⟨_,_,_,G2,_,?_,m2,r2,F6,h⟩;have h24:¬ (2 ^ 24<len * i.size):=by rw[i3];omega
       have m9:=(hE e ei Ap).size w;have D9:(Array.range (len * ei.size)).map (zc[· % zc.size]!)=Ro.toArray:=(Array.toArray_toList (xs:=(Array.range (len * ei.size)).map (zc[· % zc.size]!))).symm
       by_cases h0:len * ei.size=0
       ·have hzc:zc = #[]:=by simp[zc,h0]
        rw[hzc] at D9;simp only[Instr.buildSlice,aNa,aEa hu,aFa,m9,Sem.run_ite,aBa (show ¬ (len * ei.size > 2 ^ 24) by omega),h0,ava,baa]
        rw[h0] at D9;rw[D9];simp only[M8];simp[newRow,l1,B9,blk]
       ·have hzc:zc=zz.cells:=by simp[zc,h0]
        rw[hzc] at D9;simp only[Instr.buildSlice,aNa,aEa hu,aFa,m9,Sem.run_ite,aBa (show ¬ (len * ei.size > 2 ^ 24) by omega),h0,aka,baa,zeroValue,typeInfo,run_program,i1,i5]
        rw[D9];simp only[M8];simp[newRow,l1,B9,blk]
     ·cases h
 ·cases h
end ops
end Go.Fx
