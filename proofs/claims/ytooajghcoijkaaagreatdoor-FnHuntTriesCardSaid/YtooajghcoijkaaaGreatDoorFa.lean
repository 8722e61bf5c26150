/- Proved here: laws.FnHuntTries returns true at every input (the tied card), no condition beyond the card. -/
import Derived.Calls
import Derived.Orders
import Derived.KernelRfl
import Derived.Below
import Derived.Deep.MidRow
import Derived.Laws.AppendOwn
import Derived.Laws.MakeOwn
import Derived.Laws.Strings
import Derived.Tactics
import Derived.ChangeKeysEq
import Derived.ArgAppend
set_option linter.unusedVariables false
set_option linter.unusedSimpArgs false
set_option linter.unusedSectionVars false
set_option linter.defProp false
set_option maxRecDepth 100000
namespace Go.Fx
def OQ:=@Option.some.injEq
def Q3:=@Bool.and_eq_true
def Q4:=@Nat.eq_of_beq_eq_true
def Q5:=@Int.ofNat_lt
def Q6:=@beq_eq_false_iff_ne
def Q7:=@List.mem_singleton
def Q8:=@List.mem_cons_of_mem
def Q9:=@if_false
def aja:=@cond_true
def aka:=@List.getElem?_eq_some_iff
def ala:=@Prod.mk.injEq
def ama:=@List.mem_cons
def ana:=@List.all_eq_true
def aoa:=@List.mem_append
def apa:=@Int.natCast_nonneg
def aqa:=@cond_false
def ara:=@List.mem_append_right
def asa:=@Bool.false_eq_true
def ata:=@List.mem_cons_self
def aua:=@List.length_append
def ava:=@if_true
def awa:=@Nat.le_refl
def axa:=@Option.bind_eq_some_iff
def aya:=@List.mem_append_left
def aza:=@if_neg
def aAa:=@Int.toNat_natCast
def aBa:=@Array.getD_eq_getD_getElem?
def aCa:=@List.length_nil
def aDa:=@List.length_cons
def aEa:=@Go.run_underlying
def aFa:=@Go.Result.andThen_ok
def aGa:=@Bool.or_eq_false_iff
def aHa:=@List.map_cons
def aIa:=@List.mem_map_of_mem
def aJa:=@List.cons.injEq
def aKa:=@Option.map_eq_some_iff
def aLa:=@List.prefix_append
def aMa:=@Go.Sem.run_bind
def aNa:=@Int.toNat_of_nonneg
def aOa:=@Bool.not_eq_true'
def aPa:=@and_self
def aQa:=@List.drop_eq_getElem_cons
def aRa:=@List.getElem_mem
def aSa:=@List.any_eq_false
def aTa:=@List.getElem?_append_right
def aUa:=@bne_iff_ne
def aVa:=@List.getElem?_append_left
def aWa:=@Nat.zero_add
def aXa:=@List.prefix_refl
def aYa:=@List.nil_append
def aZa:=@Nat.le_of_ble_eq_true
def a0a:=@List.mem_map
def a1a:=@List.mem_of_getElem?
def a2a:=@List.nodup_cons
def a3a:=@List.append_assoc
def a4a:=@List.cons_append
def a5a:=@Bool.or_eq_true
def a6a:=@Option.bind_assoc
def a7a:=@if_pos
def a8a:=@List.getD_eq_getElem?_getD
def a9a:=@beq_iff_eq
def a_a:=@and_true
def baa:=@Go.Sem.run_pure
def bba:=@List.nodup_append
def bca:=@Nat.add_sub_cancel_left
def bda:=@List.getElem?_cons_zero
def bea:=@Array.length_toList
def bfa:=@Array.getElem?_push
def bga:=@List.append_nil
def bha:=@decide_eq_false
def bia:=@List.mem_filterMap
def bja:=@List.getElem?_eq_getElem
def bka:=@or_self
def bla:=@Prod.mk.inj
def bma:=@List.mem_flatMap
def bna:=@Nat.mul_le_mul_right
def boa:=@Bool.not_eq_false'
def bpa:=@List.all_cons
def bqa:=@List.getElem?_take_of_lt
def bra:=@Nat.add_mul
def bsa:=@Array.getElem?_setIfInBounds_ne
def bta:=@List.getElem?_cons_succ
def bua:=@List.map_append
def bva:=@Array.getElem?_toList
def bwa:=@List.length_replicate
def bxa:=@Option.some.inj
def bya:=@Bool.not_eq_true
def bza:=@Option.bind_some
def bAa:=@Bool.and_self
def bBa:=@Ne.symm
def bCa:=@List.getElem?_eq_none
def bDa:=@or_false
def bEa:=@Nat.le_trans
def bFa:=@List.size_toArray
def bGa:=@List.getElem?_map
def bHa:=@List.ext_getElem?
def bIa:=@Option.map_some
def bJa:=@Go.World.cell?_alloc_past
def bKa:=@Nat.add_assoc
def bLa:=@congrArg
def bMa:=@List.drop_zero
def bNa:=@List.getElem?_drop
def bOa:=@List.take_append_drop
def bPa:=@List.mem_filter
def bQa:=@decide_eq_true_eq
def bRa:=@of_decide_eq_true
def bSa:=@List.flatMap_cons
def bTa:=@gt_iff_lt
def bUa:=@List.not_mem_nil
def bVa:=@Array.toList_map
def bWa:=@List.mem_range
def bXa:=@List.append_eq_nil_iff
def bYa:=@Go.Addr.add_mid
def bZa:=@Array.size_append
def b0a:=@List.mem_of_find?_eq_some
def b1a:=@Int.natCast_zero
def b2a:=@List.filterMap_cons
def b3a:=@List.map_congr_left
def b4a:=@or_true
def b5a:=@List.foldl_cons
def b6a:=@Nat.blt_eq
def b7a:=@Go.MapKept.run_getObj_map
def b8a:=@Nat.beq_refl
def b9a:=@List.length_singleton
def b_a:=@List.nodup_nil
def caa:=@decide_eq_decide
def cba:=@true_and
def cca:=@Option.getD_some
def cda:=@Array.getElem?_eq_some_iff
def cea:=@eq_comm
def cfa:=@Go.MapKept.run_findKey
def cga:=@decide_false
def cha:=@Go.World.cell?_setCell_same
def cia:=@Option.isSome_iff_exists
def cja:=@Go.World.frozen?_alloc_past
def cka:=@not_or
def cla:=@List.drop_drop
def cma:=@decide_eq_false_iff_not
def cna:=@List.drop_of_length_le
def coa:=@Int.le_refl
def cpa:=@Array.setIfInBounds_eq_of_size_le
def cqa:=@List.drop_eq_nil_of_le
def cra:=@List.filter_cons
def csa:=@List.take_succ_eq_append_getElem
def cta:=@List.take_length
def cua:=@Nat.le_of_not_lt
def cva:=@Array.getElem?_modify
def cwa:=@Nat.add_zero
def cxa:=@List.find?_some
def cya:=@List.length_map
def cza:=@Array.ext'
def cAa:=@List.map_map
def cBa:=@List.eq_nil_of_length_eq_zero
def cCa:=@List.take_append_of_le_length
def cDa:=@List.flatMap_append
def cEa:=@Go.size_zeroCells
def cFa:=@Nat.mul_le_mul
def cGa:=@of_decide_eq_false
def cHa:=@Option.isNone_none
def cIa:=@Option.isSome_none
def cJa:=@Option.isNone_some
def cKa:=@List.any_cons
def cLa:=@Bool.not_true
def cMa:=@List.flatten_cons
def cNa:=@List.getElem?_set
def cOa:=@List.length_take
def cPa:=@List.all_map
def cQa:=@Nat.lt_or_ge
end Go.Fx
namespace Go.Fx
inductive Ty where
 |int (k:IntKind)|bool|str|slice (t:Ty)|da (a b:Ty)|one (a:Ty)|arr (n:Nat) (t:Ty)
def Ty.beq:Ty→Ty→Bool
 |.int k,.int k'=>decide (k=k')
 |.bool,.bool=>true
 |.str,.str=>true
 |.slice t,.slice u=>t.beq u
 |.da a b,.da c d=>a.beq c&&b.beq d
 |.one a,.one b=>a.beq b
 |.arr n a,.arr m b=>Nat.beq n m&&a.beq b
 |_,_=>false
theorem Ty.vg:∀{t u:Ty},t.beq u=true→t=u
 |.int k,u,h=>by cases u<;>simp_all[Ty.beq]
 |.bool,u,h=>by cases u<;>simp_all[Ty.beq]
 |.str,u,h=>by cases u<;>simp_all[Ty.beq]
 |.slice t,u,h=>by cases u<;>simp_all[Ty.beq];exact Ty.vg h
 |.da a b,u,h=>by cases u<;>simp_all[Ty.beq];exact⟨Ty.vg h.1,Ty.vg h.2⟩
 |.one a,u,h=>by cases u<;>simp_all[Ty.beq];exact Ty.vg h
 |.arr n a,u,h=>by cases u<;>simp_all[Ty.beq];exact Ty.vg h.2
abbrev ab:=List UInt8
@[reducible] def Ty.nH:Ty→Type
 |.int _=>Int | .bool=>Bool | .str=>ab | .slice t=>List t.nH | .da a b=>a.nH×b.nH | .one a=>a.nH | .arr _ t=>List t.nH
inductive Kd where
 |int (k:IntKind)|bool|str
def Kv:Ty→Option (List Kd)
 |.int k=>some [.int k]
 |.bool=>some [.bool]
 |.str=>some [.str]
 |.da a b=>(match Kv a,Kv b with|some x,some y=>some (x++y)|_,_=>none)
 |.one a=>Kv a
 |_=>none
def Ty.size:Ty→Nat
 |.da a b=>a.size+b.size | .one a=>a.size | .arr n t=>n * t.size|_=>1
def Ty.agg:Ty→Bool
 |.da _ _=>true | .one _=>true | .arr _ _=>true|_=>false
def wd(t u:Ty)(d:t.nH):Option u.nH:=
 if h:t.beq u=true then some (cast (bLa Ty.nH (Ty.vg h)) d) else none
theorem lT{t u:Ty}{d:t.nH}{x:u.nH}(h:wd t u d=some x):∃ e:t=u,x=e ▸ d:=by
 unfold wd at h;split at h
 ·rename_i hb
  have e:=Ty.vg hb;subst e;exact⟨rfl,(bxa h).symm⟩
 ·cases h
abbrev gj:=List (Nat×Obj)
abbrev DN:=Nat→Option Obj
def RepL{α:Type}(R:List Value→α→gj→Prop):List Value→List α→gj→Prop
 |cs,[],H=>cs=[]∧H=[]
 |cs,x::l,H=>∃ c1 c2 H1 H2,cs=c1++c2∧H=H1++H2∧R c1 x H1∧RepL R c2 l H2
def kw(s:ab):Value:=.string ⟨s.toArray⟩
def Ca{α:Type}(S:DN)(RL:List Value→List α→gj→Prop)(cs:List Value)(l:List α)(H:gj):Prop:=
 H=[]∧((l=[]∧∃ iG cap,cs=[.slice iG 0 cap])∨
  ∃ b cap arr elem fz pre cells rest,cs=[.slice (some ⟨b,pre.length,none⟩) l.length cap]∧S b=some (.cells arr elem fz)∧
   arr.toList=pre++(cells++rest)∧RL cells l []∧l.length≤cap)
def kx{α:Type}(RL:List Value→List α→gj→Prop)(sz:Nat)(cs:List Value)(l:List α)(H:gj):Prop:=
 (l=[]∧H=[]∧cs=[.slice none 0 0])∨
  ∃ b cap arr elem cells rest H',cs=[.slice (some ⟨b,0,none⟩) l.length cap]∧H=(b,Obj.cells arr elem (0,0))::H'∧
   arr.toList=cells++rest∧cap * sz≤arr.size∧l.length≤cap∧RL cells l H'
def gh(S:DN)(m:Bool):(t:Ty)→List Value→t.nH→gj→Prop
 |.int k,cs,d,H=>cs=[.int k d]∧H=[]
 |.bool,cs,d,H=>cs=[.bool d]∧H=[]
 |.str,cs,d,H=>cs=[kw d]∧H=[]
 |.slice t,cs,l,H=>if m=true then kx (RepL (gh S m t)) t.size cs l H else Ca S (RepL (gh S m t)) cs l H
 |.da a b,cs,d,H=>∃ c1 c2 H1 H2,cs=c1++c2∧H=H1++H2∧gh S m a c1 d.1 H1∧gh S m b c2 d.2 H2
 |.one a,cs,d,H=>gh S m a cs d H
 |.arr n t,cs,l,H=>RepL (gh S m t) cs l H∧l.length=n
section RepL
variable {α:Type} {R R':List Value→α→gj→Prop}
theorem RepL.imp(h:∀ c x H,R c x H→R' c x H):∀{cs:List Value} {l:List α} {H:gj},RepL R cs l H→RepL R' cs l H
 |_,[],_,hh=>hh
 |_,_::_,_,⟨c1,c2,H1,H2,e1,e2,r,rl⟩=>⟨c1,c2,H1,H2,e1,e2,h _ _ _ r,RepL.imp h rl⟩
theorem RepL.size{n:Nat}(hn:∀ c x H,R c x H→c.length=n):∀{cs:List Value} {l:List α} {H:gj},RepL R cs l H→cs.length=l.length * n
 |_,[],_,hh=>by rw[hh.1];simp
 |_,_::_,_,⟨c1,c2,H1,H2,e1,e2,r,rl⟩=>by have:=hn _ _ _ r;have:=RepL.size hn rl;rw[e1,aua,aDa,bra];omega
theorem RepL.append:∀{cs cs':List Value} {l l':List α} {H H':gj},RepL R cs l H→RepL R cs' l' H'→RepL R (cs++cs') (l++l') (H++H')
 |_,cs',[],l',_,H',hh,hh'=>by obtain⟨rfl,rfl⟩:=hh;exact hh'
 |_,cs',_::_,l',_,H',⟨c1,c2,H1,H2,e1,e2,r,rl⟩,hh'=>
  ⟨c1,c2++cs',H1,H2++H',by rw[e1,a3a],by rw[e2,a3a],r,RepL.append rl hh'⟩
theorem RepL.at{n:Nat}(hn:∀ c x H,R c x H→c.length=n):∀{cs:List Value} {l:List α} {H:gj} {i:Nat} {x:α},RepL R cs l H→l[i]? = some x→
  ∃ pre c post Hp Hc Hq,cs=pre++(c++post)∧pre.length=i * n∧H=Hp++(Hc++Hq)∧R c x Hc∧
   ∀ c' x' Hc',R c' x' Hc'→RepL R (pre++(c'++post)) (l.set i x') (Hp++(Hc'++Hq))
 |_,[],_,i,x,_,hi=>by simp at hi
 |_,y::l,_,0,x,⟨c1,c2,H1,H2,e1,e2,r,rl⟩,hi=>by
  obtain rfl:y=x:=by simpa using hi
  exact⟨[],c1,c2,[],H1,H2,e1,by simp,e2,r,fun c' x' Hc' r'=>⟨c',c2,Hc',H2,rfl,rfl,r',rl⟩⟩
 |_,y::l,_,i+1,x,⟨c1,c2,H1,H2,e1,e2,r,rl⟩,hi=>by
  obtain⟨pre,c,post,Hp,Hc,Hq,f1,f2,f3,f4,f5⟩:=RepL.at hn rl (by simpa using hi)
  refine⟨c1++pre,c,post,H1++Hp,Hc,Hq,?_,?_,?_,f4,fun c' x' Hc' r'=>?_⟩
  ·rw[e1,f1,a3a]
  ·have:=hn _ _ _ r;rw[aua,f2,bra];omega
  ·rw[e2,f3,a3a]
  ·exact⟨c1,_,H1,_,by rw[a3a],by rw[a3a],r,f5 _ _ _ r'⟩
theorem RepL.split{n:Nat}(hn:∀ c x H,R c x H→c.length=n):∀{k:Nat} {cs:List Value} {l:List α} {H:gj},RepL R cs l H→k≤l.length→
  ∃ c1 c2 H1 H2,cs=c1++c2∧H=H1++H2∧c1.length=k * n∧RepL R c1 (l.take k) H1∧RepL R c2 (l.drop k) H2
 |0,cs,l,H,h,_=>⟨[],cs,[],H,rfl,rfl,by simp,⟨rfl,rfl⟩,h⟩
 |k+1,_,[],_,_,hk=>by simp at hk
 |k+1,_,y::l,_,⟨c1,c2,H1,H2,e1,e2,r,rl⟩,hk=>by
  obtain⟨d1,d2,K1,K2,f1,f2,f3,f4,f5⟩:=RepL.split hn rl (k:=k) (by simpa using hk)
  refine⟨c1++d1,d2,H1++K1,K2,by rw[e1,f1,a3a],by rw[e2,f2,a3a],?_,⟨c1,d1,H1,K1,rfl,rfl,r,f4⟩,f5⟩
  have:=hn _ _ _ r;rw[aua,f3,bra];omega
theorem RepL.nI(hR:∀ c x H,R c x H→H=[]):∀{cs:List Value} {l:List α} {H:gj},RepL R cs l H→H=[]
 |_,[],_,h=>h.2
 |_,_::_,_,⟨c1,c2,H1,H2,e1,e2,r,rl⟩=>by rw[e2,hR _ _ _ r,RepL.nI hR rl];rfl
theorem RepL.afb:∀{cs:List Value} {l:List α} {H:gj},RepL R cs l H→H=[]→RepL R cs l []
 |_,_,_,h,e=>e ▸ h
end RepL
theorem gh.size{S:DN}{m:Bool}:∀{t:Ty} {cs:List Value} {d:t.nH} {H:gj},gh S m t cs d H→cs.length=t.size
 |.int _,_,_,_,h=>by rw[h.1];rfl
 |.bool,_,_,_,h=>by rw[h.1];rfl
 |.str,_,_,_,h=>by rw[h.1];rfl
 |.slice t,cs,l,H,h=>by
  simp only[gh] at h;split at h
  ·rcases h with ⟨_,_,rfl⟩|⟨b,cap,arr,elem,cells,rest,H',rfl,_⟩<;>rfl
  ·rcases h with ⟨_,⟨_,iG,cap,rfl⟩|⟨b,cap,arr,elem,fz,pre,cells,rest,rfl,_⟩⟩<;>rfl
 |.da a b,cs,d,H,h=>by obtain⟨c1,c2,H1,H2,rfl,rfl,h1,h2⟩:=h;have:=gh.size h1;have:=gh.size h2;simp only[Ty.size,aua];omega
 |.one a,cs,d,H,h=>by exact gh.size (t:=a) h
 |.arr n t,cs,l,H,h=>by have:=RepL.size (n:=t.size) (fun c x H hx=>gh.size hx) h.1;rw[this,h.2];rfl
theorem gh.mono{S S':DN}(hS:∀ b o,S b=some o→S' b=some o){m:Bool}:∀{t:Ty} {cs:List Value} {d:t.nH} {H:gj},gh S m t cs d H→gh S' m t cs d H
 |.int _,_,_,_,h=>h
 |.bool,_,_,_,h=>h
 |.str,_,_,_,h=>h
 |.slice t,cs,l,H,h=>by
  have ih:∀ c x H,gh S m t c x H→gh S' m t c x H:=fun c x H h=>gh.mono hS h;cases m with
  |true=>
   rcases h with h|⟨b,cap,arr,elem,cells,rest,H',e1,e2,e3,e4,e5,e6⟩
   ·exact .inl h
   ·exact .inr ⟨b,cap,arr,elem,cells,rest,H',e1,e2,e3,e4,e5,e6.imp ih⟩
  |false=>
   rcases h with ⟨hH,h|⟨b,cap,arr,elem,fz,pre,cells,rest,e1,e2,e3,e4,elc⟩⟩
   ·exact⟨hH,.inl h⟩
   ·exact⟨hH,.inr ⟨b,cap,arr,elem,fz,pre,cells,rest,e1,hS _ _ e2,e3,e4.imp ih,elc⟩⟩
 |.da a b,cs,d,H,h=>by obtain⟨c1,c2,H1,H2,rfl,rfl,h1,h2⟩:=h;exact⟨c1,c2,H1,H2,rfl,rfl,h1.mono hS,h2.mono hS⟩
 |.one a,cs,d,H,h=>by exact gh.mono (t:=a) hS h
 |.arr n t,cs,l,H,h=>⟨RepL.imp (fun c x H hx=>gh.mono hS hx) h.1,h.2⟩
theorem gh.nI{S:DN}:∀{t:Ty} {cs:List Value} {d:t.nH} {H:gj},gh S false t cs d H→H=[]
 |.int _,_,_,_,h=>h.2
 |.bool,_,_,_,h=>h.2
 |.str,_,_,_,h=>h.2
 |.slice t,_,_,_,h=>h.1
 |.da a b,_,_,_,h=>by obtain⟨c1,c2,H1,H2,rfl,rfl,h1,h2⟩:=h;rw[gh.nI h1,gh.nI h2];rfl
 |.one a,_,_,_,h=>by exact gh.nI (t:=a) h
 |.arr n t,cs,l,H,h=>RepL.nI (fun c x H hx=>gh.nI hx) h.1
theorem RepL.Dp{α:Type}{R R':List Value→α→gj→Prop}{S':DN}(h:∀ c x H,(∀ p∈H,S' p.1=some p.2)→R c x H→R' c x []):
  ∀{cs:List Value} {l:List α} {H:gj},(∀ p∈H,S' p.1=some p.2)→RepL R cs l H→RepL R' cs l []
 |_,[],_,_,hh=>⟨hh.1,rfl⟩
 |_,_::_,_,hp,⟨c1,c2,H1,H2,e1,e2,r,rl⟩=>
  ⟨c1,c2,[],[],e1,rfl,h _ _ _ (fun p hm=>hp p (by rw[e2];exact aya _ hm)) r,
   RepL.Dp h (fun p hm=>hp p (by rw[e2];exact ara _ hm)) rl⟩
theorem gh.Dp{S S':DN}(hS:∀ b o,S b=some o→S' b=some o):∀{m:Bool} {t:Ty} {cs:List Value} {d:t.nH} {H:gj},
  (∀ p∈H,S' p.1=some p.2)→gh S m t cs d H→gh S' false t cs d []
 |_,.int _,_,_,_,_,h=>⟨h.1,rfl⟩
 |_,.bool,_,_,_,_,h=>⟨h.1,rfl⟩
 |_,.str,_,_,_,_,h=>⟨h.1,rfl⟩
 |m,.slice t,cs,l,H,hp,h=>by
  have ih:∀ c x H,(∀ p∈H,S' p.1=some p.2)→gh S m t c x H→gh S' false t c x []:=fun c x H hp h=>gh.Dp hS hp h;cases m with
  |true=>
   rcases h with ⟨rfl,rfl,rfl⟩|⟨b,cap,arr,elem,cells,rest,H',rfl,rfl,e3,e4,e5,e6⟩
   ·exact⟨rfl,.inl ⟨rfl,none,0,rfl⟩⟩
   ·exact⟨rfl,.inr ⟨b,cap,arr,elem,(0,0),[],cells,rest,rfl,hp (b,Obj.cells arr elem (0,0)) (ata ..),e3,
    e6.Dp ih (fun p hm=>hp p (Q8 _ hm)),e5⟩⟩
  |false=>
   rcases h with ⟨rfl,h|⟨b,cap,arr,elem,fz,pre,cells,rest,e1,e2,e3,e4,elc⟩⟩
   ·exact⟨rfl,.inl h⟩
   ·exact⟨rfl,.inr ⟨b,cap,arr,elem,fz,pre,cells,rest,e1,hS _ _ e2,e3,e4.Dp ih (by simp),elc⟩⟩
 |m,.da a b,cs,d,H,hp,h=>by obtain⟨c1,c2,H1,H2,rfl,rfl,h1,h2⟩:=h;exact⟨c1,c2,[],[],rfl,rfl,h1.Dp hS (fun p hm=>hp p (aya _ hm)),h2.Dp hS (fun p hm=>hp p (ara _ hm))⟩
 |m,.one a,cs,d,H,hp,h=>by exact gh.Dp (t:=a) hS hp h
 |m,.arr n t,cs,l,H,hp,h=>⟨h.1.Dp (fun c x H hp hx=>gh.Dp hS hp hx) hp,h.2⟩
end Go.Fx
namespace Go.Fx
def bC{α:Type}(l:List α)(i:Int):Option α:=bif decide (0≤i) then l[i.toNat]? else none
def sub{α:Type}(l:List α)(i j:Int):Option (List α):=
 bif decide (0≤i)&&decide (i≤j)&&decide (j≤(l.length:Int)) then some ((l.take j.toNat).drop i.toNat) else none
def bD{α:Type}(l m:List α):Option (List α):=bif decide (l.length+m.length≤4294967296) then some (l++m) else none
def mkl{α:Type}(n:Int)(x:α):Option (List α):=bif decide (0≤n)&&decide (n≤4294967296) then some (List.replicate n.toNat x) else none
abbrev bh(x:Int):Int:=IntKind.i64.wrap x
def PW(op:BinOp)(k:IntKind)(x y:Int):Int:=
 k.wrap (match op with
  |.and=>(BitVec.ofInt k.bits x &&& BitVec.ofInt k.bits y).toNat
  |.or=>(BitVec.ofInt k.bits x ||| BitVec.ofInt k.bits y).toNat
  |.xor=>(BitVec.ofInt k.bits x ^^^ BitVec.ofInt k.bits y).toNat
  |_=>0)
inductive ag where
 |any|vV|vb
 |eZ (t:Ty) (d:t.nH)
 |nil|KD
 |mT (a:Nat)
 |lw (o off:Nat)
 |Ei (a sz i off:Nat)
 |PO (t:Ty) (d:t.nH) (off:Nat)
 |fn (f:FuncId)
 |ga (t:Ty) (l:List t.nH)
 |Ft (a v sz i off:Nat)|nse (a v sz i off sz2 j T4:Nat)|Mo (a k n:Nat)
inductive ae where
 |one (l:ag)|agg (ls:List ag)|Lm (vs:List (Bool×List ag))|AH (t:TypeId) (ls:List ag)
inductive Md where
 |dV|bx|DK (i o:Nat)|mp|afZ (i off:Nat)|arr
structure jS where
 t:Ty
 md:Md
 sh:Bool
 l:List t.nH
def jS.bx(A:jS):Bool:=match A.md with | .dV=>false|_=>true
def jS.gz(A:jS):Bool:=match A.md with | .dV=>true | .bx=>true|_=>false
def jS.Ky(x:Nat)(A:jS):Bool:=match A.md with | .DK _ o=>Nat.beq o x|_=>false
def jS.nest(A:jS):Bool:=match A.md with | .bx=>true | .afZ _ _=>true|_=>false
def jS.Vn(A:jS):Bool:=match A.md with | .mp=>true | .arr=>true|_=>false
structure St where
 n:Nat
 eB:List (Nat×ae)
 ci:List (Nat×List ag)
 cO:List (Nat×jS)
 js:List (Nat×ae)
 cF:List (Nat×Nat×ag)
 fQ:List (Nat×jS)
 pin:List Nat
 Fc:List (Nat×Nat)
def eV:Nat→List Nat→Bool
 |_,[]=>false
 |x,y::r=>Nat.beq x y||eV x r
def look{α:Type}:List (Nat×α)→Nat→Option α
 |[],_=>none
 |(k,v)::r,i=>bif Nat.beq k i then some v else look r i
def dZ:List (Nat×Nat×ag)→Nat→Nat→Option ag
 |[],_,_=>none
 |(o,j,l)::r,o',j'=>bif Nat.beq o o'&&Nat.beq j j' then some l else dZ r o' j'
def Gr{α:Type}:List (Nat×α)→Nat→List (Nat×α)
 |[],_=>[]
 |(k,v)::r,i=>bif Nat.beq k i then Gr r i else(k,v)::Gr r i
def St.ir(st:St)(i:Nat):Option ae:=(match look st.eB i with|some v=>some v|none=>look st.js i)
def St.dN(st:St)(o:Nat):Option (List ag):=look st.ci o
def St.dC(st:St)(a:Nat):Nat:=(match look st.Fc a with|some v=>v|none=>0)
def St.arr(st:St)(a:Nat):Option jS:=(match look st.cO a with|some v=>some v|none=>look st.fQ a)
def St.res(st:St)(o j:Nat):ag→ag
 |.vb=>(match dZ st.cF o j with|some l=>l|none=>.any)
 |l=>l
def St.kc(st:St)(o:Nat):Nat→List ag→List ag
 |_,[]=>[]
 |j,l::r=>st.res o j l::St.kc st o (j+1) r
def St.kf(st:St)(i:Nat)(v:ae):St:={st with eB:=(i,v)::st.eB}
def St.qJ(st:St)(o:Nat)(ls:List ag):St:={st with ci:=(o,ls)::st.ci}
def St.gP(st:St)(a:Nat)(A:jS):St:={st with cO:=(a,A)::st.cO}
def ag.dc(k:Bool)(x:Nat):ag→Bool
 |.mT a=>k&&Nat.beq a x
 |.Ei a _ _ _=>k&&Nat.beq a x
 |.Ft a _ _ _ _=>k&&Nat.beq a x
 |.nse a _ _ _ _ _ _ _=>k&&Nat.beq a x
 |.Mo a _ _=>k&&Nat.beq a x
 |.lw o _=>!k&&Nat.beq o x
 |_=>false
def ae.dc(k:Bool)(x:Nat):ae→Bool
 |.one l=>l.dc k x
 |.agg ls=>ls.any (ag.dc k x)
 |.Lm vs=>vs.any fun p=>p.2.any (ag.dc k x)
 |.AH _ ls=>ls.any (ag.dc k x)
def St.dc(st:St)(k:Bool)(x:Nat):Bool:=
 st.eB.any (fun p=>p.2.dc k x)||st.js.any (fun p=>p.2.dc k x)||st.ci.any (fun p=>p.2.any (ag.dc k x))||st.cF.any (fun p=>p.2.2.dc k x) ||
  (!k&&(st.cO.any (fun p=>p.2.Ky x)||st.fQ.any (fun p=>p.2.Ky x)))
def ae.bP:ae→ag
 |.one l=>l
 |_=>.any
def jZ:(t:Ty)→t.nH→List ag
 |.int k,d=>[.eZ (.int k) d]
 |.bool,d=>[.eZ .bool d]
 |.str,d=>[.eZ .str d]
 |.slice t,d=>[.eZ (.slice t) d]
 |.da a b,d=>jZ a d.1++jZ b d.2
 |.one a,d=>jZ a d
 |.arr _ t,l=>l.flatMap (jZ t)
def ag.vK(st:St)(t:Ty):ag→Option t.nH
 |.eZ u d=>wd u t d
 |.nil=>(match t with | .slice _=>some []|_=>none)
 |.mT a=>(match st.arr a with|some A=>(if A.sh then wd (.slice A.t) t A.l else none)|none=>none)
 |_=>none
def Qt{α:Type}(f:List ag→Option (α×List ag)):Nat→List ag→Option (List α×List ag)
 |0,ls=>some ([],ls)
 |n+1,ls=>(match f ls with
  |some (x,r)=>(match Qt f n r with|some (xs,r')=>some (x::xs,r')|none=>none)
  |none=>none)
def py(st:St):(t:Ty)→List ag→Option (t.nH×List ag)
 |.int k,ls=>(match ls with|[]=>none|l::r=>(l.vK st (.int k)).map fun d=>(d,r))
 |.bool,ls=>(match ls with|[]=>none|l::r=>(l.vK st .bool).map fun d=>(d,r))
 |.str,ls=>(match ls with|[]=>none|l::r=>(l.vK st .str).map fun d=>(d,r))
 |.slice t,ls=>(match ls with|[]=>none|l::r=>(l.vK st (.slice t)).map fun d=>(d,r))
 |.da a b,ls=>(match py st a ls with
  |some (x,r)=>(match py st b r with|some (y,r')=>some ((x,y),r')|none=>none)
  |none=>none)
 |.one a,ls=>py st a ls
 |.arr n t,ls=>Qt (py st t) n ls
def ae.vK(st:St)(t:Ty):ae→Option t.nH
 |.one l=>l.vK st t
 |.agg ls=>(bif t.agg then(match py st t ls with|some (d,[])=>some d|_=>none) else none)
 |_=>none
def ag.cell:ag→Bool
 |.any=>false
 |.vV=>false
 |.vb=>false
 |.eZ t _=>!t.agg
 |_=>true
def ag.pR:ag→Bool
 |.vb=>true
 |_=>false
def ae.p8:ae→Option (List ag)
 |.one (.eZ (.da a b) d)=>some (jZ (.da a b) d)
 |.one (.eZ (.one a) d)=>some (jZ (.one a) d)
 |.one (.eZ (.arr n a) d)=>some (jZ (.arr n a) d)
 |.one l=>(bif l.cell then some [l] else none)
 |.agg ls=>some ls
 |_=>none
def St.zk(st:St):ag→Option St
 |.mT a=>(match look st.cO a with
  |some A=>(bif A.sh then some st else bif A.gz then some (st.gP a {A with sh:=true}) else none)
  |none=>(match look st.fQ a with|some A=>(bif A.sh then some st else none)|none=>none))
 |_=>some st
def St.vF(st:St):List ag→Option St
 |[]=>some st
 |l::r=>(match st.zk l with|some st'=>st'.vF r|none=>none)
def ae.qL(st:St):ae→Option St
 |.one l=>st.zk l
 |.agg ls=>st.vF ls
 |.Lm _=>none
 |.AH _ ls=>st.vF ls
def MD:Value→ae
 |.int k n=>.one (.eZ (.int k) n)
 |.bool b=>.one (.eZ .bool b)
 |.string s=>.one (.eZ .str s.data.toList)
 |.slice none 0 0=>.one .nil
 |.pointer none=>.one .KD
 |_=>.one .any
def wC:Value→ag
 |.int k n=>.eZ (.int k) n
 |.bool b=>.eZ .bool b
 |.string s=>.eZ .str s.data.toList
 |.slice none 0 0=>.nil
 |.pointer none=>.KD
 |_=>.any
def Ty.za:Ty→Bool
 |.int _=>true | .bool=>true | .str=>true | .slice _=>false | .da a b=>a.za&&b.za | .one a=>a.za | .arr _ t=>t.za
def Ty.su:Ty→Bool
 |.arr _ _=>false | .da a b=>a.su&&b.su | .one a=>a.su|_=>true
def Sb(t:Ty):Md:=bif t.za then .dV else .bx
def Md.lG:Md→Md→Bool
 |.dV,.dV=>true
 |.bx,.bx=>true
 |.mp,.mp=>true
 |.arr,.arr=>true
 |_,_=>false
def lm:List Nat→List (Nat×jS)→List (Nat×jS)
 |[],l=>l
 |a::r,l=>lm r (Gr l a)
def oo:List Nat→Bool
 |[]=>true
 |x::r=>!eV x r&&oo r
def Mb(a v off:Nat):Nat:=1000000000000000000+a * 1000000+v * 1000+off
def obN(a v:Nat):Nat:=2000000000000000000+a * 1000+v
def HY(nm:Nat→Nat):(t:Ty)→t.nH→Nat→List ag
 |.int k,d,_=>[.eZ (.int k) d]
 |.bool,d,_=>[.eZ .bool d]
 |.str,d,_=>[.eZ .str d]
 |.slice _,_,off=>[.mT (nm off)]
 |.da a b,d,off=>HY nm a d.1 off++HY nm b d.2 (off+a.size)
 |.one a,d,off=>HY nm a d off
 |.arr _ _,_,_=>[]
def zC(nm:Nat→Nat):(t:Ty)→t.nH→Nat→List (Nat×jS)
 |.slice u,d,off=>[(nm off,⟨u,Sb u,false,d⟩)]
 |.da a b,d,off=>zC nm a d.1 off++zC nm b d.2 (off+a.size)
 |.one a,d,off=>zC nm a d off
 |_,_,_=>[]
def Vd(a v sz i:Nat):(t:Ty)→t.nH→Nat→List ag
 |.int k,d,_=>[.eZ (.int k) d]
 |.bool,d,_=>[.eZ .bool d]
 |.str,d,_=>[.eZ .str d]
 |.slice _,_,off=>[.Ft a v sz i off]
 |.da t u,d,off=>Vd a v sz i t d.1 off++Vd a v sz i u d.2 (off+t.size)
 |.one t,d,off=>Vd a v sz i t d off
 |.arr _ _,_,_=>[]
def Dq:(t:Ty)→t.nH→Nat→Option Int
 |.slice _,d,0=>some (d.length:Int)
 |.da a b,d,off=>bif Nat.blt off a.size then Dq a d.1 off else Dq b d.2 (off - a.size)
 |.one a,d,off=>Dq a d off
 |_,_,_=>none
def Ul(st:St)(u:Ty):ag→Option (List u.nH×List Nat)
 |.nil=>some ([],[])
 |.mT a=>(match look st.cO a with
  |some A=>(bif A.sh||!A.md.lG (Sb u)||eV a st.pin ||(look st.fQ a).isSome then none else(match wd (.slice A.t) (.slice u) A.l with|some l=>some (l,[a])|none=>none))
  |none=>none)
 |_=>none
def H0(st:St):(t:Ty)→List ag→Option (t.nH×List ag×List Nat)
 |.int k,ls=>(match ls with|[]=>none|l::r=>(l.vK st (.int k)).map fun d=>(d,r,[]))
 |.bool,ls=>(match ls with|[]=>none|l::r=>(l.vK st .bool).map fun d=>(d,r,[]))
 |.str,ls=>(match ls with|[]=>none|l::r=>(l.vK st .str).map fun d=>(d,r,[]))
 |.slice u,ls=>(match ls with|[]=>none|l::r=>(Ul st u l).map fun p=>(p.1,r,p.2))
 |.da a b,ls=>(match H0 st a ls with
  |some (x,r,c)=>(match H0 st b r with|some (y,r',c')=>some ((x,y),r',c++c')|none=>none)
  |none=>none)
 |.one a,ls=>H0 st a ls
 |.arr _ _,_=>none
def qQ(a v sz:Nat):ag→ag
 |.Ft a' v' sz' i' off=>bif Nat.beq a' a&&Nat.beq v' v&&Nat.beq sz' sz&&Nat.blt off sz then .mT (Mb a v off) else .Ft a' v' sz' i' off
 |l=>l
def xy(a v sz i:Nat):List ag→Bool
 |[]=>true
 |.Ft a' v' sz' i' off::r=>bif Nat.beq a' a&&Nat.beq v' v&&Nat.beq sz' sz&&Nat.blt off sz then Nat.beq i' i&&xy a v sz i r else xy a v sz i r
 |_::r=>xy a v sz i r
def UN(a v sz i:Nat):List (Nat×List ag)→Bool
 |[]=>true
 |p::r=>xy a v sz i p.2&&UN a v sz i r
def pZ{α:Type}:List (Nat×α)→List Nat→List (Nat×α)
 |[],_=>[]
 |p::r,Mk=>bif eV p.1 Mk then pZ r Mk else p::pZ r (p.1::Mk)
section nest
variable {R:Type}
def Gc(st:St)(a i o:Nat)(K:St→Option R):Option R:=
 match look st.cO a with
 |some A=>(match A.md with
  |.bx=>(bif A.sh ||(st.dN o).isSome||st.dc false o||!A.t.su then none else
   (bC A.l (i:Int)).bind fun x=>
    (bif oo ((zC (Mb a (st.dC a)) A.t x 0).map (·.1))&&(zC (Mb a (st.dC a)) A.t x 0).all (fun p=>(st.arr p.1).isNone&&!st.dc true p.1) then
     K {st with cO:=(a,{A with md:=.DK i o})::(zC (Mb a (st.dC a)) A.t x 0++st.cO),ci:=(o,HY (Mb a (st.dC a)) A.t x 0)::st.ci} else none))
  |_=>none)
 |none=>none
def BY(st:St)(a sz i:Nat)(K:St→Option R):Option R:=
 bif UN a (st.dC a) sz i (pZ st.ci []) then K {st with ci:=(pZ st.ci []).map fun p=>(p.1,p.2.map (qQ a (st.dC a) sz))} else none
def Bj(st:St)(a o:Nat)(K:St→Option R):Option R:=
 match look st.cO a,st.dN o with
 |some A,some ls=>(match A.md with
  |.DK i o'=>(bif Nat.beq o o'&&!A.sh then(match H0 st A.t ls with
   |some (x,[],c)=>(bif oo c&&!eV a c then
    K {st with cO:=(a,⟨A.t,.bx,false,A.l.set i x⟩)::lm (a::c) st.cO,ci:=Gr st.ci o,Fc:=(a,st.dC a+1)::st.Fc} else none)
   |_=>none) else none)
  |_=>none)
 |_,_=>none
end nest
inductive TD where
 |int (k:IntKind)|bool|str|slice (e:TypeId)|struct (fs:List (Nat×TypeId))|lw (e:TypeId)|arr (n:Nat) (e:TypeId)|mp (k v:TypeId)|aaA
structure TI where
 size:Nat
 bytes:Nat
 ty:Option Ty
 iQ:TD
 zero:List Value
inductive qf where
 |o (ob off n:Nat)|a (ar:Nat)|k (ob:Nat)|all
structure iF where
 run:{R:Type}→Nat→List ae→St→(ae→St→Option R)→(ae→St→Option R)→Option R
 LP:List ae→St→List qf
structure lK where
 run:{R:Type}→St→(Exit→St→Option R)→(ae→St→Option R)→Option R
structure GA where
 t:Ty
 l:List t.nH
structure tn where
 gt:Nat→Option GA
 iE:Nat→Option TI
 BU:Nat→Option iF
 oB:Nat→Option lK
 aay:Nat→Nat
def ev(E:tn)(st:St):Operand→ae
 |.tmp t=>(match st.ir t with|some v=>v|none=>.one .any)
 |.const v=>MD v
 |.func f=>.one (.fn f)
 |.global g=>(match E.gt g with|some D=>.one (.ga D.t D.l)|none=>.one .any)
def oZ{R:Type}(dst:Option Tmp)(v:ae)(st:St)(K:St→Option R):Option R:=
 match dst with
 |none=>K st
 |some d=>bif (look st.js d).isSome||Nat.ble st.n d then none else K (st.kf d v)
def qM(l:List ag)(off n:Nat):Option (List ag):=bif Nat.ble (off+n) l.length then some ((l.drop off).take n) else none
def mK{α:Type}(l:List α)(off:Nat)(v:List α):List α:=l.take off++(v++l.drop (off+v.length))
def ER(agg:Bool)(ls:List ag):ae:=bif agg then .agg ls else(match ls with|[l]=>.one l|_=>.one .any)
def TD.agg:TD→Bool
 |.struct _=>true
 |.arr _ _=>true
 |_=>false
def Kz:List Kd→List ag→Bool
 |[],[]=>true
 |.int k::r,.eZ (.int k') _::s=>decide (k=k')&&Kz r s
 |.bool::r,.eZ .bool _::s=>Kz r s
 |.str::r,.eZ .str _::s=>Kz r s
 |_,_=>false
def abH:ag→ag→Option Bool
 |.eZ (.int _) a,.eZ (.int _) b=>some (a==b)
 |.eZ .bool a,.eZ .bool b=>some (a==b)
 |.eZ .str a,.eZ .str b=>some (a==b)
 |_,_=>none
def RP:List ag→List ag→Option Bool
 |[x],[y]=>abH x y
 |x::r,y::s=>(match abH x y,RP r s with|some a,some b=>some (a&&b)|_,_=>none)
 |_,_=>none
section exec
variable (E:tn) {R:Type}
def zd(T:TypeId)(x:ae)(st:St)(K:ae→St→Option R):Option R:=
 match E.iE T with
 |none=>none
 |some ti=>
  match x.bP with
  |.lw o off=>(match st.dN o with
   |some ls=>(match qM (st.kc o 0 ls) off ti.size with|some c=>K (ER ti.iQ.agg c) st|none=>none)
   |none=>none)
  |.PO t d off=>(match qM (jZ t d) off ti.size with|some c=>K (ER ti.iQ.agg c) st|none=>none)
  |.ga t l=>(match ti.iQ with
   |.arr n _=>(bif Nat.beq l.length n&&Nat.beq ti.size (n * t.size) then K (.one (.eZ (.arr n t) l)) st else none)
   |_=>none)
  |.Ei a sz i off=>(match st.arr a with
   |some A=>(bif A.sh||!Nat.beq sz A.t.size then none else(match A.md with
    |.dV=>(bC A.l (i:Int)).bind fun x=>match qM (jZ A.t x) off ti.size with|some c=>K (ER ti.iQ.agg c) st|none=>none
    |.bx=>(bif A.t.su then(bC A.l (i:Int)).bind fun x=>match qM (Vd a (st.dC a) A.t.size i A.t x 0) off ti.size with|some c=>K (ER ti.iQ.agg c) st|none=>none else none)
    |_=>none))
   |none=>none)
  |.Mo a k _=>(match st.arr a with
   |some A=>(bif !A.sh&&Md.lG A.md .arr&&Nat.beq A.t.size 1&&!A.t.agg&&Nat.beq ti.size 1&&!ti.iQ.agg then(bC A.l (k:Int)).bind fun x=>K (.one (.eZ A.t x)) st else none)
   |none=>none)
  |_=>none
def xP(T:TypeId)(x v:ae)(st:St)(K:St→Option R):Option R:=
 match E.iE T,v.p8 with
 |some ti,some vs=>
  bif Nat.beq vs.length ti.size&&vs.all ag.cell then
   (match x.bP with
   |.lw o off=>(match st.dN o with
    |some ls=>(match qM ls off ti.size with
     |some c=>(bif c.any ag.pR then none else K (st.qJ o (mK ls off vs)))
     |none=>none)
    |none=>none)
   |.Ei a sz i off=>(match st.vF vs with
    |none=>none
    |some st'=>(match look st'.cO a with
     |some A=>(bif A.bx||A.sh||!Nat.beq sz A.t.size then none else
      (bC A.l (i:Int)).bind fun x=>(bif Nat.ble (off+ti.size) A.t.size then(match py st' A.t (mK (jZ A.t x) off vs) with
       |some (x',[])=>K (st'.gP a {A with l:=A.l.set i x' })
       |_=>none) else none))
     |none=>none))
   |_=>none)
  else none
 |_,_=>none
def nX(T:TypeId)(x:ae)(f:Nat)(st:St)(K:ae→St→Option R):Option R:=
 match E.iE T with
 |some {iQ:=.struct fs,.. }=>(match fs[f]? with
  |some (Zt,ft)=>(match E.iE ft with
   |some fi=>(bif Nat.beq fi.size 0 then none else match x.bP with
    |.lw o off=>K (.one (.lw o (off+Zt))) st
    |.PO t d off=>K (.one (.PO t d (off+Zt))) st
    |.Ei a sz i off=>K (.one (.Ei a sz i (off+Zt))) st
    |_=>none)
   |none=>none)
  |none=>none)
 |_=>none
def xN(T:TypeId)(x:ae)(f:Nat)(st:St)(K:ae→St→Option R):Option R:=
 match E.iE T,x.p8 with
 |some {iQ:=.struct fs,.. },some ls=>(match fs[f]? with
  |some (Zt,ft)=>(match E.iE ft with
   |some fi=>(match qM ls Zt fi.size with|some c=>K (ER fi.iQ.agg c) st|none=>none)
   |none=>none)
  |none=>none)
 |_,_=>none
def ae.isAgg:ae→Bool
 |.agg _=>true
 |.one (.eZ (.da _ _) _)=>true
 |.one (.eZ (.one _) _)=>true
 |.one (.eZ (.arr _ _) _)=>true
 |_=>false
def ae.F7:ae→Option (IntKind×Int)
 |.one (.eZ (.int k) d)=>some (k,d)
 |_=>none
def ae.Gm:ae→Option Bool
 |.one (.eZ .bool d)=>some d
 |_=>none
def ae.OM:ae→Option ab
 |.one (.eZ .str d)=>some d
 |_=>none
def mJ(T:TypeId)(x i:ae)(st:St)(K:ae→St→Option R):Option R:=
 match E.iE T,i.F7 with
 |some {iQ:=.slice e,.. },some (_,n)=>(match E.iE e with
  |some ei=>(match x.bP with
   |.eZ (.slice t) l=>(bif Nat.beq ei.size t.size then(bC l n).bind fun d=>K (.one (.PO t d 0)) st else none)
   |.mT a=>(match st.arr a with
    |some A=>(bif Nat.beq ei.size A.t.size&&!A.Vn then(bC A.l n).bind fun d=>(bif A.sh then K (.one (.PO A.t d 0)) st else K (.one (.Ei a A.t.size n.toNat 0)) st) else none)
    |none=>none)
   |_=>none)
  |none=>none)
 |some {iQ:=.arr m e,.. },some (_,n)=>(match E.iE e with
  |some ei=>(match x.bP with
   |.mT a=>(match st.arr a with
    |some A=>(bif !A.sh&&Md.lG A.md .arr then(bif decide (0≤n)&&decide (n<(m:Int)) then K (.one (.Mo a (n.toNat * ei.size) ei.size)) st else none) else none)
    |none=>none)
   |.Mo a k _=>(bif decide (0≤n)&&decide (n<(m:Int)) then K (.one (.Mo a (k+n.toNat * ei.size) ei.size)) st else none)
   |_=>none)
  |none=>none)
 |_,_=>none
def xO(T:TypeId)(x i:ae)(st:St)(K:ae→St→Option R):Option R:=
 match E.iE T with
 |some {iQ:=.str,.. }=>(match x.OM,i.F7 with
  |some s,some (_,n)=>(bC s n).bind fun b=>K (.one (.eZ (.int .u8) (b.toNat:Int))) st
  |_,_=>none)
 |some {iQ:=.arr m e,.. }=>(match x,i.F7,E.iE e with
  |.one (.eZ (.arr m' t) l),some (_,n),some ei=>(bif Nat.beq m m'&&Nat.beq ei.size t.size&&(bif t.agg then ei.iQ.agg else !ei.iQ.agg) then(bC l n).bind fun d=>K (.one (.eZ t d)) st else none)
  |_,_,_=>none)
 |_=>none
def nA(d:Int):Option ae→Option Int
 |none=>some d
 |some v=>v.F7.map (·.2)
def uv(T:TypeId)(dst:Nat)(x:ae)(lo hi mx:Option ae)(st:St)(K:ae→St→Option R):Option R:=
 match E.iE T,mx with
 |some {iQ:=.str,.. },none=>(match x.OM with
  |some s=>(match nA 0 lo,nA (s.length:Int) hi with
   |some i,some j=>(sub s i j).bind fun r=>K (.one (.eZ .str r)) st
   |_,_=>none)
  |none=>none)
 |some {iQ:=.slice e,.. },none=>(match E.iE e with
  |some ei=>(match x.bP with
   |.eZ (.slice t) l=>(bif Nat.beq ei.size t.size then(match nA 0 lo,nA (l.length:Int) hi with
    |some i,some j=>(sub l i j).bind fun r=>K (.one (.eZ (.slice t) r)) st
    |_,_=>none) else none)
   |.mT a=>(match st.arr a with
    |some A=>(bif Nat.beq ei.size A.t.size then
     (bif A.sh then(match nA 0 lo,nA (A.l.length:Int) hi with
      |some i,some j=>(sub A.l i j).bind fun r=>K (.one (.eZ (.slice A.t) r)) st
      |_,_=>none)
     else(match lo,hi with
      |none,some h=>(match h.F7 with
       |some (_,j)=>(bif A.bx ||(look st.cO a).isNone ||(look st.fQ a).isSome ||(st.arr dst).isSome||st.dc true dst||eV a st.pin then none else(sub A.l 0 j).bind fun r=>
        K (.one (.mT dst)) {st with cO:=(dst,{A with l:=r})::Gr st.cO a})
       |none=>none)
      |_,_=>none)) else none)
    |none=>none)
   |_=>none)
  |none=>none)
 |_,_=>none
def Lb(op:BinOp)(T:TypeId)(x y:ae)(K:ae→Option R):Option R:=
 match x,y with
 |.one (.eZ (.int k) a),.one (.eZ (.int k') b)=>
  (match op with
  |.shl=>bif decide (b<0) then none else K (.one (.eZ (.int k) (k.wrap (a * 2 ^ (min b.toNat k.bits)))))
  |.shr=>bif decide (b<0) then none else K (.one (.eZ (.int k) (a.fdiv (2 ^ (min b.toNat k.bits)))))
  |_=>bif !decide (k=k') then none else
   (match op with
   |.add=>K (.one (.eZ (.int k) (k.wrap (a+b))))
   |.sub=>K (.one (.eZ (.int k) (k.wrap (a - b))))
   |.mul=>K (.one (.eZ (.int k) (k.wrap (a * b))))
   |.quo=>bif decide (b=0) then none else K (.one (.eZ (.int k) (k.wrap (a.tdiv b))))
   |.rem=>bif decide (b=0) then none else K (.one (.eZ (.int k) (a.tmod b)))
   |.and=>K (.one (.eZ (.int k) (PW .and k a b)))
   |.or=>K (.one (.eZ (.int k) (PW .or k a b)))
   |.xor=>K (.one (.eZ (.int k) (PW .xor k a b)))
   |.eql=>K (.one (.eZ .bool (a==b)))
   |.neq=>K (.one (.eZ .bool (a != b)))
   |.lss=>K (.one (.eZ .bool (decide (a<b))))
   |.leq=>K (.one (.eZ .bool (decide (a≤b))))
   |.gtr=>K (.one (.eZ .bool (decide (a > b))))
   |.geq=>K (.one (.eZ .bool (decide (a≥b))))
   |_=>none))
 |.one (.eZ .str a),.one (.eZ .str b)=>
  (match op with
  |.add=>(bD a b).bind fun c=>K (.one (.eZ .str c))
  |.eql=>K (.one (.eZ .bool (a==b)))
  |.neq=>K (.one (.eZ .bool (!(a==b))))
  |_=>none)
 |.one (.eZ .bool a),.one (.eZ .bool b)=>
  (match E.iE T,op with
  |some {iQ:=.bool,.. },.eql=>K (.one (.eZ .bool (a==b)))
  |some {iQ:=.bool,.. },.neq=>K (.one (.eZ .bool (!(a==b))))
  |_,_=>none)
 |x,y=>(match E.iE T,x.p8,y.p8 with
  |some ti,some ls,some ms=>(match ti.ty.bind Kv with
   |some ks=>(bif ti.iQ.agg&&x.isAgg&&y.isAgg&&Kz ks ls&&Kz ks ms then(match op,RP ls ms with
    |.eql,some e=>K (.one (.eZ .bool e))
    |.neq,some e=>K (.one (.eZ .bool (!e)))
    |_,_=>none) else none)
   |none=>none)
  |_,_,_=>none)
def Ui(op:UnOp)(x:ae)(K:ae→Option R):Option R:=
 match op,x with
 |.neg,.one (.eZ (.int k) a)=>K (.one (.eZ (.int k) (k.wrap (0 - a))))
 |.not,.one (.eZ .bool b)=>K (.one (.eZ .bool (!b)))
 |_,_=>none
def pW(S D:TypeId)(x:ae)(st:St)(K:ae→St→Option R):Option R:=
 match E.iE S,E.iE D with
 |some si,some di=>(match si.iQ,di.iQ,x with
  |_,.int k,.one (.eZ (.int _) n)=>K (.one (.eZ (.int k) (k.wrap n))) st
  |.str,.str,.one (.eZ .str s)=>K (.one (.eZ .str s)) st
  |.slice e,.str,.one l=>(match E.iE e,l with
   |some {iQ:=.int .u8,.. },.eZ (.slice (.int .u8)) l=>K (.one (.eZ .str (l.map fun n=>UInt8.ofNat n.toNat))) st
   |some {iQ:=.int .u8,.. },.mT a=>(match st.arr a with
    |some A=>(bif A.sh||A.gz then(match wd (.slice A.t) (.slice (.int .u8)) A.l with
     |some l=>K (.one (.eZ .str (l.map fun n=>UInt8.ofNat n.toNat))) st
     |none=>none) else none)
    |none=>none)
   |_,_=>none)
  |_,_,_=>none)
 |_,_=>none
def vd(fs:List (Nat×TypeId))(zs:List ag):List (Nat×ae)→Option (List ag)
 |[]=>some zs
 |(i,v)::r=>(match fs[i]?,v.p8 with
  |some (off,t),some ls=>(match E.iE t with
   |some ti=>(bif Nat.beq ls.length ti.size&&Nat.ble (off+ls.length) zs.length then vd fs (mK zs off ls) r else none)
   |none=>none)
  |_,_=>none)
def xM(T:TypeId)(iq:List (Nat×ae))(st:St)(K:ae→St→Option R):Option R:=
 match E.iE T with
 |some ti=>(match ti.iQ with
  |.struct fs=>(bif fs.all fun p=>(E.iE p.2).isSome then(match vd E fs (ti.zero.map wC) iq with|some ls=>K (.agg ls) st|none=>none) else none)
  |_=>none)
 |none=>none
def ni(t:Ty):Nat→List (Nat×ae)→St→Option (List t.nH×St)
 |_,[],st=>some ([],st)
 |i,(j,v)::r,st=>bif Nat.beq i j then(match v.qL st with
  |some st'=>(match v.vK st' t with
   |some d=>(match ni t (i+1) r st' with|some (l,ahT)=>some (d::l,ahT)|none=>none)
   |none=>none)
  |none=>none) else none
def tn.KY(dst:Nat):Bool:=Nat.beq (E.aay dst) 9999
def uA(t:Ty):Nat→List (Nat×ae)→St→Option (List t.nH×List Nat)
 |_,[],_=>some ([],[])
 |i,(j,v)::r,st=>bif Nat.beq i j then(match v.p8 with
  |some ls=>(match H0 st t ls with
   |some (d,[],c)=>(match uA t (i+1) r st with|some (l,c')=>some (d::l,c++c')|none=>none)
   |_=>none)
  |none=>none) else none
def lc(T:TypeId)(dst len:Nat)(iq:List (Nat×ae))(st:St)(K:ae→St→Option R):Option R:=
 match E.iE T with
 |some {iQ:=.slice e,.. }=>(match E.iE e with
  |some ei=>(match ei.ty with
   |some t=>(bif Nat.beq len iq.length&&Nat.beq ei.size t.size&&Nat.ble (len * ei.size) 16777216 then
    (match uA t 0 iq st,st.arr dst with
    |some (l,c),none=>(bif st.dc true dst||!oo c then none else K (.one (.mT dst)) {st with cO:=(dst,⟨t,.bx,false,l⟩)::lm c st.cO})
    |_,_=>none) else none)
   |none=>none)
  |none=>none)
 |_=>none
def mF(T:TypeId)(dst len:Nat)(iq:List (Nat×ae))(st:St)(K:ae→St→Option R):Option R:=
 match E.iE T with
 |some {iQ:=.slice e,.. }=>(match E.iE e with
  |some ei=>(match ei.ty with
   |some t=>(bif Nat.beq len iq.length&&Nat.beq ei.size t.size&&Nat.ble (len * ei.size) 16777216 then
    (match ni t 0 iq st with
    |some (l,st')=>(match st'.arr dst with
     |none=>(bif st'.dc true dst then none else K (.one (.mT dst)) (st'.gP dst ⟨t,.dV,false,l⟩))
     |some _=>none)
    |none=>none) else none)
   |none=>none)
  |none=>none)
 |_=>none
def qa:(t:Ty)→t.nH
 |.int _=>0 | .bool=>false | .str=>[] | .slice _=>[] | .da a b=>(qa a,qa b) | .one a=>qa a | .arr n t=>List.replicate n (qa t)
def Ni(f:List Value→Option (List Value)):Nat→List Value→Option (List Value)
 |0,l=>some l
 |n+1,l=>(match f l with|some r=>Ni f n r|none=>none)
def tX:(t:Ty)→List Value→Option (List Value)
 |.int k,.int k' n::r=>bif decide (k=k')&&decide (n=0) then some r else none
 |.bool,.bool false::r=>some r
 |.str,.string s::r=>(match s.data.toList with|[]=>some r|_=>none)
 |.slice _,.slice none 0 0::r=>some r
 |.da a b,l=>(match tX a l with|some r=>tX b r|none=>none)
 |.one a,l=>tX a l
 |.arr n t,l=>Ni (tX t) n l
 |_,_=>none
def nY(T:TypeId)(dst:Nat)(len cap:ae)(st:St)(K:ae→St→Option R):Option R:=
 match E.iE T,len.F7,cap.F7 with
 |some {iQ:=.slice e,.. },some (.i64,n),some (.i64,c)=>(match E.iE e with
  |some ei=>(match ei.ty,st.arr dst with
   |some t,none=>(bif Nat.beq ei.size t.size&&Nat.ble ei.bytes 16384&&!st.dc true dst&&(match tX t ei.zero with|some []=>true|_=>false) then
    (mkl c (qa t)).bind fun z=>(sub z 0 n).bind fun l=>K (.one (.mT dst)) (st.gP dst ⟨t,bif E.KY dst then .bx else .dV,false,l⟩) else none)
   |_,_=>none)
  |none=>none)
 |_,_,_=>none
def GC(T:TypeId)(o:Nat)(ls:List ag)(st:St)(K:ae→St→Option R):Option R:=
 match E.iE T,st.dN o with
 |some ti,none=>(bif Nat.beq ls.length ti.size&&!ls.any ag.pR&&!st.dc false o&&!ls.any (ag.dc false o) then K (.one (.lw o 0)) (st.qJ o ls) else none)
 |_,_=>none
def Z4{α:Type}:Option (List α)→Bool
 |some []=>true
 |_=>false
def sw(T:TypeId)(dst:Nat)(st:St)(K:ae→St→Option R):Option R:=
 match E.iE T,st.arr dst with
 |some ti,none=>(match ti.iQ with
  |.arr _ e=>(match (E.iE e).bind fun ei=>(match ei.iQ with | .arr _ e'=>(E.iE e').bind (·.ty)|_=>ei.ty) with
   |some t=>(bif Nat.beq t.size 1&&!t.agg&&!st.dc true dst&&Z4 (Ni (tX t) ti.size ti.zero) then
    K (.one (.mT dst)) (st.gP dst ⟨t,.arr,false,List.replicate ti.size (qa t)⟩) else none)
   |none=>none)
  |_=>none)
 |_,_=>none
def lenOf(st:St):ag→Option Int
 |.eZ .str s=>some (s.length:Int)
 |.eZ (.slice _) l=>some (l.length:Int)
 |.nil=>some 0
 |.mT a=>(match st.arr a with|some A=>(bif A.Vn then none else some (A.l.length:Int))|none=>none)
 |_=>none
def sx(T:TypeId)(dst:Nat)(s x:ae)(st:St)(K:ae→St→Option R):Option R:=
 match E.iE T with
 |some {iQ:=.slice e,.. }=>(match E.iE e with
  |some ei=>(match ei.ty with
   |none=>none
   |some t=>(bif Nat.beq ei.size t.size&&Nat.ble ei.bytes 16384 then
    (match x.qL st with
    |none=>none
    |some wU=>(match x.vK wU (.slice t),wU.arr dst with
     |some m,none=>(bif wU.dc true dst then none else match s.bP with
      |.nil=>(bD ([]:List t.nH) m).bind fun r=>K (.one (.mT dst)) (wU.gP dst ⟨t,.dV,false,r⟩)
      |.mT a=>(match look wU.cO a with
       |some A=>(bif A.sh||A.bx ||(look wU.fQ a).isSome||eV a wU.pin then none else
        (match wd (.slice A.t) (.slice t) A.l with
        |some l=>(bD l m).bind fun r=>K (.one (.mT dst)) {wU with cO:=(dst,⟨t,.dV,false,r⟩)::Gr wU.cO a}
        |none=>none))
       |none=>none)
      |_=>none)
     |_,_=>none)) else none))
  |none=>none)
 |_=>none
def rp(T:TypeId)(dst:Nat)(s:ae)(b:Nat)(st:St)(K:ae→St→Option R):Option R:=
 match E.iE T with
 |some {iQ:=.slice e,.. }=>(match E.iE e with
  |some ei=>(match ei.ty,look st.cO b,st.arr dst with
   |some t,some B,none=>(bif Nat.beq ei.size t.size&&Nat.ble ei.bytes 16384&&!(B.sh||!Md.lG B.md .bx ||(look st.fQ b).isSome||eV b st.pin||st.dc true dst) then
    (match wd (.slice B.t) (.slice t) B.l with
    |some m=>(match s.bP with
     |.nil=>(bD ([]:List t.nH) m).bind fun r=>K (.one (.mT dst)) {st with cO:=(dst,⟨t,.bx,false,r⟩)::lm [b] st.cO}
     |.mT a=>(match look st.cO a with
      |some A=>(bif A.sh||!Md.lG A.md .bx ||(look st.fQ a).isSome||eV a st.pin||Nat.beq a b then none else
       (match wd (.slice A.t) (.slice t) A.l with
       |some l=>(bD l m).bind fun r=>K (.one (.mT dst)) {st with cO:=(dst,⟨t,.bx,false,r⟩)::lm [a,b] st.cO}
       |none=>none))
      |none=>none)
     |_=>none)
    |none=>none) else none)
   |_,_,_=>none)
  |none=>none)
 |_=>none
def SE(st:St)(a sz:Nat):Bool:=match look st.cO a with|some A=>Nat.beq sz A.t.size|none=>false
def Zi(st:St)(x:ae):Option Nat:=
 match x.bP with
 |.mT b=>(match look st.cO b with|some B=>(bif !B.sh&&Md.lG B.md .bx then some b else none)|none=>none)
 |_=>none
def rq(T:TypeId)(dst:Nat)(s x:ae)(st:St)(K:ae→St→Option R):Option R:=
 match Zi st x with
 |some b=>rp E T dst s b st K
 |none=>(match s.bP with
  |.Ft a v sz i off=>(bif Nat.beq v (st.dC a)&&Nat.blt off sz&&SE st a sz then Gc st a i (obN a v) fun s1=>BY s1 a sz i fun s2=>sx E T dst (.one (.mT (Mb a v off))) x s2 K else none)
  |_=>sx E T dst s x st K)
def ag.Od(a:Nat):ag→Bool
 |.Ft a' _ _ _ _=>Nat.beq a' a
 |_=>false
def Yl(st:St):List ae→List qf
 |v::_=>(match v.bP with
  |.Ft a v _ _ off=>.a (Mb a v off)::(st.ci.filter fun p=>p.2.any (ag.Od a)).map fun p=>.k p.1
  |_=>[])
 |[]=>[]
def uw(T:TypeId)(a sz i off:Nat)(v:ae)(st:St)(K:St→Option R):Option R:=
 match E.iE T,v.p8,look st.cO a with
 |some ti,some vs,some A=>
  bif Nat.beq vs.length ti.size&&vs.all ag.cell&&Nat.beq sz A.t.size then
   (match A.md with
   |.bx=>Gc st a i (obN a (st.dC a)) fun s1=>BY s1 a sz i fun s2=>
    (bif xy a (st.dC a) sz i vs then(match s2.dN (obN a (st.dC a)) with
     |some ls=>(match qM ls off ti.size with
      |some c=>(bif c.any ag.pR then none else Bj (s2.qJ (obN a (st.dC a)) (mK ls off (vs.map (qQ a (st.dC a) sz)))) a (obN a (st.dC a)) K)
      |none=>none)
     |none=>none) else none)
   |.DK j o=>(bif Nat.beq j i&&Nat.ble 10000 o then(match st.dN o with
     |some ls=>(match qM ls off ti.size with
      |some c=>(bif c.any ag.pR then none else Bj (st.qJ o (mK ls off vs)) a o K)
      |none=>none)
     |none=>none) else none)
   |_=>none)
  else none
 |_,_,_=>none
def WU(st:St)(x:ae):Option (Nat×Nat×Nat×Nat):=
 match x.bP with
 |.Ei a sz i off=>(match look st.cO a with
  |some A=>(bif A.sh then none else match A.md with | .bx=>some (a,sz,i,off) | .DK _ _=>some (a,sz,i,off)|_=>none)
  |none=>none)
 |_=>none
def ux(T:TypeId)(a k:Nat)(v:ae)(st:St)(K:St→Option R):Option R:=
 match E.iE T,v.p8,look st.cO a with
 |some ti,some [l],some A=>
  bif Nat.beq ti.size 1&&l.cell&&!A.sh&&Md.lG A.md .arr&&Nat.beq A.t.size 1&&!A.t.agg&&A.t.za then
   (match l.vK st A.t with
   |some d=>(bC A.l (k:Int)).bind fun _=>K (st.gP a ⟨A.t,.arr,false,A.l.set k d⟩)
   |none=>none)
  else none
 |_,_,_=>none
def adN(x:ae):Option (Nat×Nat):=match x.bP with | .Mo a k _=>some (a,k)|_=>none
def uy(T:TypeId)(x v:ae)(st:St)(K:St→Option R):Option R:=
 match WU st x with
 |some (a,sz,i,off)=>uw E T a sz i off v st K
 |none=>(match adN x with
  |some (a,k)=>ux E T a k v st K
  |none=>xP E T x v st K)
def xD(k:IntKind)(f:Int→Int→Int)(a:Int):List ae→Option Int
 |[]=>some a
 |v::r=>(match v.F7 with|some (_,b)=>xD k f (f a b) r|none=>none)
def nL(b:Builtin)(dst:Nat)(argTypes:List TypeId)(vs:List ae)(st:St)(K:ae→St→Option R):Option R:=
 match b,vs with
 |.len,[v]=>(match (argTypes[0]?).bind E.iE with
  |some {iQ:=.str,.. }=>(match v.OM with|some s=>K (.one (.eZ (.int .i64) (s.length:Int))) st|none=>none)
  |some {iQ:=.slice _,.. }=>(match v.bP with
   |.Ft a vr sz i off=>(match st.arr a with
    |some A=>(bif A.sh||!Md.lG A.md .bx||!Nat.beq vr (st.dC a)||!Nat.beq sz A.t.size||!A.t.su then none else(bC A.l (i:Int)).bind fun x=>match Dq A.t x off with|some n=>K (.one (.eZ (.int .i64) n)) st|none=>none)
    |none=>none)
   |_=>(match lenOf st v.bP,v.OM with|some n,none=>K (.one (.eZ (.int .i64) n)) st|_,_=>none))
  |_=>none)
 |.append,[s,x]=>(match argTypes with
  |[t,u]=>(bif Nat.beq t u then rq E t dst s x st K else none)
  |_=>none)
 |.min,v::r=>(match v.F7 with
  |some (k,a)=>(match xD k (fun x y=>bif decide (y<x) then y else x) a r with|some n=>K (.one (.eZ (.int k) n)) st|none=>none)
  |none=>none)
 |.max,v::r=>(match v.F7 with
  |some (k,a)=>(match xD k (fun x y=>bif decide (y > x) then y else x) a r with|some n=>K (.one (.eZ (.int k) n)) st|none=>none)
  |none=>none)
 |_,_=>none
abbrev mpT:Ty:=.da .str (.int .i64)
def qE:List (ab×Int)→ab→Int
 |[],_=>0
 |p::r,s=>bif decide (p.1=s) then p.2 else qE r s
def ro:List (ab×Int)→ab→Int→List (ab×Int)
 |[],s,v=>[(s,v)]
 |p::r,s,v=>bif decide (p.1=s) then(s,v)::r else p::ro r s v
def K8(E:tn)(T:TypeId):Bool:=match E.iE T with|some {iQ:=.mp _ _,.. }=>true|_=>false
def ru(T:TypeId)(dst:Nat)(st:St)(K:ae→St→Option R):Option R:=
 match st.arr dst with
 |none=>(bif K8 E T&&!st.dc true dst then K (.one (.mT dst)) (st.gP dst ⟨mpT,.mp,false,[]⟩) else none)
 |some _=>none
def uu(T:TypeId)(x k:ae)(st:St)(K:ae→St→Option R):Option R:=
 match x.bP,k.OM with
 |.mT a,some s=>(match st.arr a with
  |some A=>(bif K8 E T&&!A.sh&&Md.lG A.md .mp then(match wd (.slice A.t) (.slice mpT) A.l with
   |some l=>K (.one (.eZ (.int .i64) (qE l s))) st
   |none=>none) else none)
  |none=>none)
 |_,_=>none
def nZ(T:TypeId)(x k v:ae)(st:St)(K:ae→St→Option R):Option R:=
 match x.bP,k.OM,v.F7 with
 |.mT a,some s,some (.i64,n)=>(match look st.cO a with
  |some A=>(bif K8 E T&&!A.sh&&Md.lG A.md .mp then(match wd (.slice A.t) (.slice mpT) A.l with
   |some l=>K (.one .vV) (st.gP a ⟨mpT,.mp,false,ro l s n⟩)
   |none=>none) else none)
  |none=>none)
 |_,_,_=>none
def IQ:Option Tmp→Nat
 |some d=>d
 |none=>0
def mr(o:Oper)(st:St)(K:ae→St→Option R)(KP:ae→St→Option R):Option R:=
 match o.op with
 |.move x=>K (ev E st x) st
 |.assign x=>K (ev E st x) st
 |.pick c a b=>(match (ev E st c).Gm with|some c=>bif c then K (ev E st a) st else K (ev E st b) st|none=>none)
 |.nilCheck x=>(match (ev E st x).bP with
  |.lw _ _=>K (ev E st x) st
  |.PO _ _ _=>K (ev E st x) st
  |.Ei _ _ _ _=>K (ev E st x) st
  |_=>none)
 |.alloc T=>bif E.KY (IQ o.dst) then sw E T (IQ o.dst) st K else(match E.iE T with|some ti=>GC E T (E.aay (IQ o.dst)) (ti.zero.map wC) st K|none=>none)
 |.box T x=>(match (ev E st x).p8 with|some ls=>GC E T (E.aay (IQ o.dst)) ls st K|none=>none)
 |.build T iq=>xM E T (iq.toList.map fun p=>(p.1,ev E st p.2)) st K
 |.buildSlice T len iq=>bif E.KY (IQ o.dst) then lc E T (IQ o.dst) len (iq.toList.map fun p=>(p.1,ev E st p.2)) st K else mF E T (IQ o.dst) len (iq.toList.map fun p=>(p.1,ev E st p.2)) st K
 |.load T x=>zd E T (ev E st x) st K
 |.store T x v=>uy E T (ev E st x) (ev E st v) st fun st'=>K (.one .vV) st'
 |.binOp op T x y _=>Lb E op T (ev E st x) (ev E st y) fun v=>K v st
 |.unOp op _ x=>Ui op (ev E st x) fun v=>K v st
 |.convert S D x=>pW E S D (ev E st x) st K
 |.makeSlice T l c=>nY E T (IQ o.dst) (ev E st l) (ev E st c) st K
 |.slice T x lo hi mx=>uv E T (IQ o.dst) (ev E st x) (lo.map (ev E st)) (hi.map (ev E st)) (mx.map (ev E st)) st K
 |.fieldAddr T x f=>nX E T (ev E st x) f st K
 |.field T x f=>bif (ev E st x).isAgg then xN E T (ev E st x) f st K else none
 |.indexAddr T x i=>mJ E T (ev E st x) (ev E st i) st K
 |.index T x i=>xO E T (ev E st x) (ev E st i) st K
 |.extract x n=>(match ev E st x with | .Lm vs=>(match vs[n]? with|some p=>K (ER p.1 p.2) st|none=>none)|_=>none)
 |.call c=>(match c.callee with
  |.builtin b=>nL E b (IQ o.dst) c.argTypes.toList (c.args.toList.map (ev E st)) st K
  |.value (.func f)=>(match E.BU f with|some s=>s.run (IQ o.dst) (c.args.toList.map (ev E st)) st K KP|none=>none)
  |_=>none)
 |.makeInterface T x=>(match E.iE T with
  |some ti=>(match ti.iQ,(ev E st x).p8 with
   |.aaA,_=>none
   |_,some ls=>K (.AH T ls) st
   |_,none=>none)
  |none=>none)
 |.panic x=>(match ev E st x with | .AH t ls=>KP (.AH t ls) st|_=>none)
 |.makeMap T none=>ru E T (IQ o.dst) st K
 |.lookup T x k false=>uu E T (ev E st x) (ev E st k) st K
 |.mapUpdate T x k v=>nZ E T (ev E st x) (ev E st k) (ev E st v) st K
 |_=>none
end exec
def qw(all:List Oper)(j:Nat):Option Nat:=(all[j]?).bind (·.dst)
def eb(e:Edge):Bool:=match e.ground with | .textOnly _=>false | .gcOnly _=>false|_=>true
def YH:List Nat→List Nat→List Nat
 |[],m=>m
 |x::r,m=>bif eV x m then YH r m else YH r (x::m)
def iX:List Oper→List (List Nat)→List (List Nat)
 |[],acc=>acc
 |o::r,acc=>iX r (acc++[o.after.toList.foldl (fun m e=>bif eb e then YH (e.on::acc.getD e.on []) m else m) []])
def vO:Op→Bool
 |.move _=>true | .assign _=>true | .pick _ _ _=>true | .nilCheck _=>true | .build _ _=>true | .load _ _=>true
 |.binOp _ _ _ _ _=>true | .unOp _ _ _=>true | .convert _ _ _=>true | .slice t _ lo hi mx=>Nat.beq t 9 ||(match lo,hi,mx with|none,some _,none=>false|_,_,_=>true) | .fieldAddr _ _ _=>true
 |.field _ _ _=>true | .indexAddr _ _ _=>true | .index _ _ _=>true | .extract _ _=>true | .makeInterface _ _=>true
 |.call c=>(match c.callee with
  |.builtin b=>(match b with | .len=>true | .min=>true | .max=>true|_=>false)
  |_=>false)
 |_=>false
def SH:List Operand→List Nat
 |[]=>[]
 |.tmp t::r=>t::SH r
 |_::r=>SH r
def tL(all:List Oper)(o:Oper):List Nat:=
 (match o.guard with|some (j,_)=>(match qw all j with|some g=>[g]|none=>[])|none=>[])++SH o.op.operands.toList
def Tp(o:Oper)(l:List Nat):Bool:=match o.dst with|some d=>eV d l|none=>false
def p7(all:List Oper)(A:List (List Nat))(k:Nat)(o:Oper):Bool:=
 !vO o.op||all.zipIdx.any fun p=>Tp o (tL all p.1)&&!eV k (A.getD p.2 [])
def rdy(all:List Oper)(done:List Nat)(i:Nat):Bool:=
 !eV i done&&(match all[i]? with|some o=>o.after.toList.all fun e=>!eb e||eV e.on done|none=>false)
def Ll(all:List Oper)(A:List (List Nat))(k:Nat):Bool:=match all[k]? with|some o=>!p7 all A k o|none=>false
def jb(all:List Oper)(A:List (List Nat)):Nat→List Nat→List (List Nat)
 |0,_=>[[]]
 |n+1,done=>(match (List.range all.length).filter (rdy all done) with
  |[]=>[[]]
  |i::r=>(match (i::r).find? (Ll all A) with
   |some k=>(jb all A n (k::done)).map (k::·)
   |none=>(i::r).flatMap fun k=>(jb all A n (k::done)).map (k::·)))
def RO:List Oper→Bool
 |[]=>true
 |o::r=>!(match o.dst with|some d=>r.any fun p=>(match p.dst with|some e=>Nat.beq d e|none=>false)|none=>false)&&RO r
def agU(all:List Oper)(A:List (List Nat)):Bool:=
 all.zipIdx.all fun p=>all.zipIdx.all fun q=>Nat.beq p.2 q.2||!Tp q.1 (tL all p.1)||eV q.2 (A.getD p.2 [])||eV p.2 (A.getD q.2 [])
def aar(all:List Oper):Bool:=all.all fun o=>match o.op with | .select _ _=>false|_=>true
def Eh(all:List Oper)(A:List (List Nat)):Bool:=
 RO all&&agU all A&&aar all&&all.zipIdx.all (fun p=>!Tp p.1 (tL all p.1)&&p.1.after.toList.all fun e=>!eb e||Nat.blt e.on p.2)
def Vc:qf→qf→Bool
 |.o a i n,.o b j m=>!Nat.beq a b||Nat.ble (i+n) j||Nat.ble (j+m) i
 |.a x,.a y=>!Nat.beq x y
 |.o a _ _,.k b=>!Nat.beq a b
 |.k a,.o b _ _=>!Nat.beq a b
 |.k a,.k b=>!Nat.beq a b
 |.all,_=>false
 |_,.all=>false
 |_,_=>true
def fO:List ag→List qf
 |[]=>[]
 |.mT a::r=>.a a::fO r
 |.Ft a _ _ _ _::r=>.a a::fO r
 |_::r=>fO r
def ae.uf:ae→List qf
 |.one l=>fO [l]
 |.agg ls=>fO ls
 |.AH _ ls=>fO ls
 |.Lm _=>[]
def nE:List ae→List qf
 |[]=>[]
 |v::r=>v.uf++nE r
section draw
variable (E:tn) {R:Type}
def xS(T:TypeId):Nat:=match E.iE T with|some ti=>ti.size|none=>0
def wx(o:Oper)(st:St):List qf:=
 match o.op with
 |.load T x=>(match (ev E st x).bP with | .lw ob off=>[.o ob off (xS E T)] | .Ei a _ _ _=>[.a a] | .Mo a _ _=>[.a a]|_=>[])
 |.convert _ _ x=>fO [(ev E st x).bP]
 |.slice _ x _ _ _=>fO [(ev E st x).bP]
 |.indexAddr _ x _=>fO [(ev E st x).bP]
 |.call c=>nE (c.args.toList.map (ev E st))
 |_=>[]
def yC(o:Oper)(st:St):Bool:=
 match o.op with
 |.slice _ x _ _ _=>(match (ev E st x).bP with
  |.mT a=>(match st.arr a with|some A=>A.sh|none=>false)
  |_=>true)
 |_=>true
def uI(o:Oper)(st:St):List qf:=
 match o.op with
 |.store T x v=>(match WU st (ev E st x) with
  |some _=>[.all]
  |none=>(match (ev E st x).bP with
   |.lw ob off=>[.o ob off (xS E T)]
   |.Ei a _ _ _=>.a a::(ev E st v).uf
   |.Mo a _ _=>[.a a]
   |_=>[]))
 |.buildSlice _ _ ps=>nE (ps.toList.map fun p=>ev E st p.2)
 |.call c=>(match c.callee with
  |.builtin _=>nE (c.args.toList.map (ev E st))++Yl st (c.args.toList.map (ev E st))
  |.value (.func f)=>(match E.BU f with|some s=>s.LP (c.args.toList.map (ev E st)) st|none=>[])
  |_=>[])
 |.slice _ x _ _ _=>fO [(ev E st x).bP]
 |.mapUpdate _ x _ _=>fO [(ev E st x).bP]
 |_=>[]
def IC(rs ws:List qf):Bool:=rs.all fun p=>ws.all fun q=>Vc p q
def GK(all:List Oper)(A:List (List Nat))(i:Nat)(o:Oper)(log:List (Nat×List qf))(st:St)(K:List (Nat×List qf)→St→Option R)(KP:ae→St→Option R):Option R:=
 bif p7 all A i o then
  (bif log.all (fun p=>eV p.1 (A.getD i [])||IC p.2 (uI E o st)) then
   mr E o st (fun v st'=>oZ o.dst v st' (K log)) KP else none)
 else(bif yC E o st then mr E o st (fun v st'=>oZ o.dst v st' (K ((i,wx E o st)::log))) (fun _ _=>none) else none)
def Xg(all:List Oper)(A:List (List Nat))(i:Nat)(log:List (Nat×List qf))(st:St)(K:List (Nat×List qf)→St→Option R)(KP:ae→St→Option R):Option R:=
 match all[i]? with
 |none=>none
 |some o=>(match o.guard with
  |none=>GK E all A i o log st K KP
  |some (j,tz)=>(match qw all j with
   |none=>none
   |some g=>(match st.ir g with
    |some (.one (.eZ .bool c))=>
     (bif c then
      (bif tz then GK E all A i o log (st.kf g (.one (.eZ .bool true))) K KP
       else oZ o.dst (.one .vV) (st.kf g (.one (.eZ .bool true))) (K log))
     else
      (bif tz then oZ o.dst (.one .vV) (st.kf g (.one (.eZ .bool false))) (K log)
       else GK E all A i o log (st.kf g (.one (.eZ .bool false))) K KP))
    |some (.one .vV)=>oZ o.dst (.one .vV) st (K log)
    |_=>none)))
def H6(all:List Oper)(A:List (List Nat)):List Nat→List (Nat×List qf)→St→(St→Option R)→(ae→St→Option R)→Option R
 |[],_,st,K,_=>K st
 |i::rest,log,st,K,KP=>Xg E all A i log st (fun lg s=>H6 all A rest lg s K KP) KP
def Kb(ops:List Oper)(l:List Nat):Bool:=(List.range ops.length).all fun i=>eV i l
def VS(ops:List Oper)(st:St)(K:St→Option R)(KP:ae→St→Option R):Option R:=
 bif Eh ops (iX ops []) then
  (match jb ops (iX ops []) ops.length [] with
  |[l]=>(bif Kb ops l then H6 E ops (iX ops []) l [] st K KP else none)
  |_=>none)
 else none
end draw
section run
variable (E:tn) {R:Type}
def p9(all:List Oper):List Oper→St→(St→Option R)→(ae→St→Option R)→Option R
 |[],st,K,_=>K st
 |o::rest,st,K,KP=>
  match o.guard with
  |none=>mr E o st (fun v st'=>oZ o.dst v st' fun s=>p9 all rest s K KP) KP
  |some (j,tz)=>(match qw all j with
   |none=>none
   |some g=>(match st.ir g with
    |some (.one (.eZ .bool c))=>
     (bif c then
      (bif tz then mr E o (st.kf g (.one (.eZ .bool true))) (fun v st'=>oZ o.dst v st' fun s=>p9 all rest s K KP) KP
       else oZ o.dst (.one .vV) (st.kf g (.one (.eZ .bool true))) fun s=>p9 all rest s K KP)
     else
      (bif tz then oZ o.dst (.one .vV) (st.kf g (.one (.eZ .bool false))) fun s=>p9 all rest s K KP
       else mr E o (st.kf g (.one (.eZ .bool false))) (fun v st'=>oZ o.dst v st' fun s=>p9 all rest s K KP) KP))
    |some (.one .vV)=>oZ o.dst (.one .vV) st fun s=>p9 all rest s K KP
    |_=>none))
noncomputable def tx(c:Code):St→(Exit→St→Option R)→(ae→St→Option R)→Option R:=
 Code.rec (motive:=fun _=>St→(Exit→St→Option R)→(ae→St→Option R)→Option R)
  (fun st K _=>K .normal st)
  (fun id ops draw st K KP=>bif draw then(match E.oB (id+1000000) with|some L=>L.run st K KP|none=>VS E ops.toList st (fun s=>K .normal s) KP) else p9 E ops.toList ops.toList st (fun s=>K .normal s) KP)
  (fun _ _ ra rb st K KP=>ra st (fun e s=>match e with | .normal=>rb s K KP|e=>K e s) KP)
  (fun c _ _ rt re st K KP=>match (ev E st c).Gm with|some b=>bif b then rt st K KP else re st K KP|none=>none)
  (fun id _ rb st K KP=>match E.oB id with
   |some L=>L.run st K KP
   |none=>rb st (fun e s=>match e with | .exit i=>(bif Nat.beq i id then K .normal s else K (.exit i) s)|e=>K e s) KP)
  (fun _ _ _ _ _=>none)
  (fun _ _ _ _ _ _ _ _ _=>none)
  (fun id st K _=>K (.exit id) st)
  (fun _ _ _ _ _=>none)
  (fun _ _ _ _=>none)
  (fun _ _ _ _=>none)
  (fun st K _=>K .ret st)
  (fun _ _ _ _=>none) c
end run
end Go.Fx
namespace Go.Fx
def All2{α β:Type}(R:α→β→Prop):List α→List β→Prop
 |[],[]=>True
 |x::xs,y::ys=>R x y∧All2 R xs ys
 |_,_=>False
section All2
variable {α β:Type} {R R':α→β→Prop}
theorem All2.length:∀{xs:List α} {ys:List β},All2 R xs ys→xs.length=ys.length
 |[],[],_=>rfl
 |_::_,_::_,h=>by simp[All2.length h.2]
 |[],_::_,h=>h.elim
 |_::_,[],h=>h.elim
theorem All2.imp(f:∀ x y,R x y→R' x y):∀{xs:List α} {ys:List β},All2 R xs ys→All2 R' xs ys
 |[],[],_=>trivial
 |_::_,_::_,h=>⟨f _ _ h.1,All2.imp f h.2⟩
 |[],_::_,h=>h.elim
 |_::_,[],h=>h.elim
theorem All2.vp:∀{xs:List α} {ys:List β},(∀ x y,x∈xs→R x y→R' x y)→All2 R xs ys→All2 R' xs ys
 |[],[],_,_=>trivial
 |_::_,_::_,f,h=>⟨f _ _ (by simp) h.1,All2.vp (fun x y hx=>f x y (by simp[hx])) h.2⟩
 |[],_::_,_,h=>h.elim
 |_::_,[],_,h=>h.elim
theorem All2.append:∀{xs xs':List α} {ys ys':List β},All2 R xs ys→All2 R xs' ys'→All2 R (xs++xs') (ys++ys')
 |[],_,[],_,_,h=>h
 |_::_,_,_::_,_,h,h'=>⟨h.1,All2.append h.2 h'⟩
 |[],_,_::_,_,h,_=>h.elim
 |_::_,_,[],_,h,_=>h.elim
theorem All2.split:∀{xs xs':List α} {ys:List β},All2 R (xs++xs') ys→∃ y1 y2,ys=y1++y2∧All2 R xs y1∧All2 R xs' y2
 |[],_,ys,h=>⟨[],ys,rfl,trivial,h⟩
 |x::xs,xs',y::ys,h=>by obtain⟨y1,y2,rfl,h1,h2⟩:=All2.split (xs:=xs) h.2;exact⟨y::y1,y2,rfl,⟨h.1,h1⟩,h2⟩
 |_::_,_,[],h=>h.elim
theorem All2.take:∀(n:Nat) {xs:List α} {ys:List β},All2 R xs ys→All2 R (xs.take n) (ys.take n)
 |0,_,_,_=>by simp[All2]
 |n+1,[],[],_=>trivial
 |n+1,_::_,_::_,h=>⟨h.1,All2.take n h.2⟩
 |n+1,[],_::_,h=>h.elim
 |n+1,_::_,[],h=>h.elim
theorem All2.drop:∀(n:Nat) {xs:List α} {ys:List β},All2 R xs ys→All2 R (xs.drop n) (ys.drop n)
 |0,_,_,h=>h
 |n+1,[],[],_=>trivial
 |n+1,_::_,_::_,h=>All2.drop n h.2
 |n+1,[],_::_,h=>h.elim
 |n+1,_::_,[],h=>h.elim
theorem All2.vK:∀{i:Nat} {xs:List α} {ys:List β} {x:α},All2 R xs ys→xs[i]? = some x→∃ y,ys[i]? = some y∧R x y
 |0,_::_,_::_,_,h,e=>by cases e;exact⟨_,rfl,h.1⟩
 |i+1,_::_,_::_,_,h,e=>by simpa using All2.vK (i:=i) h.2 (by simpa using e)
 |_,[],_,_,_,e=>by simp at e
 |_,_::_,[],_,h,_=>h.elim
end All2
structure Gh where
 S:DN
 φ:Nat→Nat
 pre:Nat→List Value
 post:Nat→List Value
 ψ:Nat→Value
 HA:Nat→gj
 vn:Nat→Nat
 HV:Nat→Nat→List Value
 ds:List Deferred:=[]
def vY(G:Gh)(a v sz i off:Nat)(u:Value):Prop:=
 v≤G.vn a∧(∃ x n c,u=.slice x n c)∧(∃ b len cap,G.ψ a=.slice (some ⟨b,0,none⟩) len cap∧i<len)∧(G.HV a v)[i * sz+off]? = some u
theorem vY.AP{G G':Gh}{a v sz i off:Nat}{u:Value}(h:vY G a v sz i off u)(h1:G'.ψ a=G.ψ a)(h2:G.vn a≤G'.vn a)(h3:∀ v,v≤G.vn a→G'.HV a v=G.HV a v):vY G' a v sz i off u:=
 ⟨bEa h.1 h2,h.2.1,by rw[h1];exact h.2.2.1,by rw[h3 v h.1];exact h.2.2.2⟩
def kF:gj→List Value
 |(_,.cells arr _ _)::_=>arr.toList
 |_=>[]
def aS(G:Gh):ag→Value→Prop
 |.any,_=>True
 |.vb,_=>True
 |.vV,v=>v=undef
 |.eZ t d,v=>∃ cs,(if t.agg=true then v=.agg cs.toArray else cs=[v])∧gh G.S false t cs d []
 |.nil,v=>v=.slice none 0 0
 |.KD,v=>v=.pointer none
 |.mT a,v=>v=G.ψ a
 |.lw o off,v=>v=.pointer (some ⟨G.φ o,(G.pre o).length+off,none⟩)
 |.Ei a sz i off,v=>∃ b len cap,G.ψ a=.slice (some ⟨b,0,none⟩) len cap∧i<len∧v=.pointer (some ⟨b,i * sz+off,none⟩)
 |.PO t d off,v=>∃ b arr elem fz pre cs post,G.S b=some (.cells arr elem fz)∧arr.toList=pre++(cs++post)∧gh G.S false t cs d []∧
  v=.pointer (some ⟨b,pre.length+off,none⟩)
 |.fn f,v=>v=.func (.func f) #[] #[]
 |.Ft a vr sz i off,v=>vY G a vr sz i off v
 |.nse a vr sz i off sz2 j T4,v=>∃ b2 Kx LM,vY G a vr sz i off (.slice (some ⟨b2,0,none⟩) Kx LM)∧j<Kx∧v=.pointer (some ⟨b2,j * sz2+T4,none⟩)
 |.Mo a k n,v=>∃ b,G.ψ a=.pointer (some ⟨b,0,none⟩)∧v=.pointer (some ⟨b,k,none⟩)
 |.ga t l,v=>∃ b arr elem fz cells rest,G.S b=some (.cells arr elem fz)∧arr.toList=cells++rest∧RepL (gh G.S false t) cells l []∧v=.pointer (some ⟨b,0,none⟩)
def aO(G:Gh):ae→Value→Prop
 |.one l,v=>aS G l v
 |.agg ls,v=>∃ cs:List Value,v=.agg cs.toArray∧All2 (aS G) ls cs
 |.Lm vs,v=>∃ us:List Value,v=.tuple us.toArray∧All2 (fun(p:Bool×List ag) u=>
  if p.1=true then ∃ cs:List Value,u=.agg cs.toArray∧All2 (aS G) p.2 cs else ∃ l,p.2=[l]∧aS G l u) vs us
 |.AH t ls,v=>∃ u cs,v=.iface t u∧u.cells.toList=cs∧All2 (aS G) ls cs
def ip(G:Gh)(st:St)(o:Nat):Nat→List ag→List Value→Prop:=fun j ls vs=>All2 (aS G) (st.kc o j ls) vs
structure mS where
 S0:DN
 Yq:Nat→Prop
 w0:World
 pin:Nat→Option (Nat×List Value×List Value)
 pl:∀ o p,pin o=some p→o<10000
 bv:Nat→Nat→Option Value
 bl:∀ o j u,bv o j=some u→o<10000
 abx:Nat→Option Value
 ds:List Deferred:=[]
def eW(G:Gh)(st:St):Bool×Nat→Nat→Prop
 |(false,o),b=>(∃ ls,st.dN o=some ls)∧b=G.φ o
 |(true,a),b=>(∃ A,st.arr a=some A∧A.sh=false)∧∃ p∈G.HA a,p.1=b
def YW{α:Type}(RL:List Value→List α→gj→Prop)(sz:Nat)(v:Value)(l:List α)(H:gj)(i b:Nat)(pre post:List Value):Prop:=
 ∃ cap Hp Hq rest Jv,v=.slice (some ⟨b,0,none⟩) l.length cap∧H=Hp++Hq∧post=Jv++rest∧cap * sz≤pre.length+sz+post.length∧
  l.length≤cap∧i<l.length∧pre.length=i * sz∧RL pre (l.take i) Hp∧RL Jv (l.drop (i+1)) Hq
def abt{α:Type}(RL:List Value→List α→gj→Prop)(v:Value)(l:List α)(H:gj):Prop:=
 ∃ r es yB,v=.map (some r)∧H=[(r,Obj.map es yB)]∧RL (es.toList.flatMap fun e=>[e.key,e.val]) l []
def YV{α:Type}(RL:List Value→List α→gj→Prop)(sz:Nat)(v:Value)(l:List α)(H:gj)(i off:Nat):Prop:=
 ∃ b cap arr elem cells rest H',v=.slice (some ⟨b,0,none⟩) l.length cap∧H=(b,Obj.cells arr elem (0,0))::H'∧arr.toList=cells++rest∧cap * sz≤arr.size∧l.length≤cap∧
  i<l.length∧off<sz∧cells.length=l.length * sz∧RL (cells.set (i * sz+off) (.slice none 0 0)) l H'
def V9{α:Type}(RL:List Value→List α→gj→Prop)(v:Value)(l:List α)(H:gj):Prop:=
 ∃ b arr elem,v=.pointer (some ⟨b,0,none⟩)∧H=[(b,Obj.cells arr elem (0,0))]∧RL arr.toList l []
def pf(G:Gh)(a:Nat)(A:jS):Prop:=
 if A.sh=true then Ca G.S (RepL (gh G.S false A.t)) [G.ψ a] A.l []
 else match A.md with
  |.dV=>kx (RepL (gh G.S false A.t)) A.t.size [G.ψ a] A.l (G.HA a)
  |.bx=>kx (RepL (gh G.S true A.t)) A.t.size [G.ψ a] A.l (G.HA a)
  |.DK i o=>YW (RepL (gh G.S true A.t)) A.t.size (G.ψ a) A.l (G.HA a) i (G.φ o) (G.pre o) (G.post o)
  |.mp=>abt (RepL (gh G.S false A.t)) (G.ψ a) A.l (G.HA a)
  |.afZ i off=>YV (RepL (gh G.S true A.t)) A.t.size (G.ψ a) A.l (G.HA a) i off
  |.arr=>V9 (RepL (gh G.S false A.t)) (G.ψ a) A.l (G.HA a)
def SlV(v:Value):Prop:=(∃ b n c,v=.slice b n c)∨(∃ r,v=.map r)∨∃ p,v=.pointer p
structure az(X:mS)(st:St)(G:Gh)(w:World):Prop where
 sl:∀ a,SlV (G.ψ a)
 sh:∀ b o,G.S b=some o→w.heap[b]? = some o
 ob:∀ o ls,st.dN o=some ls→∃ arr elem mid,w.heap[G.φ o]? = some (.cells arr elem (0,0))∧arr.toList=G.pre o++(mid++G.post o)∧ip G st o 0 ls mid
 ar:∀ a A,st.arr a=some A→pf G a A
 ah:∀ a A,st.arr a=some A→A.sh=false→∀ p∈G.HA a,w.heap[p.1]? = some p.2
 nd:∀ a A,st.arr a=some A→A.sh=false→((G.HA a).map (·.1)).Nodup
 qs:∀ x y b,eW G st x b→eW G st y b→x=y
 dS:∀ x b,eW G st x b→G.S b=none
 tY:∀ x b,eW G st x b→X.Yq b∨X.w0.heap.size≤b
 s0:∀ b o,X.S0 b=some o→G.S b=some o
 sn:∀ b o,G.S b=some o→X.S0 b=some o∨X.Yq b∨X.w0.heap.size≤b
 fr:∀ b,b<X.w0.heap.size→¬ X.Yq b→w.heap[b]? = X.w0.heap[b]?
 sz:X.w0.heap.size≤w.heap.size
 os:w.os=X.w0.os
 tp:w.tape=X.w0.tape
 out:w.output=X.w0.output
 pin:∀ o p,X.pin o=some p→(∃ ls,st.dN o=some ls)∧p=(G.φ o,G.pre o,G.post o)
 bv:∀ o j u,X.bv o j=some u→(∃ lf,dZ st.cF o j=some lf)∧(∃ ls,st.dN o=some ls∧ls[j]? = some .vb)∧
  ∃ arr elem,w.heap[G.φ o]? = some (.cells arr elem (0,0))∧arr.toList[(G.pre o).length+j]? = some u
 hv:∀ a,G.vn a=st.dC a
 hh:∀ a A,st.arr a=some A→A.sh=false→A.nest=true→G.HV a (G.vn a)=kF (G.HA a)
 ds:G.ds=X.ds
 ap:∀ a u,X.abx a=some u→eV a st.pin=true∧(∃ A,st.arr a=some A)∧G.ψ a=u
def bO(G:Gh)(st:St)(a:Act):Prop:=
 a.defers=G.ds∧a.tmps.size=st.n∧∀ i v,st.ir i=some v→aO G v (a.tmps.getD i undef)
section look
variable {α:Type}
theorem vw{k i:Nat}(h:k≠i):Nat.beq k i=false:=by
 cases hb:Nat.beq k i with
 |false=>rfl
 |true=>exact absurd (Q4 hb) h
theorem aq(k:Nat)(v:α)(l:List (Nat×α))(i:Nat):look ((k,v)::l) i=if k=i then some v else look l i:=by
 simp only[look];by_cases h:k=i
 ·subst h;simp
 ·simp[vw h,h]
theorem qC(l:List (Nat×α))(a i:Nat):look (Gr l a) i=if a=i then none else look l i:=by
 induction l with
 |nil=>simp[look,Gr]
 |cons p l ih=>
  obtain⟨k,v⟩:=p;by_cases h:k=a
  ·subst h
   have:Nat.beq k k=true:=by simp
   simp only[Gr,this,aja,ih,aq];split<;>rfl
  ·have:=vw h
   simp only[Gr,this,aqa,aq,ih];by_cases h2:k=i
   ·subst h2;simp[bBa h]
   ·simp[h2]
theorem dX{l:List (Nat×α)}{i:Nat}{v:α}(h:look l i=some v):(i,v)∈l:=by
 induction l with
 |nil=>simp[look] at h
 |cons p l ih=>
  obtain⟨k,u⟩:=p;rw[aq] at h;split at h
  ·rename_i e;subst e;cases h;simp
  ·exact Q8 _ (ih h)
theorem KA:∀{l:List (Nat×Nat×ag)} {o j:Nat} {v:ag},dZ l o j=some v→(o,j,v)∈l
 |[],_,_,_,h=>by cases h
 |(o',j',v')::r,o,j,v,h=>by
  simp only[dZ] at h;cases hb:(Nat.beq o' o&&Nat.beq j' j) with
  |true=>simp only[hb,aja,OQ] at h;simp only[Q3] at hb;rw[Q4 hb.1,Q4 hb.2,h];simp
  |false=>simp only[hb,aqa] at h;exact Q8 _ (KA h)
end look
section St
variable {st:St}
theorem qI(i:Nat)(v:ae)(j:Nat):(st.kf i v).ir j=if i=j then some v else st.ir j:=by simp only[St.ir,St.kf,aq];by_cases h:i=j<;>simp[h]
@[simp] theorem aeG(i:Nat)(v:ae)(o:Nat):(st.kf i v).dN o=st.dN o:=rfl
@[simp] theorem adQ(i:Nat)(v:ae)(a:Nat):(st.kf i v).arr a=st.arr a:=rfl
@[simp] theorem aeQ(i:Nat)(v:ae)(o j:Nat)(l:ag):(st.kf i v).res o j l=st.res o j l:=by cases l<;>rfl
theorem kT(o:Nat)(ls:List ag)(q:Nat):(st.qJ o ls).dN q=if o=q then some ls else st.dN q:=by simp only[St.dN,St.qJ,aq]
@[simp] theorem aeM(o:Nat)(ls:List ag)(i:Nat):(st.qJ o ls).ir i=st.ir i:=rfl
@[simp] theorem adP(o:Nat)(ls:List ag)(a:Nat):(st.qJ o ls).arr a=st.arr a:=rfl
@[simp] theorem aeP(q:Nat)(ls:List ag)(o j:Nat)(l:ag):(st.qJ q ls).res o j l=st.res o j l:=by cases l<;>rfl
theorem dI(a:Nat)(A:jS)(b:Nat):(st.gP a A).arr b=if a=b then some A else st.arr b:=by simp only[St.arr,St.gP,aq];by_cases h:a=b<;>simp[h]
@[simp] theorem aeL(a:Nat)(A:jS)(i:Nat):(st.gP a A).ir i=st.ir i:=rfl
@[simp] theorem aeF(a:Nat)(A:jS)(o:Nat):(st.gP a A).dN o=st.dN o:=rfl
@[simp] theorem aeO(a:Nat)(A:jS)(o j:Nat)(l:ag):(st.gP a A).res o j l=st.res o j l:=by cases l<;>rfl
end St
theorem ke{st st':St}{o:Nat}(h:∀ j l,st'.res o j l=st.res o j l):∀(j:Nat) (ls:List ag),st'.kc o j ls=st.kc o j ls
 |_,[]=>rfl
 |j,l::r=>by simp[St.kc,h,ke h (j+1) r]
theorem iW(st:St)(o:Nat):∀(j:Nat) (ls:List ag),(st.kc o j ls).length=ls.length
 |_,[]=>rfl
 |j,l::r=>by simp[St.kc,iW st o (j+1) r]
theorem EX(st:St)(o:Nat):∀(j:Nat) (l m:List ag),st.kc o j (l++m)=st.kc o j l++st.kc o (j+l.length) m
 |_,[],m=>by simp[St.kc]
 |j,x::l,m=>by simp only[a4a,St.kc,aDa];rw[EX st o (j+1) l m,show j+1+l.length=j+(l.length+1) by omega]
structure Gh.Le(G G':Gh)(k:Bool)(x:Nat):Prop where
 S:∀ b o,G.S b=some o→G'.S b=some o
 φ:∀ o,(k=false→o≠x)→G'.φ o=G.φ o
 pre:∀ o,(k=false→o≠x)→G'.pre o=G.pre o
 post:∀ o,(k=false→o≠x)→G'.post o=G.post o
 ψ:∀ a,(k=true→a≠x)→G'.ψ a=G.ψ a
 vn:∀ a,G'.vn a=G.vn a
 HV:∀ a,(k=true→a≠x)→G'.HV a=G.HV a
 ds:G'.ds=G.ds:=by rfl
theorem aS.le{G G':Gh}{k:Bool}{x:Nat}(h:G.Le G' k x){l:ag}{v:Value}(hm:l.dc k x=false)(r:aS G l v):aS G' l v:=by
 cases l with
 |any=>trivial
 |vb=>trivial
 |vV=>exact r
 |eZ t d=>obtain⟨cs,e,hr⟩:=r;exact⟨cs,e,hr.mono h.S⟩
 |nil=>exact r
 |KD=>exact r
 |mT a=>
  have:G'.ψ a=G.ψ a:=h.ψ a (fun hk e=>by subst hk e;simp[ag.dc] at hm)
  simp only[aS,this];exact r
 |lw o off=>
  have hG:k=false→o≠x:=fun hk e=>by subst hk e;simp[ag.dc] at hm
  simp only[aS,h.φ o hG,h.pre o hG];exact r
 |Ei a sz i off=>
  have:G'.ψ a=G.ψ a:=h.ψ a (fun hk e=>by subst hk e;simp[ag.dc] at hm)
  simp only[aS,this];exact r
 |Ft a vr sz i off=>
  have hG:k=true→a≠x:=fun hk e=>by subst hk e;simp[ag.dc] at hm
  exact vY.AP r (h.ψ a hG) (by rw[h.vn];exact awa _) (fun v _=>by rw[h.HV a hG])
 |nse a vr sz i off sz2 j T4=>
  have hG:k=true→a≠x:=fun hk e=>by subst hk e;simp[ag.dc] at hm
  obtain⟨b2,Kx,LM,h1,h2⟩:=r;exact⟨b2,Kx,LM,h1.AP (h.ψ a hG) (by rw[h.vn];exact awa _) (fun v _=>by rw[h.HV a hG]),h2⟩
 |Mo a kk n=>
  have:G'.ψ a=G.ψ a:=h.ψ a (fun hk e=>by subst hk e;simp[ag.dc] at hm)
  simp only[aS,this];exact r
 |PO t d off=>obtain⟨b,arr,elem,fz,pre,cs,post,h1,h2,h3,h4⟩:=r;exact⟨b,arr,elem,fz,pre,cs,post,h.S _ _ h1,h2,h3.mono h.S,h4⟩
 |fn f=>exact r
 |ga t l=>obtain⟨b,arr,elem,fz,cs,rest,h1,h2,h3,h4⟩:=r;exact⟨b,arr,elem,fz,cs,rest,h.S _ _ h1,h2,h3.imp fun _ _ _ h'=>h'.mono h.S,h4⟩
theorem Cb{G G':Gh}{k:Bool}{x:Nat}(h:G.Le G' k x){ls:List ag}{vs:List Value}(hm:ls.any (ag.dc k x)=false)(r:All2 (aS G) ls vs):All2 (aS G') ls vs:=
 r.vp fun l v hl hr=>hr.le h (by
  have:=aSa.1 hm l hl;simpa using this)
theorem aO.le{G G':Gh}{k:Bool}{x:Nat}(h:G.Le G' k x){a:ae}{v:Value}(hm:a.dc k x=false)(r:aO G a v):aO G' a v:=by
 cases a with
 |one l=>exact aS.le h hm r
 |agg ls=>obtain⟨cs,e,hr⟩:=r;exact⟨cs,e,Cb h hm hr⟩
 |Lm vs=>
  obtain⟨us,e,hr⟩:=r;refine⟨us,e,hr.vp fun p u hp NO=>?_⟩;have hm':p.2.any (ag.dc k x)=false:=by have:=aSa.1 hm p hp;simpa using this
  split at NO
  ·rename_i hc;simp only[hc,ava];obtain⟨cs,e,hr⟩:=NO;exact⟨cs,e,Cb h hm' hr⟩
  ·rename_i hc
   obtain⟨l,e,hr⟩:=NO;simp only[bya] at hc;simp only[hc,asa,Q9];exact⟨l,e,hr.le h (by rw[e] at hm';simpa using hm')⟩
 |AH t ls=>obtain⟨u,cs,e1,e2,hr⟩:=r;exact⟨u,cs,e1,e2,Cb h hm hr⟩
theorem kx.imp{α:Type}{RL RL':List Value→List α→gj→Prop}{sz:Nat}{cs:List Value}{l:List α}{H:gj}(f:∀ c H,RL c l H→RL' c l H)(h:kx RL sz cs l H):kx RL' sz cs l H:=by
 rcases h with h|⟨b,cap,arr,elem,cells,rest,H',e1,e2,e3,e4,e5,e6⟩
 ·exact .inl h
 ·exact .inr ⟨b,cap,arr,elem,cells,rest,H',e1,e2,e3,e4,e5,f _ _ e6⟩
theorem Ca.imp{α:Type}{S S':DN}{RL RL':List Value→List α→gj→Prop}{cs:List Value}{l:List α}{H:gj}(hS:∀ b o,S b=some o→S' b=some o)(f:∀ c H,RL c l H→RL' c l H)(h:Ca S RL cs l H):Ca S' RL' cs l H:=by
 rcases h with ⟨e,h1|⟨b,cap,arr,elem,fz,pre,cells,rest,q1,q2,q3,q4,q5⟩⟩
 ·exact⟨e,.inl h1⟩
 ·exact⟨e,.inr ⟨b,cap,arr,elem,fz,pre,cells,rest,q1,hS _ _ q2,q3,f _ _ q4,q5⟩⟩
theorem RepL.EH{S S':DN}(hS:∀ b o,S b=some o→S' b=some o){m:Bool}{t:Ty}{cs:List Value}{l:List t.nH}{H:gj}(h:RepL (gh S m t) cs l H):RepL (gh S' m t) cs l H:=h.imp fun _ _ _ h=>h.mono hS
theorem pf.mono{G G':Gh}{a a':Nat}{A:jS}(hS:∀ b o,G.S b=some o→G'.S b=some o)(hψ:G'.ψ a' = G.ψ a)(hH:G'.HA a' = G.HA a)
  (hl:∀ i o,A.md=.DK i o→G'.φ o=G.φ o∧G'.pre o=G.pre o∧G'.post o=G.post o) (h:pf G a A):pf G' a' A:=by
 unfold pf at h ⊢;rw[hψ,hH];split
 ·rename_i hs
  simp only[hs,ava] at h;exact h.imp hS fun c H h=>h.EH hS
 ·rename_i hs
  simp only[hs,Q9,asa] at h;split
  ·rename_i hm;simp only[hm] at h;exact h.imp fun c H h=>h.EH hS
  ·rename_i hm;simp only[hm] at h;exact h.imp fun c H h=>h.EH hS
  ·rename_i i o hm
   simp only[hm] at h;obtain⟨e1,e2,e3⟩:=hl i o hm;rw[e1,e2,e3];obtain⟨cap,Hp,Hq,rest,Jv,q1,q2,q3,q4,q5,q6,q7,q8,q9⟩:=h;exact⟨cap,Hp,Hq,rest,Jv,q1,q2,q3,q4,q5,q6,q7,q8.EH hS,q9.EH hS⟩
  ·rename_i hm
   simp only[hm] at h;obtain⟨r,es,yB,e1,e2,e3⟩:=h;exact⟨r,es,yB,e1,e2,e3.EH hS⟩
  ·rename_i i off hm
   simp only[hm] at h;obtain⟨b,cap,arr,elem,cells,rest,H',q1,q2,q3,q4,q5,q6,q7,q8,q9⟩:=h;exact⟨b,cap,arr,elem,cells,rest,H',q1,q2,q3,q4,q5,q6,q7,q8,q9.EH hS⟩
  ·rename_i hm
   simp only[hm] at h;obtain⟨b,arr,elem,e1,e2,e3⟩:=h;exact⟨b,arr,elem,e1,e2,e3.EH hS⟩
theorem ia{G:Gh}{a:Nat}{A:jS}(hs:A.sh=false)(hw:A.gz=true):pf G a A↔kx (RepL (gh G.S A.bx A.t)) A.t.size [G.ψ a] A.l (G.HA a):=by obtain⟨At,md,sh,Al⟩:=A;simp only at hs;subst hs;cases md<;>simp[jS.gz] at hw<;>rfl
theorem KW{G:Gh}{a:Nat}{t:Ty}{l:List t.nH}:pf G a ⟨t,.dV,false,l⟩↔kx (RepL (gh G.S false t)) t.size [G.ψ a] l (G.HA a):=Iff.rfl
theorem xV{G:Gh}{a:Nat}{A:jS}(hs:A.sh=true):pf G a A↔Ca G.S (RepL (gh G.S false A.t)) [G.ψ a] A.l []:=by unfold pf;rw[a7a hs]
theorem Md.xC{m m':Md}(h:m.lG m' = true):m=m':=by cases m<;>cases m'<;>simp_all[Md.lG]
theorem Hj{G:Gh}{a:Nat}{A:jS}(hs:A.sh=false)(hm:A.md=.arr)(h:pf G a A):V9 (RepL (gh G.S false A.t)) (G.ψ a) A.l (G.HA a):=by unfold pf at h;simpa[hs,hm] using h
theorem Fi{A:jS}(h:A.bx=false):A.md=.dV:=by obtain⟨At,md,sh,Al⟩:=A;cases md<;>simp[jS.bx] at h;rfl
theorem Ek{A:jS}(h:A.bx=false):A.gz=true:=by have:=Fi h;simp[jS.gz,this]
theorem IE{G:Gh}{a:Nat}{A:jS}(hs:A.sh=false)(hm:A.Vn=false)(h:pf G a A):(A.l=[]∧G.ψ a=.slice none 0 0)∨∃ b cap,G.ψ a=.slice (some ⟨b,0,none⟩) A.l.length cap:=by
 have gz:∀{RL:List Value→List A.t.nH→gj→Prop} {sz:Nat} {H:gj},kx RL sz [G.ψ a] A.l H→(A.l=[]∧G.ψ a=.slice none 0 0)∨∃ b cap,G.ψ a=.slice (some ⟨b,0,none⟩) A.l.length cap:=fun {RL sz H} h=>by
  rcases h with ⟨e1,e2,e3⟩|⟨b,cap,arr,elem,cells,rest,H',e1,_⟩
  ·simp only[aJa,a_a] at e3;exact .inl ⟨e1,e3⟩
  ·simp only[aJa,a_a] at e1;exact .inr ⟨b,cap,e1⟩
 unfold pf at h;rw[aza (by simp[hs])] at h
 split at h
 ·exact gz h
 ·exact gz h
 ·obtain⟨cap,Hp,Hq,rest,Jv,e,_⟩:=h;exact .inr ⟨_,cap,e⟩
 ·rename_i e;simp[jS.Vn,e] at hm
 ·obtain⟨b,cap,arr,elem,cells,rest,H',e,_⟩:=h;exact .inr ⟨b,cap,e⟩
 ·rename_i e;simp[jS.Vn,e] at hm
end Go.Fx
namespace Go.Fx
structure Gh.MT(G G':Gh):Prop where
 S:∀ b o,G.S b=some o→G'.S b=some o
 φ:G'.φ=G.φ
 pre:G'.pre=G.pre
 post:G'.post=G.post
 ψ:G'.ψ=G.ψ
 HA:G'.HA=G.HA
 vn:G'.vn=G.vn
 HV:G'.HV=G.HV
 ds:G'.ds=G.ds
theorem Gh.MT.refl(G:Gh):G.MT G:=⟨fun _ _ h=>h,rfl,rfl,rfl,rfl,rfl,rfl,rfl,rfl⟩
theorem Gh.MT.trans{G G' G'':Gh}(h:G.MT G')(k:G'.MT G''):G.MT G'':=
 ⟨fun b o e=>k.S b o (h.S b o e),k.φ.trans h.φ,k.pre.trans h.pre,k.post.trans h.post,k.ψ.trans h.ψ,k.HA.trans h.HA,k.vn.trans h.vn,k.HV.trans h.HV,k.ds.trans h.ds⟩
theorem aS.sub{G G':Gh}(h:G.MT G'){l:ag}{v:Value}(r:aS G l v):aS G' l v:=by
 cases l with
 |any=>trivial
 |vb=>trivial
 |vV=>exact r
 |eZ t d=>obtain⟨cs,e,hr⟩:=r;exact⟨cs,e,hr.mono h.S⟩
 |nil=>exact r
 |KD=>exact r
 |mT a=>simp only[aS,h.ψ];exact r
 |lw o off=>simp only[aS,h.φ,h.pre];exact r
 |Ei a sz i off=>simp only[aS,h.ψ];exact r
 |PO t d off=>obtain⟨b,arr,elem,fz,pre,cs,post,h1,h2,h3,h4⟩:=r;exact⟨b,arr,elem,fz,pre,cs,post,h.S _ _ h1,h2,h3.mono h.S,h4⟩
 |fn f=>exact r
 |Ft a vr sz i off=>exact vY.AP r (by rw[h.ψ]) (by rw[h.vn];exact awa _) (fun v _=>by rw[h.HV])
 |nse a vr sz i off sz2 j T4=>obtain⟨b2,Kx,LM,h1,h2⟩:=r;exact⟨b2,Kx,LM,h1.AP (by rw[h.ψ]) (by rw[h.vn];exact awa _) (fun v _=>by rw[h.HV]),h2⟩
 |Mo a kk n=>simp only[aS,h.ψ];exact r
 |ga t l=>obtain⟨b,arr,elem,fz,cs,rest,h1,h2,h3,h4⟩:=r;exact⟨b,arr,elem,fz,cs,rest,h.S _ _ h1,h2,h3.imp fun _ _ _ h'=>h'.mono h.S,h4⟩
theorem aO.sub{G G':Gh}(h:G.MT G'){a:ae}{v:Value}(r:aO G a v):aO G' a v:=by
 cases a with
 |one l=>exact aS.sub h r
 |agg ls=>obtain⟨cs,e,hr⟩:=r;exact⟨cs,e,hr.imp fun _ _=>aS.sub h⟩
 |Lm vs=>
  obtain⟨us,e,hr⟩:=r;refine⟨us,e,hr.imp fun p u NO=>?_⟩;split at NO
  ·rename_i hc;simp only[hc,ava];obtain⟨cs,e,hr⟩:=NO;exact⟨cs,e,hr.imp fun _ _=>aS.sub h⟩
  ·rename_i hc
   obtain⟨l,e,hr⟩:=NO;simp only[bya] at hc;simp only[hc,asa,Q9];exact⟨l,e,hr.sub h⟩
 |AH t ls=>obtain⟨u,cs,e1,e2,hr⟩:=r;exact⟨u,cs,e1,e2,hr.imp fun _ _=>aS.sub h⟩
theorem bO.sub{G G':Gh}(h:G.MT G'){st st':St}(hn:st'.n=st.n)(xG:∀ i,st'.ir i=st.ir i){a:Act}(r:bO G st a):bO G' st' a:=
 ⟨r.1.trans h.ds.symm,r.2.1.trans hn.symm,fun i v hv=>(r.2.2 i v (by rw[←xG i];exact hv)).sub h⟩
structure rK(st st':St):Prop where
 n:st'.n=st.n
 ir:∀ i,st'.ir i=st.ir i
 dN:∀ o,st'.dN o=st.dN o
 res:∀ o j l,st'.res o j l=st.res o j l
 bl:st'.cF=st.cF
 pn:st'.pin=st.pin
 vr:st'.Fc=st.Fc
theorem rK.refl(st:St):rK st st:=⟨rfl,fun _=>rfl,fun _=>rfl,fun _ _ _=>rfl,rfl,rfl,rfl⟩
theorem rK.trans{a b c:St}(h:rK a b)(k:rK b c):rK a c:=
 ⟨k.n.trans h.n,fun i=>(k.ir i).trans (h.ir i),fun o=>(k.dN o).trans (h.dN o),fun o j l=>(k.res o j l).trans (h.res o j l),k.bl.trans h.bl,k.pn.trans h.pn,k.vr.trans h.vr⟩
theorem VA{H:gj}(hn:(H.map (·.1)).Nodup){p:Nat×Obj}(hp:p∈H):H.find? (fun q=>q.1==p.1)=some p:=by
 induction H with
 |nil=>cases hp
 |cons q H ih=>
  simp only[aHa,a2a] at hn;rcases ama.1 hp with rfl|hp
  ·simp
  ·have hG:q.1≠p.1:=fun e=>hn.1 (by rw[e];exact aIa hp)
   simp[hG,ih hn.2 hp]
theorem QZ{X:mS}{st st':St}{G:Gh}{w:World}{l:ag}(h:st.zk l=some st')(hm:az X st G w):
  ∃ G',az X st' G' w∧G.MT G'∧rK st st':=by
 have ae6:st' = st→∃ G',az X st' G' w∧G.MT G'∧rK st st':=fun e=>by subst e;exact⟨G,hm,.refl G,.refl _⟩
 cases l with
 |mT a=>
  simp only[St.zk] at h;cases hA:look st.cO a with
  |none=>
   simp only[hA] at h;cases hB:look st.fQ a with
   |none=>simp[hB] at h
   |some A=>cases hs:A.sh<;>simp[hB,hs] at h;exact ae6 h.symm
  |some A=>
   simp only[hA] at h;cases hs:A.sh with
   |true=>simp[hs] at h;exact ae6 h.symm
   |false=>
    cases hw:A.gz with
    |false=>simp[hs,hw] at h
    |true=>
    simp only[hs,hw,aqa,aja,OQ] at h;subst h;have pt:st.arr a=some A:=by simp[St.arr,hA]
    have jG:∀ p∈G.HA a,eW G st (true,a) p.1:=fun p hp=>⟨⟨A,pt,hs⟩,p,hp,rfl⟩;have HO:=hm.nd a A pt hs;let S':DN:=fun b=>match (G.HA a).find? (fun q=>q.1==b) with|some p=>some p.2|none=>G.S b
    have hS':∀ p∈G.HA a,S' p.1=some p.2:=fun p hp=>by simp only[S',VA HO hp]
    have hSS:∀ b o,G.S b=some o→S' b=some o:=fun b o hb=>by
     simp only[S'];cases hf:(G.HA a).find? (fun q=>q.1==b) with
     |none=>exact hb
     |some p=>
      have hp:=b0a hf;have hpb:p.1=b:=by simpa using cxa hf
      have:=hm.dS _ _ (jG p hp);rw[hpb,hb] at this;cases this
    have hSc:∀ b o,S' b=some o→G.S b=some o∨(b,o)∈G.HA a:=fun b o hb=>by
     simp only[S'] at hb;cases hf:(G.HA a).find? (fun q=>q.1==b) with
     |none=>rw[hf] at hb;exact .inl hb
     |some p=>
      rw[hf] at hb;have hp:=b0a hf;have hpb:p.1=b:=by simpa using cxa hf
      cases hb;subst hpb;exact .inr hp
    have p6:G.MT {G with S:=S' }:=⟨hSS,rfl,rfl,rfl,rfl,rfl,rfl,rfl,rfl⟩
    have nS:∀ x b,eW {G with S:=S' } (st.gP a {A with sh:=true}) x b→eW G st x b∧x≠(true,a):=fun x b hx=>by
     obtain⟨k,n⟩:=x;cases k with
     |false=>exact⟨hx,by simp⟩
     |true=>
      obtain⟨⟨B,hB,Kn⟩,hp⟩:=hx;rw[dI] at hB;by_cases e:a=n
      ·simp only[e,ava,OQ] at hB;rw[←hB] at Kn;cases Kn
      ·simp only[e,Q9] at hB
       exact⟨⟨⟨B,hB,Kn⟩,hp⟩,by simp;exact fun h=>e h.symm⟩
    refine⟨{G with S:=S' },?_,p6,⟨rfl,fun _=>rfl,fun _=>rfl,fun o j l=>by simp,rfl,rfl,rfl⟩⟩
    refine {sl:=hm.sl,sh:=?_,ob:=?_,ar:=?_,ah:=?_,nd:=?_,qs:=?_,dS:=?_,tY:=?_,s0:=?_,sn:=?_,fr:=hm.fr,sz:=hm.sz,os:=hm.os,tp:=hm.tp,out:=hm.out,pin:=hm.pin,bv:=hm.bv,ap:=fun q u h=>(by obtain⟨h1,⟨B,h2⟩,h3⟩:=hm.ap q u h;exact⟨h1,(by rw[dI];split<;>exact⟨_,by first|rfl|exact h2⟩),h3⟩),hv:=hm.hv,ds:=hm.ds,hh:=fun q B hB Co hn=>(by
     rw[dI] at hB;by_cases e:a=q
     ·simp only[e,ava,OQ] at hB;rw[←hB] at Co;cases Co
     ·simp only[e,Q9] at hB;exact hm.hh q B hB Co hn)}
    ·intro b o hb
     rcases hSc b o hb with h|h
     ·exact hm.sh b o h
     ·exact hm.ah a A pt hs _ h
    ·intro o ls ho
     obtain⟨arr,elem,mid,h1,h2,h3⟩:=hm.ob o ls ho;refine⟨arr,elem,mid,h1,h2,?_⟩;unfold ip at h3 ⊢;rw[ke (st:=st) (fun j l=>by simp)]
     exact h3.imp fun _ _=>aS.sub p6
    ·intro b B hB
     rw[dI] at hB;by_cases e:a=b
     ·subst e
      simp only[ava,OQ] at hB;subst hB;have h0:=hm.ar a A pt
      replace h0:=(ia hs hw).1 h0
      refine(xV rfl).2 ?_;rcases h0 with ⟨h1,h2,h3⟩|⟨b,cap,arr,elem,cells,rest,H',e1,e2,e3,e4,e5,e6⟩
      ·exact⟨rfl,.inl ⟨h1,none,0,h3⟩⟩
      ·refine⟨rfl,.inr ⟨b,cap,arr,elem,(0,0),[],cells,rest,e1,hS' (b,Obj.cells arr elem (0,0)) (by rw[e2];simp),e3,?_,e5⟩⟩
       exact e6.Dp (S':=S') (fun c x H hp hr=>gh.Dp hSS hp hr) (fun p hp=>hS' p (by rw[e2];simp[hp]))
     ·simp only[e,Q9] at hB
      exact(hm.ar b B hB).mono hSS rfl rfl (fun _ _ _=>⟨rfl,rfl,rfl⟩)
    ·intro b B hB Kn
     rw[dI] at hB;by_cases e:a=b
     ·simp only[e,ava,OQ] at hB;rw[←hB] at Kn;cases Kn
     ·simp only[e,Q9] at hB;exact hm.ah b B hB Kn
    ·intro b B hB Kn
     rw[dI] at hB;by_cases e:a=b
     ·simp only[e,ava,OQ] at hB;rw[←hB] at Kn;cases Kn
     ·simp only[e,Q9] at hB;exact hm.nd b B hB Kn
    ·exact fun x y b hx hy=>hm.qs x y b (nS x b hx).1 (nS y b hy).1
    ·intro x b hx
     obtain⟨h1,h2⟩:=nS x b hx;cases hS:S' b with
     |none=>exact hS
     |some o=>
      rcases hSc b o hS with h|h
      ·rw[hm.dS x b h1] at h;cases h
      ·exact absurd (hm.qs x (true,a) b h1 (jG (b,o) h)) h2
    ·exact fun x b hx=>hm.tY x b (nS x b hx).1
    ·exact fun b o hb=>hSS b o (hm.s0 b o hb)
    ·intro b o hb
     rcases hSc b o hb with h|h
     ·exact hm.sn b o h
     ·exact .inr (hm.tY _ _ (jG (b,o) h))
 |_=>simp only[St.zk,OQ] at h;exact ae6 h.symm
theorem FA{X:mS}{w:World}:∀{ls:List ag} {st st':St} {G:Gh},st.vF ls=some st'→az X st G w→
  ∃ G',az X st' G' w∧G.MT G'∧rK st st'
 |[],st,st',G,h,hm=>by simp only[St.vF,OQ] at h;subst h;exact⟨G,hm,.refl G,.refl _⟩
 |l::ls,st,st',G,h,hm=>by
  simp only[St.vF] at h;cases h1:st.zk l with
  |none=>simp[h1] at h
  |some wU=>simp only[h1] at h;obtain⟨G1,m1,s1,k1⟩:=QZ h1 hm;obtain⟨G2,m2,s2,k2⟩:=FA h m1;exact⟨G2,m2,s1.trans s2,k1.trans k2⟩
theorem FB{X:mS}{w:World}{v:ae}{st st':St}{G:Gh}(h:v.qL st=some st')(hm:az X st G w):
  ∃ G',az X st' G' w∧G.MT G'∧rK st st':=by
 cases v with
 |one l=>exact QZ h hm
 |agg ls=>exact FA h hm
 |Lm vs=>cases h
 |AH t ls=>exact FA h hm
end Go.Fx
namespace Go.Fx
def KdV:Kd→Value→Prop
 |.int k,v=>∃ n,v=.int k n
 |.bool,v=>∃ b,v=.bool b
 |.str,v=>∃ s,v=.string s
def Eg:Value→Value→Bool
 |.int _ a,.int _ b=>a==b
 |.bool a,.bool b=>a==b
 |.string a,.string b=>a==b
 |_,_=>false
def wb:List Value→List Value→Bool
 |x::r,y::s=>Eg x y&&wb r s
 |_,_=>true
def X0(P:Program)(f:TypeId→Option (List Kd)):List Field→Option (List Kd)
 |[]=>some []
 |fl::r=>(match f fl.type,X0 P f r with
  |some ks,some l=>(bif fl.name != "_" && Nat.beq (P.cellsOf fl.type) ks.length&&Nat.blt 0 ks.length then some (ks++l) else none)
  |_,_=>none)
def Ym(P:Program):List Field→Nat→Bool
 |[],_=>true
 |fl::r,o=>Nat.beq fl.offset o&&Ym P r (o+P.cellsOf fl.type)
def De(P:Program):Nat→TypeId→Option (List Kd)
 |0,_=>none
 |m+1,t=>(match P.underlying t with
  |some .bool=>some [.bool]
  |some (.int k)=>some [.int k]
  |some .string=>some [.str]
  |some (.struct fs)=>(bif !P.stoodInHeld t&&Ym P fs.toList 0 then X0 P (De P m) fs.toList else none)
  |_=>none)
def IsV(P:Program)(t:TypeId)(xs:List Value)(x:Value):Prop:=
 match P.underlying t with
 |some (.struct _)=>x=.agg xs.toArray
 |_=>xs=[x]
section
variable {P:Program} (w:World)
theorem W3{m:Nat}{e:TypeId}{ks:List Kd}(h:De P m e=some ks)(hc:P.cellsOf e=ks.length){xs:Array Value}{off:Nat}(hl:off+ks.length≤xs.size):
  ∃ a,(part e xs off).run P w=.ok a w∧IsV P e ((xs.toList.drop off).take ks.length) a:=by
 cases m with
 |zero=>cases h
 |succ m=>
  simp only[De] at h;have AM:∀{d:TypeDesc},P.underlying e=some d→ks.length=1→(∀ fs,d≠.struct fs)→(isAgg e).run P w=.ok false w→∃ a,(part e xs off).run P w=.ok a w∧IsV P e ((xs.toList.drop off).take ks.length) a:=fun {d} hu h1 hs hg=>by
   have bg:off<xs.size:=by omega
   refine⟨xs[off],?_,?_⟩
   ·simp[part,hg,bg]
   ·unfold IsV
    rw[hu];cases d<;>first|exact absurd rfl (hs _)|(simp only[];rw[h1];apply bHa;intro i;cases i with
     |zero=>simp[bg]
     |succ i=>simp;omega)
  split at h
  ·rename_i hu;cases h;exact AM hu rfl (fun fs e=>by cases e) (by simp[isAgg,aEa hu])
  ·rename_i k hu;cases h;exact AM hu rfl (fun fs e=>by cases e) (by simp[isAgg,aEa hu])
  ·rename_i hu;cases h;exact AM hu rfl (fun fs e=>by cases e) (by simp[isAgg,aEa hu])
  ·rename_i fs hu
   obtain⟨i,hi⟩:=info_of_underlying hu;refine⟨.agg (xs.extract off (off+P.cellsOf e)),by simp[part,isAgg,aEa hu,run_sizeOf w hi],?_⟩
   unfold IsV;rw[hu];simp only[];rw[hc]
   congr 1
   apply Array.toList_inj.1;rw[Array.toList_extract];simp[List.extract]
  ·cases h
theorem IB:∀{xs ys xs' ys':List Value},xs.length=ys.length→wb (xs++xs') (ys++ys')=(wb xs ys&&wb xs' ys')
 |[],[],_,_,_=>by simp[wb]
 |x::r,y::s,xs',ys',h=>by simp only[a4a,wb,IB (xs:=r) (ys:=s) (by simpa using h),Bool.and_assoc]
 |[],_::_,_,_,h=>by simp at h
 |_::_,[],_,_,h=>by simp at h
def Wb(P:Program)(m:Nat):Prop:=∀(t:TypeId) (ks:List Kd),De P m t=some ks→∀(d:Nat) (w:World) (x y:Value) (xs ys:List Value),All2 KdV ks xs→All2 KdV ks ys→IsV P t xs x→IsV P t ys y→
 (Op.equalIn (d+m) t x y).run P w=.ok (wb xs ys) w
theorem JZ{α β:Type}{R:α→β→Prop}:∀{ks ls:List α} {xs:List β},All2 R (ks++ls) xs→All2 R ks (xs.take ks.length)∧All2 R ls (xs.drop ks.length)
 |[],ls,xs,h=>⟨by simp[All2],by simpa using h⟩
 |k::ks,ls,x::xs,h=>by obtain⟨h1,h2⟩:=h;obtain⟨h3,h4⟩:=JZ (ks:=ks) h2;exact⟨⟨h1,by simpa using h3⟩,by simpa using h4⟩
 |k::ks,ls,[],h=>h.elim
theorem Qe{m d:Nat}(ih:Wb P m)(xs ys:Array Value):∀{fs:List Field} {off:Nat} {ks:List Kd},X0 P (De P m) fs=some ks→Ym P fs off=true→All2 KdV ks (xs.toList.drop off)→All2 KdV ks (ys.toList.drop off)→
  (Op.eqFields (d+m) xs ys fs).run P w=.ok (wb (xs.toList.drop off) (ys.toList.drop off)) w
 |[],off,ks,h,_,hx,hy=>by
  cases h;have e1:xs.toList.drop off=[]:=by cases hq:xs.toList.drop off with
   |nil=>rfl
   |cons a r=>rw[hq] at hx;exact hx.elim
  rw[e1];simp[Op.eqFields,wb]
 |f::r,off,ks,h,ho,hx,hy=>by
  simp only[X0] at h;split at h
  ·rename_i k1 k2 h1 h2
   cases hb:(f.name != "_" && Nat.beq (P.cellsOf f.type) k1.length&&Nat.blt 0 k1.length) with
   |false=>rw[hb] at h;cases h
   |true=>
    rw[hb] at h;cases h;simp only[Q3,aUa] at hb;obtain⟨⟨hn,hc⟩,rQ⟩:=hb;have rQ:0<k1.length:=by simpa[b6a] using rQ
    have hc:=Q4 hc;simp only[Ym,Q3] at ho;obtain⟨ho1,ho2⟩:=ho;have ho1:=Q4 ho1;obtain⟨x1,x2⟩:=JZ hx;obtain⟨y1,y2⟩:=JZ hy;rw[cla] at x2 y2;have lx:off+k1.length≤xs.size:=by have:=All2.length hx;simp at this;omega
    have ly:off+k1.length≤ys.size:=by have:=All2.length hy;simp at this;omega
    obtain⟨a,p1,v1⟩:=W3 w h1 hc (xs:=xs) (off:=off) lx;obtain⟨b,p2,v2⟩:=W3 w h1 hc (xs:=ys) (off:=off) ly;have he:=ih f.type k1 h1 d w a b _ _ x1 y1 v1 v2;rw[hc] at ho2;have ht:=Qe (d:=d) ih xs ys (fs:=r) (off:=off+k1.length) h2 ho2 x2 y2;have e3:xs.toList.drop off=(xs.toList.drop off).take k1.length++xs.toList.drop (off+k1.length):=by rw[←cla,bOa]
    have e4:ys.toList.drop off=(ys.toList.drop off).take k1.length++ys.toList.drop (off+k1.length):=by rw[←cla,bOa]
    have hl:((xs.toList.drop off).take k1.length).length=((ys.toList.drop off).take k1.length).length:=by rw[←All2.length x1,←All2.length y1]
    rw[e3,e4,IB hl];simp only[Op.eqFields,hn,ne_eq,not_false_eq_true,ava,aMa,ho1,p1,p2,he,aFa];cases wb ((xs.toList.drop off).take k1.length) ((ys.toList.drop off).take k1.length) with
    |false=>simp
    |true=>simpa using ht
  ·cases h
theorem Wr:∀ m,Wb P m
 |0=>fun t ks h=>by cases h
 |m+1=>fun t ks h d w x y xs ys hx hy vx vy=>by
  simp only[De] at h;unfold IsV at vx vy;split at h
  ·rename_i hu
   cases h;rw[hu] at vx vy;simp only at vx vy;subst vx vy;obtain⟨⟨a,rfl⟩,_⟩:=hx;obtain⟨⟨b,rfl⟩,_⟩:=hy;rw[←bKa,Op.equalIn];simp[aEa hu,wb,Eg]
  ·rename_i k hu
   cases h;rw[hu] at vx vy;simp only at vx vy;subst vx vy;obtain⟨⟨a,rfl⟩,_⟩:=hx;obtain⟨⟨b,rfl⟩,_⟩:=hy;rw[←bKa,Op.equalIn];simp[aEa hu,wb,Eg]
  ·rename_i hu
   cases h;rw[hu] at vx vy;simp only at vx vy;subst vx vy;obtain⟨⟨a,rfl⟩,_⟩:=hx;obtain⟨⟨b,rfl⟩,_⟩:=hy;rw[←bKa,Op.equalIn];simp[aEa hu,wb,Eg]
  ·rename_i fs hu
   cases hb:(!P.stoodInHeld t&&Ym P fs.toList 0) with
   |false=>rw[hb] at h;cases h
   |true=>
    rw[hb] at h;simp only[Q3,aOa] at hb;simp only[aja] at h;rw[hu] at vx vy;simp only at vx vy;subst vx vy;have hfs:P.fieldsOf t=fs:=by simp[Program.fieldsOf,hu]
    rw[←bKa,run_equalIn_struct w (d+m) t _ _ (by rw[hfs];exact hu) hb.1,hfs]
    have:=Qe w (d:=d) (Wr m) xs.toArray ys.toArray h hb.2 (by simpa using hx) (by simpa using hy)
    simpa using this
  ·cases h
theorem TA:∀{m:Nat} {t:TypeId} {ks:List Kd},De P m t=some ks→∀ d,P.eqGuardType (d+m) t=false
 |0,t,ks,h,d=>by cases h
 |m+1,t,ks,h,d=>by
  simp only[De] at h;rw[←bKa,Program.eqGuardType];split at h
  ·rename_i hu;simp[hu]
  ·rename_i k hu;simp[hu]
  ·rename_i hu;simp[hu]
  ·rename_i fs hu
   simp only[hu];cases hb:(!P.stoodInHeld t&&Ym P fs.toList 0) with
   |false=>rw[hb] at h;cases h
   |true=>
    rw[hb] at h;simp only[aja] at h;have key:∀{l:List Field} {ks:List Kd},X0 P (De P m) l=some ks→∀ f∈l,P.eqGuardType (d+m) f.type=false:=by
     intro l;induction l with
     |nil=>intro ks _ f hf;cases hf
     |cons f r ih=>
      intro ks h g hg;simp only[X0] at h;split at h
      ·rename_i k1 k2 h1 h2
       rcases ama.1 hg with rfl|hg
       ·exact TA h1 d
       ·exact ih h2 g hg
      ·cases h
    rw[Array.any_eq_false'];intro f hf;simp[key h f (Array.mem_toList_iff.2 hf)]
  ·cases h
end
end Go.Fx
namespace Go.Fx
def zv:TD→TypeDesc→Prop
 |.int k,.int k'=>k=k'
 |.bool,.bool=>True
 |.str,.string=>True
 |.slice e,.slice e'=>e=e'
 |.struct fs,.struct ol=>fs=ol.toList.map fun f=>(f.offset,f.type)
 |.lw e,.pointer e'=>e=e'
 |.arr n e,.array n' e'=>n=n'∧e=e'
 |.mp k v,.map k' v'=>k=k'∧v=v'
 |.aaA,d=>d.isRow=false∧(match d with | .int _ | .string | .slice _=>False|_=>True)
 |_,_=>False
def As(P:Program)(t:TypeId)(ti:TI):Prop:=
 ∃ i d z,P.info? t=some i∧P.underlying t=some d∧i.size=ti.size∧i.bytes=ti.bytes∧i.zero=some z∧z.cells.toList=ti.zero∧zv ti.iQ d∧
  (ti.iQ.agg=false→ti.size=1)∧ti.zero.length=ti.size∧(∀ ks,ti.iQ.agg=true→ti.ty.bind Kv=some ks→De P 6 t=some ks)∧
  ∀ k v,ti.iQ=.mp k v→P.underlying k=some .string∧P.underlying v=some (.int .i64)∧∃ j,P.info? v=some j∧j.zero=some (.int .i64 0)
def iO(P:Program)(iE:Nat→Option TI):Prop:=∀ t ti,iE t=some ti→As P t ti
theorem zv.row{x:TD}{d:TypeDesc}(h:zv x d):d.isRow=x.agg:=by cases x<;>cases d<;>simp_all[zv,TypeDesc.isRow,TD.agg]
theorem Ww{α:Type}{G:Gh}{R:List Value→α→gj→Prop}{f:α→List ag}(hf:∀ c x,R c x []→All2 (aS G) (f x) c):∀{l:List α} {cs:List Value} {H:gj},H=[]→RepL R cs l H→All2 (aS G) (l.flatMap f) cs
 |[],cs,H,_,h=>by rw[h.1];trivial
 |x::l,cs,H,hH,⟨c1,c2,H1,H2,e1,e2,r,rl⟩=>by obtain⟨rfl,rfl⟩:=bXa.1 (hH ▸ e2.symm:H1++H2=[]);rw[e1,bSa];exact(hf _ _ r).append (Ww hf rfl rl)
theorem lV{G:Gh}:∀{t:Ty} {d:t.nH} {cs:List Value},gh G.S false t cs d []→All2 (aS G) (jZ t d) cs
 |.int k,d,cs,h=>by rw[h.1];exact⟨⟨_,by simp[Ty.agg],rfl,rfl⟩,trivial⟩
 |.bool,d,cs,h=>by rw[h.1];exact⟨⟨_,by simp[Ty.agg],rfl,rfl⟩,trivial⟩
 |.str,d,cs,h=>by rw[h.1];exact⟨⟨_,by simp[Ty.agg],rfl,rfl⟩,trivial⟩
 |.slice t,d,cs,h=>by
  have hs:=gh.size h
  match cs,hs,h with
  |[v],_,h=>exact⟨⟨[v],by simp[Ty.agg],h⟩,trivial⟩
 |.da a b,d,cs,h=>by obtain⟨c1,c2,H1,H2,rfl,hH,h1,h2⟩:=h;obtain⟨rfl,rfl⟩:=bXa.1 hH.symm;exact(lV h1).append (lV h2)
 |.one a,d,cs,h=>by exact lV (t:=a) h
 |.arr n t,d,cs,h=>Ww (fun c x hx=>lV (t:=t) hx) rfl h.1
theorem Zx{X:mS}{st:St}{G:Gh}{w:World}(hm:az X st G w){t:Ty}{l:ag}{d:t.nH}{v:Value}(h:l.vK st t=some d)(r:aS G l v):aS G (.eZ t d) v:=by
 cases l with
 |eZ u e=>obtain⟨rfl,rfl⟩:=lT h;exact r
 |nil=>
  cases t with
  |slice t=>simp only[ag.vK,OQ] at h;subst h;simp only[aS] at r;subst r;exact⟨_,by simp[Ty.agg],rfl,.inl ⟨rfl,none,0,rfl⟩⟩
  |_=>simp[ag.vK] at h
 |mT a=>
  simp only[ag.vK] at h;cases hA:st.arr a with
  |none=>simp[hA] at h
  |some A=>
   cases hs:A.sh with
   |false=>simp[hA,hs] at h
   |true=>
    simp only[hA,hs,ava] at h;obtain⟨e,hd⟩:=lT h;subst e;subst hd;have:=hm.ar a A hA
    replace this:=(xV hs).1 this
    simp only[aS] at r;subst r;exact⟨[G.ψ a],by simp[Ty.agg],this⟩
 |_=>simp[ag.vK] at h
theorem NC{X:mS}{st:St}{G:Gh}{w:World}(hm:az X st G w){t:Ty}(ht:t.agg=false){l:ag}{d:t.nH}{v:Value}(h:l.vK st t=some d)(r:aS G l v):
  gh G.S false t [v] d []:=by
 obtain⟨cs,e,hr⟩:=Zx hm h r;simp only[ht,asa,Q9] at e;subst e;exact hr
theorem NW{X:mS}{st:St}{G:Gh}{w:World}(hm:az X st G w):∀{t:Ty} {ls r:List ag} {d:t.nH} {vs:List Value},py st t ls=some (d,r)→All2 (aS G) ls vs→
  ∃ c1 c2,vs=c1++c2∧gh G.S false t c1 d []∧All2 (aS G) r c2:=by
 have bP:∀{t:Ty},t.agg=false→∀{ls r:List ag} {d:t.nH} {vs:List Value},
   (match ls with|[]=>none|l::r=>(l.vK st t).map fun d=>(d,r))=some (d,r)→All2 (aS G) ls vs→
   ∃ c1 c2,vs=c1++c2∧gh G.S false t c1 d []∧All2 (aS G) r c2:=by
  intro t ht ls r d vs h a
  match ls,vs,h,a with
  |l::ls,v::vs,h,a=>simp only[aKa,ala] at h;obtain⟨d',hd,rfl,rfl⟩:=h;exact⟨[v],vs,rfl,NC hm ht hd a.1,a.2⟩
  |[],_,h,_=>simp at h
 intro t;induction t with
 |int k=>exact fun h a=>bP rfl h a
 |bool=>exact fun h a=>bP rfl h a
 |str=>exact fun h a=>bP rfl h a
 |slice t _=>exact fun h a=>bP rfl h a
 |da a b NV ihb=>
  intro ls r d vs h al;simp only[py] at h;cases h1:py st a ls with
  |none=>simp[h1] at h
  |some p=>
   obtain⟨x,r1⟩:=p;simp only[h1] at h;cases h2:py st b r1 with
   |none=>simp[h2] at h
   |some q=>obtain⟨y,r2⟩:=q;simp only[h2,OQ,ala] at h;obtain⟨rfl,rfl⟩:=h;obtain⟨c1,c2,rfl,g1,a1⟩:=NV h1 al;obtain⟨c3,c4,rfl,g2,a2⟩:=ihb h2 a1;exact⟨c1++c3,c4,by simp,⟨c1,c3,[],[],rfl,rfl,g1,g2⟩,a2⟩
 |one a NV=>intro ls r d vs h al;exact NV h al
 |arr n t ih=>
  intro ls r d vs h al;have key:∀(n:Nat) {ls r:List ag} {d:List t.nH} {vs:List Value},Qt (py st t) n ls=some (d,r)→All2 (aS G) ls vs→
    ∃ c1 c2,vs=c1++c2∧(RepL (gh G.S false t) c1 d []∧d.length=n)∧All2 (aS G) r c2:=by
   intro n;induction n with
   |zero=>intro ls r d vs h al;simp only[Qt,OQ,ala] at h;obtain⟨rfl,rfl⟩:=h;exact⟨[],vs,rfl,⟨⟨rfl,rfl⟩,rfl⟩,al⟩
   |succ n ihn=>
    intro ls r d vs h al;simp only[Qt] at h;cases h1:py st t ls with
    |none=>simp[h1] at h
    |some p=>
     obtain⟨x,r1⟩:=p;simp only[h1] at h;cases h2:Qt (py st t) n r1 with
     |none=>simp[h2] at h
     |some q=>obtain⟨y,r2⟩:=q;simp only[h2,OQ,ala] at h;obtain⟨rfl,rfl⟩:=h;obtain⟨c1,c2,rfl,g1,a1⟩:=ih h1 al;obtain⟨c3,c4,rfl,⟨g2,g3⟩,a2⟩:=ihn h2 a1;exact⟨c1++c3,c4,by simp,⟨⟨c1,c3,[],[],rfl,rfl,g1,g2⟩,by simp[g3]⟩,a2⟩
  exact key n h al
theorem D7{X:mS}{st:St}{G:Gh}{w:World}(hm:az X st G w){t:Ty}{v:ae}{d:t.nH}{x:Value}(h:v.vK st t=some d)(r:aO G v x):aS G (.eZ t d) x:=by
 cases v with
 |one l=>exact Zx hm h r
 |agg ls=>
  simp only[ae.vK] at h;cases ht:t.agg with
  |false=>simp[ht] at h
  |true=>
   simp only[ht,aja] at h;cases hi:py st t ls with
   |none=>simp[hi] at h
   |some p=>
    obtain⟨e,r'⟩:=p;cases r' with
    |cons=>simp[hi] at h
    |nil=>
     simp only[hi,OQ] at h;subst h;obtain⟨cs,rfl,ha⟩:=r;obtain⟨c1,c2,rfl,g1,a1⟩:=NW hm hi ha;cases c2 with
     |cons=>exact a1.elim
     |nil=>exact⟨c1,by simp[ht],g1⟩
 |Lm vs=>simp[ae.vK] at h
 |AH t' ls=>simp[ae.vK] at h
theorem Tg{X:mS}{st:St}{G:Gh}{w:World}(hm:az X st G w){l:ag}{v:Value}(hc:l.cell=true)(r:aS G l v):v.oneCell' = true∧v.cells = #[v]:=by
 cases l with
 |any=>cases hc
 |vb=>cases hc
 |vV=>cases hc
 |eZ t d=>
  obtain⟨cs,e,hr⟩:=r;simp only[ag.cell,aOa] at hc;simp only[hc,asa,Q9] at e;subst e;cases t with
  |int k=>cases hr.1;exact⟨rfl,rfl⟩
  |bool=>cases hr.1;exact⟨rfl,rfl⟩
  |str=>cases hr.1;exact⟨rfl,rfl⟩
  |slice t=>rcases hr with ⟨_,⟨_,iG,cap,h⟩|⟨b,cap,arr,elem,fz,pre,cells,rest,h,_⟩⟩<;>cases h<;>exact⟨rfl,rfl⟩
  |da a b=>cases hc
  |one a=>cases hc
  |arr n a=>cases hc
 |nil=>cases r;exact⟨rfl,rfl⟩
 |KD=>cases r;exact⟨rfl,rfl⟩
 |mT a=>rcases hm.sl a with ⟨b,n,c,h⟩|⟨q,h⟩|⟨q,h⟩<;>(simp only[aS] at r;rw[r,h];exact⟨rfl,rfl⟩)
 |lw o off=>cases r;exact⟨rfl,rfl⟩
 |Ei a sz i off=>obtain⟨b,len,cap,h1,h2,rfl⟩:=r;exact⟨rfl,rfl⟩
 |PO t d off=>obtain⟨b,arr,elem,fz,pre,cs,post,h1,h2,h3,rfl⟩:=r;exact⟨rfl,rfl⟩
 |fn f=>cases r;exact⟨rfl,rfl⟩
 |Ft a v sz i off=>obtain⟨_,⟨x,n,c,rfl⟩,_⟩:=r;exact⟨rfl,rfl⟩
 |nse a v sz i off sz2 j T4=>obtain⟨b2,Kx,LM,_,_,rfl⟩:=r;exact⟨rfl,rfl⟩
 |Mo a k n=>obtain⟨b,_,rfl⟩:=r;exact⟨rfl,rfl⟩
 |ga t l=>obtain⟨b,arr,elem,fz,cs,rest,h1,h2,h3,rfl⟩:=r;exact⟨rfl,rfl⟩
theorem mQ{X:mS}{st:St}{G:Gh}{w:World}(hm:az X st G w){v:ae}{ls:List ag}{x:Value}(h:v.p8=some ls)(r:aO G v x):All2 (aS G) ls x.cells.toList:=by
 have key:∀ l:ag,v=.one l→l.cell=true→ls=[l]→All2 (aS G) ls x.cells.toList:=fun l hv hc hl=>by subst hv hl;rw[(Tg hm hc r).2];exact⟨r,trivial⟩
 have dt:∀(t:Ty) (d:t.nH),v=.one (.eZ t d)→t.agg=true→ls=jZ t d→All2 (aS G) ls x.cells.toList:=fun t d hv ht hl=>by subst hv hl;obtain⟨cs,e,hr⟩:=r;simp only[ht,ava] at e;subst e;exact lV hr
 unfold ae.p8 at h;split at h
 ·simp only[OQ] at h;exact dt _ _ rfl rfl h.symm
 ·simp only[OQ] at h;exact dt _ _ rfl rfl h.symm
 ·simp only[OQ] at h;exact dt _ _ rfl rfl h.symm
 ·rename_i l _ _ _
  cases hc:l.cell<;>simp[hc] at h;exact key l rfl hc h.symm
 ·simp only[OQ] at h;subst h
  obtain⟨cs,rfl,ha⟩:=r;exact ha
 ·cases h
theorem E8{α β:Type}{R:α→β→Prop}{ls:List α}{vs:List β}{off n:Nat}{c:List α}(a:All2 R ls vs)(h:(bif Nat.ble (off+n) ls.length then some ((ls.drop off).take n) else none)=some c):
  ∃ pre mid post,vs=pre++(mid++post)∧pre.length=off∧mid.length=n∧All2 R c mid:=by
 cases hb:Nat.ble (off+n) ls.length with
 |false=>simp[hb] at h
 |true=>
  have Cm:off+n≤ls.length:=aZa hb;simp only[hb,aja,OQ] at h;subst h;have hl:=a.length;refine⟨vs.take off,(vs.drop off).take n,(vs.drop off).drop n,?_,by simp;omega,by simp;omega,(a.drop off).take n⟩
  rw[bOa,bOa]
theorem aaG{G:Gh}{c:List ag}{mid:List Value}(a:All2 (aS G) c mid):aO G (ER true c) (.agg mid.toArray):=⟨mid,rfl,a⟩
theorem Ys{G:Gh}{c:List ag}{v:Value}(a:All2 (aS G) c [v]):aO G (ER false c) v:=by
 match c,a with
 |[l],a=>exact a.1
def Yw(agg:Bool)(mid:List Value):Value:=if agg then .agg mid.toArray else mid.headD undef
theorem vz{G:Gh}{g:Bool}{c:List ag}{mid:List Value}(hg:g=false→mid.length=1)(a:All2 (aS G) c mid):aO G (ER g c) (Yw g mid):=by
 cases g with
 |true=>exact aaG a
 |false=>
  match mid,hg rfl with
  |[v],_=>exact Ys a
theorem vE{P:Program}{w:World}{t:TypeId}{ti:TI}(hT:As P t ti){b o:Nat}{mid:List Value}(hl:mid.length=ti.size)(hc:w.rangeAt b o mid):
  (Instr.loadAt t (.pointer (some ⟨b,o,none⟩))).run P w=.ok (Yw ti.iQ.agg mid) w:=by
 obtain⟨i,d,z,h1,h2,h3,h4,h5,h6,h7,h8,h9⟩:=hT;have af8:=h7.row;cases hg:ti.iQ.agg with
 |true=>exact run_loadAt_mid w b o t mid d hc h2 (af8.trans hg) (by rw[h1,hl,←h3];rfl)
 |false=>
  have h1':=h8 hg;rw[h1'] at hl
  match mid,hl,hc with
  |[v],_,hc=>
   have rF:=hc 0 v rfl;have ad7:(isAgg t).run P w=.ok false w:=by unfold isAgg;rw[aMa,aEa h2 w];rw[hg] at af8;cases d<;>simp_all[TypeDesc.isRow]
   simp only[cwa] at rF;simp[Instr.loadAt,Instr.sureAddr,loadVar,ad7,rF,Yw]
theorem oq{w:World}{b o:Nat}{arr:Array Value}{elem:TypeId}{fz:Nat×Nat}{pre mid post:List Value}(h:w.heap[b]? = some (.cells arr elem fz))(ha:arr.toList=pre++(mid++post))(ho:pre.length=o):w.rangeAt b o mid:=by intro j v hj;have bg:j<mid.length:=(aka.1 hj).1;simp only[World.cell?,h,cIa,asa,Q9];rw[←bva,ha,←ho,aTa (by omega),bca,aVa bg,hj]
theorem Mr{G:Gh}{a v sz i:Nat}(hb:∃ b len cap,G.ψ a=.slice (some ⟨b,0,none⟩) len cap∧i<len)(hv:v≤G.vn a):∀{t:Ty} {d:t.nH} {cs:List Value} {H:gj} {off:Nat},t.su=true→gh G.S true t cs d H→
  (∀ j u,cs[j]? = some u→(G.HV a v)[i * sz+(off+j)]? = some u)→All2 (aS G) (Vd a v sz i t d off) cs
 |.int k,d,cs,H,off,_,h,_=>by rw[h.1];exact⟨⟨_,by simp[Ty.agg],rfl,rfl⟩,trivial⟩
 |.bool,d,cs,H,off,_,h,_=>by rw[h.1];exact⟨⟨_,by simp[Ty.agg],rfl,rfl⟩,trivial⟩
 |.str,d,cs,H,off,_,h,_=>by rw[h.1];exact⟨⟨_,by simp[Ty.agg],rfl,rfl⟩,trivial⟩
 |.slice t,d,cs,H,off,_,h,hc=>by
  obtain⟨x,n,c,rfl⟩:∃ x n c,cs=[.slice x n c]:=by rcases h with ⟨_,_,e⟩|⟨b,cap,arr,elem,cells,rest,H',e,_⟩<;>exact⟨_,_,_,e⟩
  exact⟨⟨hv,⟨x,n,c,rfl⟩,hb,hc 0 _ rfl⟩,trivial⟩
 |.da t u,d,cs,H,off,hn,h,hc=>by
  simp only[Ty.su,Q3] at hn;obtain⟨c1,c2,H1,H2,rfl,rfl,h1,h2⟩:=h;have hl:=gh.size h1;refine(Mr hb hv hn.1 h1 fun j u hj=>hc j u (by rw[aVa (aka.1 hj).1];exact hj)).append
   (Mr hb hv hn.2 h2 fun j u hj=>?_)
  have:=hc (t.size+j) u (by rw[aTa (by omega),hl,bca];exact hj)
  rw[bKa];exact this
 |.one t,d,cs,H,off,hn,h,hc=>by exact Mr (t:=t) hb hv hn h hc
 |.arr _ _,d,cs,H,off,hn,_,_=>by cases hn
section ops
variable {P:Program} {E:tn} (hE:iO P E.iE) {X:mS} {st:St} {G:Gh} {w:World} {R:Type} {r:R}
include hE
theorem KG{T:TypeId}{x:ae}{vx:Value}{K:ae→St→Option R}(h:zd E T x st K=some r)(hm:az X st G w)(hx:aO G x vx):
  ∃ av v,(Instr.loadAt T vx).run P w=.ok v w∧aO G av v∧K av st=some r:=by
 unfold zd at h;cases hT:E.iE T with
 |none=>simp[hT] at h
 |some ti=>
  simp only[hT] at h;have hti:=hE T ti hT;have h1:ti.iQ.agg=false→ti.size=1:=by obtain⟨_,_,_,_,_,_,_,_,_,_,h8,_⟩:=hti;exact h8
  cases x with
  |agg ls=>simp[ae.bP] at h
  |Lm ls=>simp[ae.bP] at h
  |AH t ls=>simp[ae.bP] at h
  |one l=>
   simp only[ae.bP] at h;cases l with
   |lw o off=>
    simp only at h;cases ho:st.dN o with
    |none=>simp[ho] at h
    |some ls=>
     simp only[ho] at h;cases hs:qM (st.kc o 0 ls) off ti.size with
     |none=>simp[hs] at h
     |some c=>simp only[hs] at h;obtain⟨arr,elem,mid,e1,e2,e3⟩:=hm.ob o ls ho;obtain⟨p1,m,q1,rfl,f2,f3,f4⟩:=E8 e3 hs;cases hx;refine⟨_,_,vE hti f3 (oq (pre:=G.pre o++p1) (post:=q1++G.post o) e1 (by rw[e2];simp) (by simp[f2])),vz (fun hg=>by rw[f3,h1 hg]) f4,h⟩
   |PO t d off=>
    simp only at h;cases hs:qM (jZ t d) off ti.size with
    |none=>simp[hs] at h
    |some c=>simp only[hs] at h;obtain⟨b,arr,elem,fz,pre,cs,post,e1,e2,e3,rfl⟩:=hx;obtain⟨p1,m,q1,rfl,f2,f3,f4⟩:=E8 (lV e3) hs;refine⟨_,_,vE hti f3 (oq (pre:=pre++p1) (post:=q1++post) (hm.sh _ _ e1) (by rw[e2];simp) (by simp[f2])),vz (fun hg=>by rw[f3,h1 hg]) f4,h⟩
   |ga t l=>
    simp only at h;split at h
    ·rename_i n e hd
     cases hb:(Nat.beq l.length n&&Nat.beq ti.size (n * t.size)) with
     |false=>simp[hb] at h
     |true=>
      simp only[hb,aja] at h;simp only[Q3] at hb;have e1:=Q4 hb.1;have e2:=Q4 hb.2;obtain⟨b,arr,elem,fz,cs,rest,g1,g2,g3,rfl⟩:=hx;have hl:cs.length=ti.size:=by rw[RepL.size (n:=t.size) (fun c x H h=>gh.size h) g3,e1,e2]
      have hag:ti.iQ.agg=true:=by rw[hd];rfl
      refine⟨_,_,vE hti hl (oq (pre:=[]) (post:=rest) (hm.sh _ _ g1) (by rw[g2];rfl) rfl),?_,h⟩
      rw[hag];exact⟨cs,rfl,g3,e1⟩
    ·cases h
   |Ei a sz i off=>
    simp only at h;cases hA:st.arr a with
    |none=>simp[hA] at h
    |some A=>
     simp only[hA] at h;cases hb:(A.sh||!Nat.beq sz A.t.size) with
     |true=>simp[hb] at h
     |false=>
      simp only[hb,aqa] at h;simp only[aGa,boa] at hb;obtain⟨du,mX⟩:=hb;have mX:sz=A.t.size:=Q4 mX;obtain⟨b,len,cap,g1,g2,rfl⟩:=hx;have tH:=hm.ar a A hA;split at h
      ·rename_i vm
       obtain⟨d,hd1,h⟩:=axa.1 h;cases hs:qM (jZ A.t d) off ti.size with
       |none=>simp[hs] at h
       |some c=>
        simp only[hs] at h;have hd:A.bx=false:=by simp[jS.bx,vm]
        replace tH:=(ia du (Ek hd)).1 tH
        rw[hd] at tH;have hi:A.l[i]? = some d:=by simpa[bC] using hd1
        rcases tH with ⟨e1,e2,e3⟩|⟨b',cap',arr,elem,cells,rest,H',e1,e2,e3,e4,e5,e6⟩
        ·rw[e1] at hi;simp at hi
        ·simp only[aJa,a_a] at e1
         rw[e1] at g1;cases g1;have tU:=hm.ah a A hA du (b,Obj.cells arr elem (0,0)) (by rw[e2];simp)
         obtain⟨pre,cc,post,Hp,Hc,Hq,k1,k2,k3,k4,k5⟩:=RepL.at (fun c x H hr=>gh.size hr) e6 hi;have k4':gh G.S false A.t cc d []:=by have e:=gh.nI k4;rw[e] at k4;exact k4
         obtain⟨p1,m,q1,rfl,f2,f3,f4⟩:=E8 (lV k4') hs;refine⟨_,_,vE hti f3 (oq (pre:=pre++p1) (post:=q1++(post++rest)) tU (by rw[e3,k1];simp) (by simp[k2,f2,mX])),vz (fun hg=>by rw[f3,h1 hg]) f4,h⟩
      ·rename_i vm
       cases hna:A.t.su with
       |false=>simp[hna] at h
       |true=>
        simp only[hna,aja] at h;obtain⟨d,hd1,h⟩:=axa.1 h;cases hs:qM (Vd a (st.dC a) A.t.size i A.t d 0) off ti.size with
        |none=>simp[hs] at h
        |some c=>
         simp only[hs] at h
         replace tH:=(ia du (show A.gz=true by simp[jS.gz,vm])).1 tH
         rw[show A.bx=true by simp[jS.bx,vm]] at tH
         have hi:A.l[i]? = some d:=by simpa[bC] using hd1
         rcases tH with ⟨e1,e2,e3⟩|⟨b',cap',arr,elem,cells,rest,H',e1,e2,e3,e4,e5,e6⟩
         ·rw[e1] at hi;simp at hi
         ·simp only[aJa,a_a] at e1
          have g1':=g1;rw[e1] at g1;cases g1;have tU:=hm.ah a A hA du (b,Obj.cells arr elem (0,0)) (by rw[e2];simp)
          have hhd:=hm.hh a A hA du (by simp[jS.nest,vm])
          rw[e2] at hhd;obtain⟨pre,cc,post,Hp,Hc,Hq,k1,k2,k3,k4,k5⟩:=RepL.at (fun c x H hr=>gh.size hr) e6 hi;have hx2:All2 (aS G) (Vd a (st.dC a) A.t.size i A.t d 0) cc:=Mr ⟨b,_,cap,g1',g2⟩ (by rw[hm.hv];exact awa _) hna k4 fun j u hj=>by rw[←hm.hv,hhd];simp only[kF];have hjl:=(aka.1 hj).1;rw[e3,k1,aWa,←k2,a3a,aTa (by omega),bca,a3a,aVa hjl];exact hj
          obtain⟨p1,m,q1,rfl,f2,f3,f4⟩:=E8 hx2 hs;refine⟨_,_,vE hti f3 (oq (pre:=pre++p1) (post:=q1++(post++rest)) tU (by rw[e3,k1];simp) (by simp[k2,f2,mX])),vz (fun hg=>by rw[f3,h1 hg]) f4,h⟩
      ·cases h
   |Mo a k n=>
    simp only at h;cases hA:st.arr a with
    |none=>simp[hA] at h
    |some A=>
     simp only[hA] at h;cases hb:(!A.sh&&Md.lG A.md .arr&&Nat.beq A.t.size 1&&!A.t.agg&&Nat.beq ti.size 1&&!ti.iQ.agg) with
     |false=>rw[hb] at h;cases h
     |true=>
      rw[hb,aja] at h;simp only[Q3,aOa] at hb;obtain⟨⟨⟨⟨⟨du,vm⟩,mX⟩,hag⟩,hts⟩,htg⟩:=hb;have mX:=Q4 mX;have hts:=Q4 hts;obtain⟨d,hd1,h⟩:=axa.1 h;obtain⟨b,g1,rfl⟩:=hx;obtain⟨b',arr,elem,e1,e2,e3⟩:=Hj du (Md.xC vm) (hm.ar a A hA);rw[g1] at e1;cases e1;have tU:=hm.ah a A hA du (b,Obj.cells arr elem (0,0)) (by rw[e2];simp)
      have hi:A.l[k]? = some d:=by simpa[bC] using hd1
      obtain⟨pre,cc,post,Hp,Hc,Hq,k1,k2,k3,k4,k5⟩:=RepL.at (fun c x H hr=>gh.size hr) e3 hi;have k4':gh G.S false A.t cc d []:=by have e:=gh.nI k4;rw[e] at k4;exact k4
      have hx1:=lV (G:=G) k4';have ahi:∀(t:Ty) (d:t.nH),t.agg=false→jZ t d=[.eZ t d]:=fun t d h=>by cases t<;>first|rfl|(simp[Ty.agg] at h)
      have hex:=ahi A.t d hag;have mD:cc.length=ti.size:=by rw[gh.size k4,mX,hts]
      have hp:=vz (g:=ti.iQ.agg) (fun _=>by rw[mD,hts]) hx1
      rw[htg,hex] at hp;refine⟨_,_,vE hti mD (oq (pre:=pre) (post:=post) tU k1 (by rw[k2,mX,Nat.mul_one])),?_,h⟩
      rw[htg];exact hp
   |_=>simp at h
end ops
end Go.Fx
namespace Go.Fx
theorem As.struct{P:Program}{t:TypeId}{s b:Nat}{y:Option Ty}{fs:List (Nat×TypeId)}{z:List Value}(h:As P t ⟨s,b,y,.struct fs,z⟩){f off:Nat}{ft:TypeId}(hf:fs[f]? = some (off,ft)):
  ∃(ol:Array Field) (fld:Field),P.underlying t=some (.struct ol)∧ol[f]? = some fld∧fld.offset=off∧fld.type=ft:=by
 obtain⟨i,d,z',h1,h2,h3,h4,h5,h6,h7,h8,h9⟩:=h;cases d with
 |struct ol=>
  simp only[zv] at h7;subst h7;rw[bGa,bva] at hf;cases hq:ol[f]? with
  |none=>simp[hq] at hf
  |some fld=>simp[hq] at hf;exact⟨ol,fld,h2,hq,hf.1,hf.2⟩
 |_=>simp[zv] at h7
theorem As.vV{P:Program}{t:TypeId}{ti:TI}(h:As P t ti):∃ d,P.underlying t=some d∧zv ti.iQ d:=by obtain⟨i,d,z,h1,h2,h3,h4,h5,h6,h7,_⟩:=h;exact⟨d,h2,h7⟩
theorem As.slice{P:Program}{t:TypeId}{s b:Nat}{y:Option Ty}{e:TypeId}{z:List Value}(h:As P t ⟨s,b,y,.slice e,z⟩):P.underlying t=some (.slice e):=by obtain⟨d,h1,h2⟩:=h.vV;cases d<;>simp_all[zv]
theorem As.str{P:Program}{t:TypeId}{s b:Nat}{y:Option Ty}{z:List Value}(h:As P t ⟨s,b,y,.str,z⟩):P.underlying t=some .string:=by obtain⟨d,h1,h2⟩:=h.vV;cases d<;>simp_all[zv]
theorem As.arr{P:Program}{t:TypeId}{s b:Nat}{y:Option Ty}{n:Nat}{e:TypeId}{z:List Value}(h:As P t ⟨s,b,y,.arr n e,z⟩):P.underlying t=some (.array n e):=by obtain⟨d,h1,h2⟩:=h.vV;cases d<;>simp_all[zv]
theorem As.size{P:Program}{t:TypeId}{ti:TI}(h:As P t ti)(w:World):(sizeOf t).run P w=.ok ti.size w:=by obtain⟨i,d,z,h1,h2,h3,_⟩:=h;simp[sizeOf,typeInfo,h1,h3]
theorem As.isAgg{P:Program}{t:TypeId}{ti:TI}(h:As P t ti)(w:World):(isAgg t).run P w=.ok ti.iQ.agg w:=by obtain⟨d,h1,h2⟩:=h.vV;have:=h2.row;unfold Go.isAgg;rw[aMa,aEa h1 w];cases d<;>simp_all[TypeDesc.isRow]
theorem qy{G:Gh}{v:ae}{k:IntKind}{n:Int}{x:Value}(h:v.F7 = some (k,n))(r:aO G v x):x=.int k n:=by
 unfold ae.F7 at h;split at h
 ·simp only[OQ,ala] at h
  obtain⟨rfl,rfl⟩:=h;obtain⟨cs,e,hr⟩:=r;simp only[Ty.agg,asa,Q9] at e;subst e;cases hr.1;rfl
 ·cases h
theorem wJ{G:Gh}{v:ae}{n:Bool}{x:Value}(h:v.Gm = some n)(r:aO G v x):x=.bool n:=by
 unfold ae.Gm at h;split at h
 ·simp only[OQ] at h;subst h
  obtain⟨cs,e,hr⟩:=r;simp only[Ty.agg,asa,Q9] at e;subst e;cases hr.1;rfl
 ·cases h
theorem Dr{G:Gh}{v:ae}{n:ab}{x:Value}(h:v.OM = some n)(r:aO G v x):x=kw n:=by
 unfold ae.OM at h;split at h
 ·simp only[OQ] at h;subst h
  obtain⟨cs,e,hr⟩:=r;simp only[Ty.agg,asa,Q9] at e;subst e;cases hr.1;rfl
 ·cases h
theorem kU{G:Gh}(k:IntKind)(n:Int):aO G (.one (.eZ (.int k) n)) (.int k n):=⟨_,by simp[Ty.agg],rfl,rfl⟩
theorem oJ{G:Gh}(b:Bool):aO G (.one (.eZ .bool b)) (.bool b):=⟨_,by simp[Ty.agg],rfl,rfl⟩
theorem KM{G:Gh}(s:ab):aO G (.one (.eZ .str s)) (kw s):=⟨_,by simp[Ty.agg],rfl,rfl⟩
theorem Xm(s:ab):(⟨s.toArray⟩:ByteArray).size=s.length:=by simp[ByteArray.size]
theorem I6{α:Type}{l:List α}{n:Int}{x:α}(h:bC l n=some x):0≤n∧l[n.toNat]? = some x∧n<(l.length:Int):=by
 unfold bC at h;by_cases h0:0≤n
 ·simp only[h0,decide_true,aja] at h
  have:=(aka.1 h).1;exact⟨h0,h,by omega⟩
 ·simp[h0] at h
theorem JJ{α:Type}{l:List α}{i j:Int}{x:List α}(h:sub l i j=some x):0≤i∧i≤j∧j≤(l.length:Int)∧x=(l.take j.toNat).drop i.toNat:=by unfold sub at h;by_cases h0:0≤i<;>by_cases h1:i≤j<;>by_cases h2:j≤(l.length:Int)<;>simp[h0,h1,h2] at h;exact⟨h0,h1,h2,h.symm⟩
theorem D4{α:Type}{l m r:List α}(h:bD l m=some r):l.length+m.length≤4294967296∧r=l++m:=by unfold bD at h;by_cases h0:l.length+m.length≤4294967296<;>simp[h0] at h;exact⟨h0,h.symm⟩
section ops
variable {P:Program} {E:tn} (hE:iO P E.iE) {X:mS} {st:St} {G:Gh} {w:World} {R:Type} {r:R}
include hE
theorem EP{T:TypeId}{x:ae}{vx:Value}{f:Nat}{K:ae→St→Option R}(h:nX E T x f st K=some r)(hx:aO G x vx):
  ∃ av v,(Instr.fieldAt T vx f).run P w=.ok v w∧aO G av v∧K av st=some r:=by
 unfold nX at h;split at h
 ·rename_i s b y fs z hT
  cases hf:fs[f]? with
  |none=>simp[hf] at h
  |some p=>
   obtain⟨off,ft⟩:=p;simp only[hf] at h;cases hF:E.iE ft with
   |none=>simp[hF] at h
   |some fi=>
    simp only[hF] at h;cases hz:Nat.beq fi.size 0 with
    |true=>simp[hz] at h
    |false=>
     simp only[hz,aqa] at h;have hz':fi.size≠0:=fun e=>by simp[e] at hz
     obtain⟨ol,fld,g1,g2,rfl,rfl⟩:=(hE T _ hT).struct hf;have mX:=(hE _ _ hF).size w;have iH:∀ b o,(Instr.fieldAt T (.pointer (some ⟨b,o,none⟩)) f).run P w=.ok (.pointer (some ⟨b,o+fld.offset,none⟩)) w:=fun b o=>by simp[Instr.fieldAt,aEa g1,g2,Instr.sureAddr,fieldPlace,mX,hz',bYa]
     cases x with
     |agg ls=>simp[ae.bP] at h
     |Lm ls=>simp[ae.bP] at h
     |AH t ls=>simp[ae.bP] at h
     |one l=>
      simp only[ae.bP] at h;cases l with
      |lw o off=>cases hx;exact⟨_,_,iH _ _,by simp[aO,aS,bKa],h⟩
      |PO t d off=>obtain⟨b,arr,elem,fz,pre,cs,post,e1,e2,e3,rfl⟩:=hx;exact⟨.one (.PO t d (off+fld.offset)),_,iH _ _,⟨b,arr,elem,fz,pre,cs,post,e1,e2,e3,by simp[bKa]⟩,h⟩
      |Ei a sz i off=>obtain⟨b,len,cap,g1,g2,rfl⟩:=hx;exact⟨.one (.Ei a sz i (off+fld.offset)),_,iH _ _,⟨b,len,cap,g1,g2,by simp[bKa]⟩,h⟩
      |_=>simp at h
 ·cases h
theorem Om{T:TypeId}{x:ae}{vx:Value}{f:Nat}{K:ae→St→Option R}(h:xN E T x f st K=some r)(hm:az X st G w)(hx:aO G x vx)(ad7:∃ cs,vx=.agg cs):
  ∃ av v,(Instr.field T vx f).run P w=.ok v w∧aO G av v∧K av st=some r:=by
 unfold xN at h;split at h
 ·rename_i s b y fs z ls hT OZ
  cases hf:fs[f]? with
  |none=>simp[hf] at h
  |some p=>
   obtain⟨off,ft⟩:=p;simp only[hf] at h;cases hF:E.iE ft with
   |none=>simp[hF] at h
   |some fi=>
    simp only[hF] at h;cases hs:qM ls off fi.size with
    |none=>simp[hs] at h
    |some c=>
     simp only[hs] at h;obtain⟨ol,fld,g1,g2,rfl,rfl⟩:=(hE T _ hT).struct hf;obtain⟨cs,rfl⟩:=ad7;have Gv:=mQ hm OZ hx;simp only[Value.cells] at Gv;obtain⟨p1,m,q1,f1,f2,f3,f4⟩:=E8 Gv hs;have hfi:=hE _ _ hF;have mX:=hfi.size w;have hag:=hfi.isAgg w;have h1:fi.iQ.agg=false→fi.size=1:=by obtain⟨_,_,_,_,_,_,_,_,_,_,h8,_⟩:=hfi;exact h8
     refine⟨_,Yw fi.iQ.agg m,?_,vz (fun hg=>by rw[f3,h1 hg]) f4,h⟩
     have DJ:cs=(p1++(m++q1)).toArray:=by rw[←f1]
     cases hg:fi.iQ.agg with
     |true=>
      rw[hg] at hag;have:cs.extract fld.offset (fld.offset+fi.size)=m.toArray:=by apply cza;rw[DJ];simp[←f2,←f3]
      simp[Instr.field,aEa g1,g2,asAgg,part,hag,mX,this,Yw]
     |false=>
      rw[hg] at hag;rw[h1 hg] at f3
      match m,f3,DJ with
      |[u],_,DJ=>
       have:cs[fld.offset]? = some u:=by rw[DJ];simp[←f2]
       simp[Instr.field,aEa g1,g2,asAgg,part,hag,this,Yw]
 ·cases h
theorem EQ{T:TypeId}{x i:ae}{vx vi:Value}{K:ae→St→Option R}(h:mJ E T x i st K=some r)(hm:az X st G w)(hx:aO G x vx)(hi:aO G i vi):
  ∃ av v,(Instr.indexAt T vx vi).run P w=.ok v w∧aO G av v∧K av st=some r:=by
 unfold mJ at h;split at h
 ·rename_i s b y e z k n hT hn
  cases AC:E.iE e with
  |none=>simp[AC] at h
  |some ei=>
   simp only[AC] at h;have hu:=(hE T _ hT).slice;have mX:=(hE _ _ AC).size w;cases qy hn hi;have iH:∀(b o len cap:Nat),0≤n→n<(len:Int)→(Instr.indexAt T (.slice (some ⟨b,o,none⟩) len cap) (.int k n)).run P w=.ok (.pointer (some ⟨b,o+n.toNat * ei.size,none⟩)) w:=fun b o len cap h0 h1=>by simp[Instr.indexAt,asIntOf,aEa hu,h0,h1,mX,bYa]
   have qL:∀(t:Ty) (l:List t.nH) (d:t.nH),ei.size=t.size→bC l n=some d→Ca G.S (RepL (gh G.S false t)) [vx] l []→
     ∃ v,(Instr.indexAt T vx (.int k n)).run P w=.ok v w∧aO G (.one (.PO t d 0)) v:=fun t l d hz hd du=>by
    obtain⟨h0,hd',h1⟩:=I6 hd;rcases du with ⟨_,⟨rfl,_⟩|⟨b,cap,arr,elem,fz,pre,cells,rest,e1,e2,e3,e4,elc⟩⟩
    ·simp at hd'
    ·simp only[aJa,a_a] at e1
     subst e1;obtain⟨p,c,q,Hp,Hc,Hq,k1,k2,k3,k4,_⟩:=RepL.at (fun c x H hr=>gh.size hr) e4 hd';have k4':gh G.S false t c d []:=by have e:=gh.nI k4;rw[e] at k4;exact k4
     exact⟨_,iH b pre.length l.length cap h0 h1,⟨b,arr,elem,fz,pre++p,c,q++rest,e2,by rw[e3,k1];simp,k4',by simp[k2,hz]⟩⟩
   cases x with
   |agg ls=>simp[ae.bP] at h
   |Lm ls=>simp[ae.bP] at h
   |AH t ls=>simp[ae.bP] at h
   |one l=>
    simp only[ae.bP] at h;cases l with
    |eZ t l=>
     cases t with
     |slice t=>
      simp only at h;cases hz:Nat.beq ei.size t.size with
      |false=>simp[hz] at h
      |true=>simp only[hz,aja] at h;obtain⟨d,hd,h⟩:=axa.1 h;obtain⟨cs,e,hr⟩:=hx;simp only[Ty.agg,asa,Q9] at e;subst e;obtain⟨v,h1,h2⟩:=qL t l d (Q4 hz) hd hr;exact⟨_,v,h1,h2,h⟩
     |_=>simp at h
    |mT a=>
     simp only at h;cases hA:st.arr a with
     |none=>simp[hA] at h
     |some A=>
      simp only[hA] at h;cases hz:Nat.beq ei.size A.t.size with
      |false=>simp[hz] at h
      |true=>
       cases hmp:A.Vn with
       |true=>simp[hz,hmp] at h
       |false=>
       simp only[hz,hmp,Bool.not_false,bAa,aja] at h;obtain⟨d,hd,h⟩:=axa.1 h;have tH:=hm.ar a A hA;simp only[aO,aS] at hx;subst hx;cases hs:A.sh with
       |true=>
        simp only[hs,aja] at h
        replace tH:=(xV hs).1 tH
        obtain⟨v,h1,h2⟩:=qL A.t A.l d (Q4 hz) hd tH;exact⟨_,v,h1,h2,h⟩
       |false=>
        simp only[hs,aqa] at h;obtain⟨h0,hd',h1⟩:=I6 hd;rcases IE hs hmp tH with ⟨e1,_⟩|⟨b',cap',e1⟩
        ·rw[e1] at hd';simp at hd'
        ·rw[e1]
         refine⟨.one (.Ei a A.t.size n.toNat 0),_,iH b' 0 A.l.length cap' h0 h1,⟨b',A.l.length,cap',e1,by omega,?_⟩,h⟩
         simp[Q4 hz]
    |_=>simp at h
 ·rename_i s b y m e z k n hT hn
  cases AC:E.iE e with
  |none=>simp[AC] at h
  |some ei=>
   simp only[AC] at h;have hu:=(hE T _ hT).arr;have mX:=(hE _ _ AC).size w;cases qy hn hi;have se:∀{b o:Nat},vx=.pointer (some ⟨b,o,none⟩)→(decide (0≤n)&&decide (n<(m:Int)))=true→(Instr.indexAt T vx (.int k n)).run P w=.ok (.pointer (some ⟨b,o+n.toNat * ei.size,none⟩)) w:=fun {b o} hv hc=>by simp only[Q3,bQa] at hc;rw[hv];simp[Instr.indexAt,asIntOf,aEa hu,hc.1,hc.2,mX,bYa,Instr.sureAddr]
   split at h
   ·rename_i a hl
    have hxe:x=.one (.mT a):=by cases x<;>simp[ae.bP] at hl;rw[hl]
    rw[hxe] at hx;split at h
    ·rename_i A hA
     cases Mu:(!A.sh&&Md.lG A.md .arr) with
     |false=>rw[Mu] at h;cases h
     |true=>
      rw[Mu,aja] at h;cases xd:(decide (0≤n)&&decide (n<(m:Int))) with
      |false=>rw[xd] at h;cases h
      |true=>rw[xd,aja] at h;simp only[Q3,aOa] at Mu;obtain⟨b,arr,elem,e1,e2,e3⟩:=Hj Mu.1 (Md.xC Mu.2) (hm.ar a A hA);have hv:vx=.pointer (some ⟨b,0,none⟩):=Eq.trans (show vx=G.ψ a from hx) e1;exact⟨.one (.Mo a (n.toNat * ei.size) ei.size),_,se hv xd,⟨b,e1,by rw[aWa]⟩,h⟩
    ·cases h
   ·rename_i a q w0 hl
    have hxe:x=.one (.Mo a q w0):=by cases x<;>simp[ae.bP] at hl;rw[hl];
    rw[hxe] at hx;obtain⟨b,e1,hv⟩:=hx;cases xd:(decide (0≤n)&&decide (n<(m:Int))) with
    |false=>rw[xd] at h;cases h
    |true=>rw[xd,aja] at h;exact⟨.one (.Mo a (q+n.toNat * ei.size) ei.size),_,se hv xd,⟨b,e1,rfl⟩,h⟩
   ·cases h
 ·cases h
theorem On{T:TypeId}{x i:ae}{vx vi:Value}{K:ae→St→Option R}(h:xO E T x i st K=some r)(hx:aO G x vx)(hi:aO G i vi):
  ∃ av v,(Instr.index T vx vi).run P w=.ok v w∧aO G av v∧K av st=some r:=by
 unfold xO at h;split at h
 ·rename_i s b y z hT
  split at h
  ·rename_i s' k n hs hn
   obtain⟨c,hc,h⟩:=axa.1 h;cases qy hn hi;cases Dr hs hx;obtain⟨h0,hd',h1⟩:=I6 hc;have hu:=(hE T _ hT).str;refine⟨_,_,?_,kU .u8 _,h⟩;have:(⟨s'.toArray⟩:ByteArray)[n.toNat]? = some c:=by
    have bg:n.toNat<s'.length:=(aka.1 hd').1;have HN:n.toNat<(⟨s'.toArray⟩:ByteArray).size:=by simpa[ByteArray.size] using bg
    rw[getElem?_pos (c:=(⟨s'.toArray⟩:ByteArray)) (i:=n.toNat) HN];have:=(aka.1 hd').2;simpa[ByteArray.getElem_eq_getElem_data] using this
   simp[Instr.index,asIntOf,aEa hu,kw,h0,this]
  ·cases h
 ·rename_i s b y m e z hT
  split at h
  ·rename_i m' t l k n ei hn AC
   cases hc:(Nat.beq m m'&&Nat.beq ei.size t.size&&(bif t.agg then ei.iQ.agg else !ei.iQ.agg)) with
   |false=>simp[hc] at h
   |true=>
    simp only[hc,aja] at h;simp only[Q3] at hc;obtain⟨⟨c1,c2⟩,c3⟩:=hc;obtain rfl:=Q4 c1;have c2:=Q4 c2;have c3:ei.iQ.agg=t.agg:=by cases h1:t.agg<;>cases h2:ei.iQ.agg<;>simp_all
    obtain⟨d,hd,h⟩:=axa.1 h;cases qy hn hi;obtain⟨h0,hd',h1⟩:=I6 hd;obtain⟨cs,e1,hr,jy⟩:=hx;simp only[Ty.agg,ava] at e1;subst e1;have hu:=(hE T _ hT).arr;have AC:=hE e ei AC;have mX:=AC.size w;have hag:=AC.isAgg w;have TH:ei.iQ.agg=false→ei.size=1:=by obtain⟨_,_,_,_,_,_,_,_,_,_,h8,_⟩:=AC;exact h8
    obtain⟨pre,c,post,Hp,Hc,Hq,k1,k2,k3,k4,_⟩:=RepL.at (fun c x H hr=>gh.size hr) hr hd';have k4:gh G.S false t c d []:=by have e:=gh.nI k4;rw[e] at k4;exact k4
    have mD:=gh.size k4;subst k1;rw[jy] at h1;cases hg:ei.iQ.agg with
    |true=>
     rw[hg] at hag;refine⟨.one (.eZ t d),.agg c.toArray,?_,(⟨c,by rw[←c3,hg];rfl,k4⟩:aS G (.eZ t d) _),h⟩
     have:(pre++(c++post)).toArray.extract (n.toNat * ei.size) (n.toNat * ei.size+ei.size)=c.toArray:=by apply cza;rw[c2,←k2,←mD];simp
     simp only[Instr.index,asIntOf,aMa,aEa hu,aFa,baa,h0,h1,aPa,ava,mX,part,hag,this]
    |false=>
     rw[hg] at hag;have e1:=TH hg;have Mu:c.length=1:=by omega
     match c,Mu,k4 with
     |[u],_,k4=>
      refine⟨.one (.eZ t d),u,?_,(⟨[u],by rw[←c3,hg];rfl,k4⟩:aS G (.eZ t d) _),h⟩
      have hk:n.toNat=pre.length:=by rw[k2,←c2,e1];omega
      simp[Instr.index,asIntOf,aEa hu,h0,h1,part,hag,mX,e1,hk]
  ·cases h
 ·cases h
omit hE in
theorem adT{lo:Option ae}{vlo:Option Value}{d n:Int}(h:nA d lo=some n)(hr:∀ a,lo=some a→∃ v,vlo=some v∧aO G a v)(hn:lo=none→vlo=none):
  (vlo=none∧n=d)∨∃ k,vlo=some (.int k n):=by
 cases lo with
 |none=>simp only[nA,OQ] at h;exact .inl ⟨hn rfl,h.symm⟩
 |some a=>simp only[nA,aKa] at h;obtain⟨⟨k,m⟩,h1,h2⟩:=h;simp only at h2;subst h2;obtain⟨v,h3,h4⟩:=hr a rfl;exact .inr ⟨k,by rw[h3,qy h1 h4]⟩
end ops
end Go.Fx
namespace Go.Fx
theorem UK(a b:ab):(⟨a.toArray⟩:ByteArray)++⟨b.toArray⟩=⟨(a++b).toArray⟩:=by apply ByteArray.ext;simp
theorem XH{P:Program}{w:World}(op:BinOp)(T:TypeId)(x y:Operand)(k:IntKind)(a b:Int)(hs:op≠.shl)(Co:op≠.shr):
  ((do eqGuard op T x y (.int k a) (.int k b);binOp op T (.int k a) (.int k b)):Sem Value).run P w=(match op with
   |.add | .sub | .mul=>Op.intArith op k a b
   |.quo | .rem=>Op.intDiv op k a b
   |.and | .or | .xor | .andNot=>Op.intBits op k a b
   |_=>Op.intCmp op a b:Sem Value).run P w:=by
 cases op<;>first|exact absurd rfl hs|exact absurd rfl Co | simp[eqGuard,binOp]
theorem Ey{G:Gh}{x:ae}{v:Value}(h:x.isAgg=true)(r:aO G x v):∃ cs,v=.agg cs:=by
 cases x with
 |agg ls=>obtain⟨cs,e,_⟩:=r;exact⟨_,e⟩
 |one l=>
  cases l with
  |eZ t d=>cases t<;>simp[ae.isAgg] at h<;>(obtain⟨cs,e,_⟩:=r;simp only[Ty.agg,ava] at e;exact⟨_,e⟩)
  |_=>simp[ae.isAgg] at h
 |_=>simp[ae.isAgg] at h
theorem TS{G:Gh}:∀{ks:List Kd} {ls:List ag} {vs:List Value},Kz ks ls=true→All2 (aS G) ls vs→All2 KdV ks vs
 |[],[],[],_,_=>trivial
 |.int k::r,.eZ (.int k') d::s,v::vs,h,hr=>by simp only[Kz,Q3,bQa] at h;obtain⟨rfl,h⟩:=h;cases qy (v:=.one (.eZ (.int k) d)) rfl hr.1;exact⟨⟨d,rfl⟩,TS (ks:=r) h hr.2⟩
 |.bool::r,.eZ .bool d::s,v::vs,h,hr=>by cases wJ (v:=.one (.eZ .bool d)) rfl hr.1;exact⟨⟨d,rfl⟩,TS (ks:=r) h hr.2⟩
 |.str::r,.eZ .str d::s,v::vs,h,hr=>by cases Dr (v:=.one (.eZ .str d)) rfl hr.1;exact⟨⟨_,rfl⟩,TS (ks:=r) h hr.2⟩
 |[],[],_::_,_,hr=>hr.elim
 |_,_::_,[],_,hr=>hr.elim
 |[],_::_,_,h,_=>by simp[Kz] at h
 |.int k::r,[],_,h,_=>by simp[Kz] at h
 |.bool::r,[],_,h,_=>by simp[Kz] at h
 |.str::r,[],_,h,_=>by simp[Kz] at h
theorem Wt{G:Gh}{x y:ag}{v u:Value}{e:Bool}(h:abH x y=some e)(hx:aS G x v)(hy:aS G y u):Eg v u=e:=by
 unfold abH at h;split at h
 ·rename_i k a k' b
  cases qy (v:=.one (.eZ (.int k) a)) rfl hx;cases qy (v:=.one (.eZ (.int k') b)) rfl hy;simpa[Eg] using h
 ·rename_i a b
  cases wJ (v:=.one (.eZ .bool a)) rfl hx;cases wJ (v:=.one (.eZ .bool b)) rfl hy;simpa[Eg] using h
 ·rename_i a b
  cases Dr (v:=.one (.eZ .str a)) rfl hx;cases Dr (v:=.one (.eZ .str b)) rfl hy;simp only[OQ] at h;subst h;simp[Eg,kw,beq_toListBytes,ByteArray.toList_eq]
 ·cases h
theorem RQ{G:Gh}:∀{ls ms:List ag} {xs ys:List Value} {e:Bool},RP ls ms=some e→All2 (aS G) ls xs→All2 (aS G) ms ys→wb xs ys=e
 |[x],[y],[v],[u],e,h,hx,hy=>by simpa[wb] using Wt (by simpa[RP] using h) hx.1 hy.1
 |x::x2::r,y::s,v::vs,u::us,e,h,hx,hy=>by
  simp only[RP] at h;split at h
  ·rename_i a b h1 h2
   simp only[OQ] at h;rw[wb,Wt h1 hx.1 hy.1,RQ h2 hx.2 hy.2,h]
  ·cases h
 |[x],y::y2::s,v::vs,u::us,e,h,hx,hy=>by
  simp only[RP] at h;split at h
  ·rename_i a b h1 h2
   simp[RP] at h2
  ·cases h
 |[],_,_,_,e,h,_,_=>by simp[RP] at h
 |_::_,[],_,_,e,h,_,_=>by cases ‹List ag›<;>simp[RP] at h
 |_::_,_::_,[],_,e,h,hx,_=>hx.elim
 |_::_,_::_,_,[],e,h,_,hy=>hy.elim
section ops
variable {P:Program} {E:tn} (hE:iO P E.iE) {X:mS} {st:St} {G:Gh} {w:World} {R:Type} {r:R}
include hE
theorem T6{op:BinOp}{T:TypeId}{x y:ae}{ox oy:Operand}{vx vy:Value}{K:ae→Option R}(h:Lb E op T x y K=some r)(hm:az X st G w)(hx:aO G x vx)(hy:aO G y vy):
  ∃ av v,((do eqGuard op T ox oy vx vy;binOp op T vx vy):Sem Value).run P w=.ok v w∧aO G av v∧K av=some r:=by
 unfold Lb at h;split at h
 ·rename_i k a k' b
  cases qy (v:=.one (.eZ (.int k) a)) rfl hx;cases qy (v:=.one (.eZ (.int k') b)) rfl hy;split at h
  ·by_cases hb:b<0
   ·simp[hb] at h
   ·simp only[hb,cga,aqa] at h
    exact⟨_,_,by simp[eqGuard,binOp,Op.shift,hb],kU k _,h⟩
  ·by_cases hb:b<0
   ·simp[hb] at h
   ·simp only[hb,cga,aqa] at h
    exact⟨_,_,by simp[eqGuard,binOp,Op.shift,hb],kU k _,h⟩
  ·rename_i hn1 hn2
   by_cases hk:k=k'
   ·subst hk
    simp only[decide_true,cLa,aqa] at h;have iH:=XH (P:=P) (w:=w) op T ox oy k a b hn1 hn2;split at h
    ·exact⟨_,_,by rw[iH];simp[Op.intArith],kU k _,h⟩
    ·exact⟨_,_,by rw[iH];simp[Op.intArith],kU k _,h⟩
    ·exact⟨_,_,by rw[iH];simp[Op.intArith],kU k _,h⟩
    ·by_cases hb:b=0
     ·simp[hb] at h
     ·simp only[hb,cga,aqa] at h
      exact⟨_,_,by rw[iH];simp[Op.intDiv,hb],kU k _,h⟩
    ·by_cases hb:b=0
     ·simp[hb] at h
     ·simp only[hb,cga,aqa] at h
      exact⟨_,_,by rw[iH];simp[Op.intDiv,hb],kU k _,h⟩
    ·exact⟨_,_,by rw[iH];simp[Op.intBits];rfl,kU k _,h⟩
    ·exact⟨_,_,by rw[iH];simp[Op.intBits];rfl,kU k _,h⟩
    ·exact⟨_,_,by rw[iH];simp[Op.intBits];rfl,kU k _,h⟩
    ·exact⟨_,_,by rw[iH];simp[Op.intCmp],oJ _,h⟩
    ·exact⟨_,_,by rw[iH];simp[Op.intCmp],oJ _,h⟩
    ·exact⟨_,_,by rw[iH];simp[Op.intCmp],oJ _,h⟩
    ·exact⟨_,_,by rw[iH];simp[Op.intCmp],oJ _,h⟩
    ·exact⟨_,_,by rw[iH];simp[Op.intCmp],oJ _,h⟩
    ·exact⟨_,_,by rw[iH];simp[Op.intCmp],oJ _,h⟩
    ·cases h
   ·simp[hk] at h
 ·rename_i a b
  cases Dr (v:=.one (.eZ .str a)) rfl hx;cases Dr (v:=.one (.eZ .str b)) rfl hy;split at h
  ·obtain⟨c,hc,h⟩:=axa.1 h
   obtain⟨hl,rfl⟩:=D4 hc;have hn:¬ (((a.length+b.length:Nat):Int) > IntKind.i64.max):=by
    have:IntKind.i64.max=9223372036854775807:=by rfl
    rw[this];omega
   refine⟨_,_,?_,KM _,h⟩;have hn':¬ (IntKind.i64.max<(a.length:Int)+(b.length:Int)):=by
    have:IntKind.i64.max=9223372036854775807:=by rfl
    rw[this];omega
   have hn2:(a.length:Int)+(b.length:Int)≤9223372036854775807:=by omega
   simp[eqGuard,binOp,kw,Op.stringOp,Xm,hn',hn2,UK]
  ·exact⟨_,_,by simp[eqGuard,binOp,kw,Op.stringOp],oJ _,h⟩
  ·exact⟨_,_,by simp[eqGuard,binOp,kw,Op.stringOp],oJ _,h⟩
  ·cases h
 ·rename_i a b
  cases wJ (v:=.one (.eZ .bool a)) rfl hx;cases wJ (v:=.one (.eZ .bool b)) rfl hy;have key:∀{s b':Nat} {y':Option Ty} {z:List Value},E.iE T=some ⟨s,b',y',.bool,z⟩→∀ w,(Op.equal T (.bool a) (.bool b)).run P w=.ok (a==b) w:=fun hT w=>by
   obtain⟨d,h1,h2⟩:=(hE T _ hT).vV;cases d<;>simp[zv] at h2;show(Op.equalIn 10000 T _ _).run P w=_;rw[show(10000:Nat)=9999+1 from rfl,Op.equalIn]
   simp[aEa h1]
  split at h
  ·rename_i hT
   exact⟨_,_,by simp[eqGuard,binOp,key hT],oJ _,h⟩
  ·rename_i hT
   exact⟨_,_,by simp[eqGuard,binOp,key hT],oJ _,h⟩
  ·cases h
 ·split at h
  ·rename_i ti ls ms hT OZ hms
   split at h
   ·rename_i ks hks
    cases hb:(ti.iQ.agg&&x.isAgg&&y.isAgg&&Kz ks ls&&Kz ks ms) with
    |false=>simp[hb] at h
    |true=>
     simp only[hb,aja] at h;simp only[Q3] at hb;obtain⟨⟨⟨⟨b1,b2⟩,b3⟩,b4⟩,b5⟩:=hb;obtain⟨xs,rfl⟩:=Ey b2 hx;obtain⟨ys,rfl⟩:=Ey b3 hy;have lx:All2 (aS G) ls xs.toList:=mQ hm OZ hx;have ly:All2 (aS G) ms ys.toList:=mQ hm hms hy;have hti:=hE T ti hT;obtain⟨d,hu,htd⟩:=hti.vV;obtain⟨_,_,_,hi,_,_,_,_,_,_,_,_,aha⟩:=hti;have chk:=aha.1 ks b1 hks;have xH:∃ fs,d=.struct fs:=by
      have:=chk;rw[show(6:Nat)=5+1 from rfl,De,hu] at this
      cases d<;>first|exact⟨_,rfl⟩|(simp at this;done)|(cases hd:ti.iQ<;>simp[hd,zv,TD.agg] at htd b1)|cases this
     obtain⟨fs,rfl⟩:=xH;have isv:∀ zs:Array Value,IsV P T zs.toList (.agg zs):=fun zs=>by unfold IsV;rw[hu]
     have iH:∀ w,(Op.equal T (.agg xs) (.agg ys)).run P w=.ok (wb xs.toList ys.toList) w:=fun w=>
      Wr 6 T ks chk 9994 w (.agg xs) (.agg ys) _ _ (TS b4 lx) (TS b5 ly) (isv xs) (isv ys)
     have hg:P.eqGuardType P.depth T=false:=by
      have e:P.depth=(P.depth - 6)+6:=by have:P.depth=2 * (P.types.size+100)+2:=rfl;omega
      rw[e];exact TA chk _
     split at h
     ·rename_i e he
      have:=RQ he lx ly;exact⟨_,_,by simp[eqGuard,binOp,hg,iH,this],oJ _,h⟩
     ·rename_i e he
      have:=RQ he lx ly;exact⟨_,_,by simp[eqGuard,binOp,hg,iH,this],oJ _,h⟩
     ·cases h
   ·cases h
  ·cases h
omit hE in
theorem WX{op:UnOp}{x:ae}{vx:Value}{K:ae→Option R}(h:Ui op x K=some r)(hx:aO G x vx):
  ∃ av v,(Op.unary op vx).run P w=.ok v w∧aO G av v∧K av=some r:=by
 unfold Ui at h;split at h
 ·rename_i k a
  cases qy (v:=.one (.eZ (.int k) a)) rfl hx;exact⟨_,_,by simp[Op.unary,Op.intArith],kU k _,h⟩
 ·rename_i a
  cases wJ (v:=.one (.eZ .bool a)) rfl hx;exact⟨_,_,by simp[Op.unary],oJ _,h⟩
 ·cases h
end ops
end Go.Fx
namespace Go.Fx
theorem Df(off:Nat):∀(l:List Value) (k:Nat) (c:Array Value),off+k+l.length≤c.size→
  ((l.zipIdx k).foldl (fun(cs:Array Value) (x:Value×Nat)=>cs.setIfInBounds (off+x.2) x.1) c).toList=c.toList.take (off+k)++(l++c.toList.drop (off+k+l.length))
 |[],k,c,hk=>by simp
 |x::l,k,c,hk=>by
  simp only[aDa] at hk;rw[List.zipIdx_cons,b5a,Df off l (k+1) _ (by simp;omega)]
  rw[Array.toList_setIfInBounds];have jy:off+k<c.toList.length:=by simp;omega
  have e1:(c.toList.set (off+k) x).take (off+(k+1))=c.toList.take (off+k)++[x]:=by
   rw[show off+(k+1)=off+k+1 by omega,csa (by simpa using jy)]
   simp[List.take_set_of_le]
  have e2:(c.toList.set (off+k) x).drop (off+(k+1)+l.length)=c.toList.drop (off+k+(l.length+1)):=by rw[List.drop_set_of_lt (by omega)];congr 1;omega
  rw[e1,e2];simp
theorem Nz(u:Array Value)(cs:List Value)(off:Nat)(h:off+u.size≤cs.length):
  u.zipIdx.foldl (fun(cs:Array Value) (x:Value×Nat)=>cs.setIfInBounds (off+x.2) x.1) cs.toArray=(cs.take off++(u.toList++cs.drop (off+u.toList.length))).toArray:=by
 apply cza;have:=Df off u.toList 0 cs.toArray (by simpa using h)
 simp only[cwa] at this;rw[←Array.foldl_toList,Array.toList_zipIdx];rw[this]
theorem GG{P:Program}{w:World}{α β:Type}(g:α→Sem β)(f:α→β):∀(l:List α),(∀ x∈l,(g x).run P w=.ok (f x) w)→(l.mapM g).run P w=.ok (l.map f) w
 |[],_=>by simp
 |x::l,h=>by
  have ih:=GG g f l (fun y hy=>h y (by simp[hy]))
  have hx:=h x (by simp)
  simp[hx,ih]
theorem aa1{P:Program}{w:World}{α β:Type}(g:α→Sem β)(f:α→β)(xs:Array α)(h:∀ x∈xs,(g x).run P w=.ok (f x) w):(xs.mapM g).run P w=.ok (xs.map f) w:=by
 rw[Array.mapM_eq_mapM_toList];have:=GG (P:=P) (w:=w) g f xs.toList (fun x hx=>h x (by simpa using hx))
 rw[Sem.run_map,this];simp only[aFa]
 congr 1
 apply cza;simp
theorem SL{G:Gh}:∀ l:List Value,All2 (aS G) (l.map wC) l
 |[]=>trivial
 |v::l=>by
  refine⟨?_,SL l⟩;cases v with
  |int k n=>exact⟨_,by simp[Ty.agg],rfl,rfl⟩
  |bool b=>exact⟨_,by simp[Ty.agg],rfl,rfl⟩
  |string s=>exact⟨_,by simp[Ty.agg];rfl,by simp[gh,kw]⟩
  |slice a n c=>
   cases a with
   |none=>cases n<;>cases c<;>simp[wC,aS]
   |some a=>simp[wC,aS]
  |pointer a=>cases a<;>simp[wC,aS]
  |_=>simp[wC,aS]
theorem Wv{P:Program}{E:tn}(hE:iO P E.iE){X:mS}{st:St}{G:Gh}{w:World}(hm:az X st G w){ol:Array Field}{fs:List (Nat×TypeId)}
  (hfs:fs=ol.toList.map fun f=>(f.offset,f.type)) (sz:TypeId→Nat) (mX:∀ t ti,E.iE t=some ti→sz t=ti.size) {ls:List ag}:
  ∀{iq:List (Nat×ae)} {vs:List (Nat×Value)} {zs:List ag} {cs:List Value},All2 (fun(p:Nat×ae) (q:Nat×Value)=>p.1=q.1∧aO G p.2 q.2) iq vs→
   All2 (aS G) zs cs→vd E fs zs iq=some ls→
   ∃ cs',Instr.fill ((ol.map fun f=>(f.offset,sz f.type))[·]?) cs.toArray vs=some cs'.toArray∧All2 (aS G) ls cs'
 |[],[],zs,cs,hp,hz,hb=>by simp only[vd,OQ] at hb;subst hb;exact⟨cs,rfl,hz⟩
 |[],_::_,_,_,hp,_,_=>hp.elim
 |_::_,[],_,_,hp,_,_=>hp.elim
 |(j,v)::iq,(j',u)::vs,zs,cs,hp,hz,hb=>by
  obtain⟨⟨hj,hv⟩,hp⟩:=hp;simp only at hj hv;subst hj;simp only[vd] at hb;cases hf:fs[j]? with
  |none=>simp[hf] at hb
  |some f=>
   obtain⟨off,ft⟩:=f;cases hl:v.p8 with
   |none=>simp[hf,hl] at hb
   |some lv=>
    simp only[hf,hl] at hb;cases hF:E.iE ft with
    |none=>simp[hF] at hb
    |some fi=>
     simp only[hF] at hb;cases hc:(Nat.beq lv.length fi.size&&Nat.ble (off+lv.length) zs.length) with
     |false=>simp[hc] at hb
     |true=>
      simp only[hc,aja] at hb;simp only[Q3] at hc;have Mu:lv.length=fi.size:=Q4 hc.1;have xd:off+lv.length≤zs.length:=aZa hc.2;have Gv:=mQ hm hl hv;have jy:=Gv.length;have hzl:=hz.length;have hul:u.cells.size=fi.size:=by rw[←Mu,jy];simp
      have aej:All2 (aS G) (mK zs off lv) (cs.take off++(u.cells.toList++cs.drop (off+u.cells.toList.length))):=by unfold mK;rw[jy];exact(hz.take off).append (Gv.append (hz.drop _))
      obtain⟨cs',g1,g2⟩:=Wv hE hm hfs sz mX hp aej hb;refine⟨cs',?_,g2⟩;have ahj:(ol.map fun f=>(f.offset,sz f.type))[j]? = some (off,fi.size):=by
       rw[hfs,bGa,bva] at hf;cases hq:ol[j]? with
       |none=>simp[hq] at hf
       |some fld=>simp[hq] at hf;obtain⟨rfl,rfl⟩:=hf;simp[hq,mX _ _ hF]
      have NJ:(u.cells.size≠fi.size||decide (off+u.cells.size > cs.toArray.size))=false:=by simp[hul];omega
      have NT:Instr.fill ((ol.map fun f=>(f.offset,sz f.type))[·]?) cs.toArray ((j,u)::vs) =
        Instr.fill ((ol.map fun f=>(f.offset,sz f.type))[·]?) (u.cells.zipIdx.foldl (fun(cs:Array Value) (x:Value×Nat)=>cs.setIfInBounds (off+x.2) x.1) cs.toArray) vs:=by
       conv=>lhs;unfold Instr.fill
       simp only[ahj];rw[aza (by simpa using NJ)]
      rw[NT,Nz u.cells cs off (by rw[hul,←Mu,←hzl];exact xd)]
      exact g1
theorem Oj{P:Program}{E:tn}(hE:iO P E.iE){X:mS}{st:St}{G:Gh}{w:World}{R:Type}{r:R}{T:TypeId}{iq:List (Nat×ae)}{vs:List (Nat×Value)}{K:ae→St→Option R}(h:xM E T iq st K=some r)(hm:az X st G w)
  (hp:All2 (fun(p:Nat×ae) (q:Nat×Value)=>p.1=q.1∧aO G p.2 q.2) iq vs):
  ∃ av v,(Instr.build T vs.toArray).run P w=.ok v w∧aO G av v∧K av st=some r:=by
 unfold xM at h;cases hT:E.iE T with
 |none=>simp[hT] at h
 |some ti=>
  simp only[hT] at h;split at h
  ·rename_i fs hd
   cases fk:(fs.all fun p=>(E.iE p.2).isSome) with
   |false=>simp[fk] at h
   |true=>
    simp only[fk,aja] at h;cases hb:vd E fs (ti.zero.map wC) iq with
    |none=>simp[hb] at h
    |some ls=>
     simp only[hb] at h;obtain⟨i,d,z,h1,h2,h3,h4,h5,h6,h7,h8,h9⟩:=hE T ti hT;rw[hd] at h7;cases d with
     |struct ol=>
      simp only[zv] at h7;let sz:TypeId→Nat:=fun t=>match E.iE t with|some ti=>ti.size|none=>0
      have mX:∀ t ti,E.iE t=some ti→sz t=ti.size:=fun t ti ht=>by simp[sz,ht]
      obtain⟨cs',g1,g2⟩:=Wv hE hm h7 sz mX hp (SL ti.zero) hb;refine⟨.agg ls,.agg cs'.toArray,?_,⟨cs',rfl,g2⟩,h⟩;have abW:(ol.mapM fun f=>(Prod.mk f.offset <$> sizeOf f.type:Sem (Nat×Nat))).run P w=.ok (ol.map fun f=>(f.offset,sz f.type)) w:=by
       refine aa1 _ _ _ fun f hf=>?_;have:(E.iE f.type).isSome=true:=by
        have:=ana.1 fk (f.offset,f.type) (by rw[h7];exact a0a.2 ⟨f,by simpa using hf,rfl⟩)
        exact this
       obtain⟨fi,hfi⟩:=cia.1 this;simp[(hE _ _ hfi).size w,mX _ _ hfi]
      have hzc:z.cells=ti.zero.toArray:=by rw[←h6]
      simp only[Array.getElem?_map] at g1;simp[Instr.build,zeroValue,typeInfo,h1,h5,aEa h2,abW,hzc,g1]
     |_=>simp[zv] at h7
  ·cases h
end Go.Fx
namespace Go.Fx
theorem fZ{w:World}{b:Nat}{o:Obj}(h:w.heap[b]? = some o):b<w.heap.size:=(cda.1 h).1
theorem eW.lt{X:mS}{st:St}{G:Gh}{w:World}(hm:az X st G w){x:Bool×Nat}{b:Nat}(h:eW G st x b):b<w.heap.size:=by
 obtain⟨k,n⟩:=x;cases k with
 |false=>obtain⟨⟨ls,hl⟩,rfl⟩:=h;obtain⟨arr,elem,mid,h1,_⟩:=hm.ob n ls hl;exact fZ h1
 |true=>obtain⟨⟨A,hA,hs⟩,p,hp,rfl⟩:=h;exact fZ (hm.ah n A hA hs p hp)
theorem iY(w:World)(o:Obj){k:Nat}(h:k<w.heap.size):(w.alloc o).heap[k]? = w.heap[k]?:=Below.SZ w o k h
where
 Below.SZ (w:World) (o:Obj) (k:Nat) (h:k<w.heap.size):(w.alloc o).heap[k]? = w.heap[k]?:=by show(w.heap.push o)[k]? = _;rw[bfa,aza (by omega)]
theorem va(w:World)(o:Obj):(w.alloc o).heap[w.heap.size]? = some o:=by show(w.heap.push o)[w.heap.size]? = _;rw[bfa,a7a rfl]
theorem tr(w:World)(o:Obj):(w.alloc o).heap.size=w.heap.size+1:=by show(w.heap.push o).size=_;simp
theorem az.drew{X:mS}{st:St}{G:Gh}{w:World}(hm:az X st G w):az X st G w.drew:=
 {sl:=hm.sl,sh:=hm.sh,ob:=hm.ob,ar:=hm.ar,ah:=hm.ah,nd:=hm.nd,qs:=hm.qs,dS:=hm.dS,tY:=hm.tY,s0:=hm.s0,sn:=hm.sn,fr:=hm.fr,sz:=hm.sz,os:=hm.os,tp:=hm.tp,out:=hm.out,pin:=hm.pin,bv:=hm.bv,ap:=hm.ap,hv:=hm.hv,ds:=hm.ds,hh:=hm.hh}
theorem BN{st:St}{k:Bool}{x:Nat}(h:st.dc k x=false){i:Nat}{v:ae}(hv:st.ir i=some v):v.dc k x=false:=by
 simp only[St.dc,aGa] at h;obtain⟨⟨⟨⟨h1,h2⟩,h3⟩,h4⟩,_⟩:=h;unfold St.ir at hv;cases hr:look st.eB i with
 |some u=>rw[hr] at hv;cases hv;have:=aSa.1 h1 _ (dX hr);simpa using this
 |none=>rw[hr] at hv;have:=aSa.1 h2 _ (dX hv);simpa using this
theorem ss{st:St}{k:Bool}{x:Nat}(h:st.dc k x=false){o:Nat}{ls:List ag}(ho:st.dN o=some ls):∀ j,(st.kc o j ls).any (ag.dc k x)=false:=by
 simp only[St.dc,aGa] at h;obtain⟨⟨⟨⟨h1,h2⟩,h3⟩,h4⟩,_⟩:=h;have hl:ls.any (ag.dc k x)=false:=by have:=aSa.1 h3 _ (dX ho);simpa using this
 have Bw:∀ j l,l.dc k x=false→(st.res o j l).dc k x=false:=fun j l hl=>by
  cases l with
  |vb=>
   simp only[St.res];cases hb:dZ st.cF o j with
   |none=>rfl
   |some l'=>have h5:=aSa.1 h4 _ (KA hb);simpa using h5
  |_=>exact hl
 have key:∀(ls:List ag),ls.any (ag.dc k x)=false→∀ j,(st.kc o j ls).any (ag.dc k x)=false:=by
  intro ls;induction ls with
  |nil=>intro _ _;rfl
  |cons l ls ih=>intro h j;simp only[cKa,aGa] at h;simp only[St.kc,cKa,aGa];exact⟨Bw j l h.1,ih h.2 (j+1)⟩
 exact key ls hl
theorem Fp{st:St}{x:Nat}(h:st.dc false x=false){a:Nat}{A:jS}(ha:st.arr a=some A){i o:Nat}(hm:A.md=.DK i o):o≠x:=by
 simp only[St.dc,aGa,Bool.not_false,Bool.true_and] at h;obtain⟨_,h1,h2⟩:=h;have key:A.Ky x=false:=by
  unfold St.arr at ha;cases hr:look st.cO a with
  |some u=>rw[hr] at ha;cases ha;have:=aSa.1 h1 _ (dX hr);simpa using this
  |none=>rw[hr] at ha;have:=aSa.1 h2 _ (dX ha);simpa using this
 intro e;subst e;simp[jS.Ky,hm] at key
theorem bO.le{G G':Gh}{k:Bool}{x:Nat}(h:G.Le G' k x){st st':St}(hn:st'.n=st.n)(xG:∀ i,st'.ir i=st.ir i)(K6:st.dc k x=false){a:Act}(r:bO G st a):bO G' st' a:=
 ⟨r.1.trans h.ds.symm,r.2.1.trans hn.symm,fun i v hv=>by
  rw[xG i] at hv;exact(r.2.2 i v hv).le h (BN K6 hv)⟩
theorem vD(st:St)(o:Nat):∀(j:Nat) (ls:List ag),ls.any ag.pR=false→st.kc o j ls=ls
 |_,[],_=>rfl
 |j,l::r,h=>by simp only[cKa,aGa] at h;simp only[St.kc,vD st o (j+1) r h.2];cases l<;>simp_all[St.res,ag.pR]
theorem az.Vz{X:mS}{st:St}{G:Gh}{w:World}(hm:az X st G w){o:Nat}{ls:List ag}{arr:Array Value}{elem:TypeId}(ho:st.dN o=none)(K6:st.dc false o=false)
  (hb:ls.any ag.pR=false) (hlm:ls.any (ag.dc false o)=false) (OZ:All2 (aS G) ls arr.toList):
  ∃ G',az X (st.qJ o ls) G' (w.alloc (.cells arr elem (0,0)))∧G.Le G' false o∧aO G' (.one (.lw o 0)) (.pointer (some ⟨w.heap.size,0,none⟩)):=by
 let G':Gh:={G with φ:=fun q=>if q=o then w.heap.size else G.φ q,pre:=fun q=>if q=o then [] else G.pre q,post:=fun q=>if q=o then [] else G.post q}
 have Cm:G.Le G' false o:=⟨fun _ _ h=>h,fun q h=>by simp[G',h rfl],fun q h=>by simp[G',h rfl],fun q h=>by simp[G',h rfl],fun _ _=>rfl,fun _=>rfl,fun _ _=>rfl,rfl⟩
 have nS:∀ x b,eW G' (st.qJ o ls) x b→(x=(false,o)∧b=w.heap.size)∨(eW G st x b∧x≠(false,o)):=fun x b hx=>by
  obtain⟨k,n⟩:=x;cases k with
  |true=>exact .inr ⟨hx,by simp⟩
  |false=>
   obtain⟨⟨l,hl⟩,rfl⟩:=hx;rw[kT] at hl;by_cases e:o=n
   ·subst e;exact .inl ⟨rfl,by simp[G']⟩
   ·simp only[e,Q9] at hl
    have hG:n≠o:=fun h=>e h.symm;exact .inr ⟨⟨⟨l,hl⟩,by simp[G',hG]⟩,by simpa using hG⟩
 have Vk:∀ x b,eW G st x b→b≠w.heap.size:=fun x b h e=>by have:=eW.lt hm h;omega
 refine⟨G',?_,Cm,by simp[aO,aS,G']⟩
 refine {sl:=hm.sl,sh:=?_,ob:=?_,ar:=?_,ah:=?_,nd:=?_,qs:=?_,dS:=?_,tY:=?_,s0:=hm.s0,sn:=hm.sn,fr:=?_,sz:=?_,os:=hm.os,tp:=hm.tp,out:=hm.out,pin:=fun q p h=>(by obtain⟨⟨l,h1⟩,h2⟩:=hm.pin q p h;have hG:q≠o:=(fun e=>absurd ho (by rw[←e,h1];simp));exact⟨⟨l,by rw[kT,aza (bBa hG)];exact h1⟩,by simp[G',hG,h2]⟩),bv:=fun q j u h=>(by obtain⟨h1,⟨l,h2,h3⟩,yw,rE,h4,h5⟩:=hm.bv q j u h;have hG:q≠o:=(fun e=>absurd ho (by rw[←e,h2];simp));exact⟨h1,⟨l,by rw[kT,aza (bBa hG)];exact h2,h3⟩,yw,rE,by simp only[G',hG,Q9];rw[iY w _ (fZ h4)];exact h4,by simp only[G',hG,Q9];exact h5⟩),ap:=hm.ap,hv:=hm.hv,ds:=hm.ds,hh:=hm.hh}
 ·intro b ob hb
  rw[iY w _ (fZ (hm.sh b ob hb))];exact hm.sh b ob hb
 ·intro q l hq
  rw[kT] at hq;by_cases e:o=q
  ·subst e
   simp only[ava,OQ] at hq;subst hq;refine⟨arr,elem,arr.toList,by simp only[G',ava];exact va w _,by simp[G'],?_⟩
   unfold ip;rw[vD _ _ _ _ hb];exact Cb Cm hlm OZ
  ·simp only[e,Q9] at hq
   obtain⟨arr',Qb,mid,g1,g2,g3⟩:=hm.ob q l hq;have hqo:q≠o:=fun h=>e h.symm;refine⟨arr',Qb,mid,by simp only[G',hqo,Q9];rw[iY w _ (fZ g1)];exact g1,by simp only[G',hqo,Q9];exact g2,?_⟩
   unfold ip at g3 ⊢;rw[ke (st:=st) (fun j l=>by simp)]
   exact Cb Cm (ss K6 hq 0) g3
 ·intro a A hA
  refine(hm.ar a A hA).mono (G:=G) (a:=a) (G':=G') (a':=a) (fun _ _ h=>h) rfl rfl (fun i q hq=>?_);have hG:=Fp K6 hA hq;exact⟨by simp[G',hG],by simp[G',hG],by simp[G',hG]⟩
 ·intro a A hA hs p hp
  have:=hm.ah a A hA hs p hp;rw[iY w _ (fZ this)];exact this
 ·exact hm.nd
 ·intro x y b hx hy
  rcases nS x b hx with ⟨rfl,rfl⟩|⟨h1,h2⟩<;>rcases nS y _ hy with ⟨rfl,h⟩|⟨h3,h4⟩
  ·rfl
  ·exact absurd rfl (Vk y _ h3)
  ·exact absurd h (Vk x _ h1)
  ·exact hm.qs x y b h1 h3
 ·intro x b hx
  rcases nS x b hx with ⟨rfl,rfl⟩|⟨h1,h2⟩
  ·cases hS:G.S w.heap.size with
   |none=>rfl
   |some ob=>have:=fZ (hm.sh _ _ hS);omega
  ·exact hm.dS x b h1
 ·intro x b hx
  rcases nS x b hx with ⟨rfl,rfl⟩|⟨h1,h2⟩
  ·exact .inr hm.sz
  ·exact hm.tY x b h1
 ·intro b hb hn
  have:=hm.fr b hb hn;rw[iY w _ (by have:=hm.sz;omega)];exact this
 ·rw[tr];have:=hm.sz;omega
theorem aea{X:mS}{st:St}{G G':Gh}{w:World}(hm:az X st G w){a:Nat}{A:jS}(hA:A.nest=false)(h:∀ q,q≠a→G'.HV q (G'.vn q)=G.HV q (G.vn q)∧G'.HA q=G.HA q):
  ∀ q B,(st.gP a A).arr q=some B→B.sh=false→B.nest=true→G'.HV q (G'.vn q)=kF (G'.HA q):=fun q B hB Co hn=>by
 rw[dI] at hB;by_cases e:a=q
 ·simp only[e,ava,OQ] at hB;rw[←hB,hA] at hn;cases hn
 ·simp only[e,Q9] at hB
  obtain⟨h1,h2⟩:=h q (fun h=>e h.symm);rw[h1,h2];exact hm.hh q B hB Co hn
theorem Yj{A:jS}(h:A.bx=false):A.nest=false:=by have:=Fi h;simp[jS.nest,this]
theorem az.AK{X:mS}{st:St}{G:Gh}{w:World}(hm:az X st G w){a:Nat}{t:Ty}{l:List t.nH}{arr:Array Value}{elem:TypeId}{cells rest:List Value}{cap:Nat}{dp:Bool}(ha:st.arr a=none)(K6:st.dc true a=false)
  (pt:arr.toList=cells++rest) (X7:cap * t.size≤arr.size) (jy:l.length≤cap) (hl:RepL (gh G.S dp t) cells l []):
  ∃ G',az X (st.gP a ⟨t,bif dp then .bx else .dV,false,l⟩) G' (w.alloc (.cells arr elem (0,0)))∧G.Le G' true a∧aO G' (.one (.mT a)) (.slice (some ⟨w.heap.size,0,none⟩) l.length cap):=by
 let G':Gh:={G with ψ:=fun q=>if q=a then .slice (some ⟨w.heap.size,0,none⟩) l.length cap else G.ψ q,HA:=fun q=>if q=a then [(w.heap.size,.cells arr elem (0,0))] else G.HA q,HV:=fun q=>if q=a then fun _=>arr.toList else G.HV q}
 have Cm:G.Le G' true a:=⟨fun _ _ h=>h,fun _ _=>rfl,fun _ _=>rfl,fun _ _=>rfl,fun q h=>by simp[G',h rfl],fun _=>rfl,fun q h=>by simp[G',h rfl],rfl⟩
 have Vk:∀ x b,eW G st x b→b≠w.heap.size:=fun x b h e=>by have:=eW.lt hm h;omega
 have nS:∀ x b,eW G' (st.gP a ⟨t,bif dp then .bx else .dV,false,l⟩) x b→(x=(true,a)∧b=w.heap.size)∨(eW G st x b∧x≠(true,a)):=fun x b hx=>by
  obtain⟨k,n⟩:=x;cases k with
  |false=>exact .inr ⟨hx,by simp⟩
  |true=>
   obtain⟨⟨A,hA,hs⟩,p,hp,rfl⟩:=hx;rw[dI] at hA;by_cases e:a=n
   ·subst e
    simp only[G',ava,Q7] at hp;exact .inl ⟨rfl,by rw[hp]⟩
   ·simp only[e,Q9] at hA
    have hG:n≠a:=fun h=>e h.symm;simp only[G',hG,Q9] at hp;exact .inr ⟨⟨⟨A,hA,hs⟩,p,hp,rfl⟩,by simpa using hG⟩
 refine⟨G',?_,Cm,by simp[aO,aS,G']⟩
 refine {sl:=?_,sh:=?_,ob:=?_,ar:=?_,ah:=?_,nd:=?_,qs:=?_,dS:=?_,tY:=?_,s0:=hm.s0,sn:=hm.sn,fr:=?_,sz:=?_,os:=hm.os,tp:=hm.tp,out:=hm.out,pin:=hm.pin,bv:=fun q j u h=>(by obtain⟨h1,h2,yw,rE,h4,h5⟩:=hm.bv q j u h;exact⟨h1,h2,yw,rE,by rw[iY w _ (fZ h4)];exact h4,h5⟩),ap:=fun q u h=>(by obtain⟨h1,⟨B,h2⟩,h3⟩:=hm.ap q u h;have hG:q≠a:=(fun e=>by subst e;rw[ha] at h2;cases h2);exact⟨h1,⟨B,by rw[dI,aza (bBa hG)];exact h2⟩,by simp[G',hG,h3]⟩),hv:=hm.hv,ds:=hm.ds,hh:=fun q B hB Co hn=>(by
   rw[dI] at hB;by_cases e:a=q
   ·subst e;simp[G',kF]
   ·simp only[e,Q9] at hB
    have hG:q≠a:=fun h=>e h.symm;simp only[G',hG,Q9];exact hm.hh q B hB Co hn)}
 ·intro q
  by_cases e:q=a
  ·exact .inl ⟨some ⟨w.heap.size,0,none⟩,l.length,cap,by simp[G',e]⟩
  ·have:=hm.sl q;simpa[G',e] using this
 ·intro b ob hb
  rw[iY w _ (fZ (hm.sh b ob hb))];exact hm.sh b ob hb
 ·intro q ls hq
  obtain⟨arr',Qb,mid,g1,g2,g3⟩:=hm.ob q ls hq;refine⟨arr',Qb,mid,by rw[iY w _ (fZ g1)];exact g1,g2,?_⟩
  unfold ip at g3 ⊢;rw[ke (st:=st) (fun j l=>by simp)]
  exact Cb Cm (ss K6 hq 0) g3
 ·intro b B hB
  rw[dI] at hB;by_cases e:a=b
  ·subst e
   simp only[ava,OQ] at hB;subst hB;refine(ia rfl (by cases dp<;>rfl)).2 ?_
   rw[show(⟨t,bif dp then Md.bx else Md.dV,false,l⟩:jS).bx=dp by cases dp<;>rfl]
   exact .inr ⟨w.heap.size,cap,arr,elem,cells,rest,[],by simp[G'],by simp[G'],pt,X7,jy,hl⟩
  ·simp only[e,Q9] at hB
   have hG:b≠a:=fun h=>e h.symm;exact(hm.ar b B hB).mono (G:=G) (a:=b) (G':=G') (a':=b) (fun _ _ h=>h) (by simp[G',hG]) (by simp[G',hG]) (fun _ _ _=>⟨rfl,rfl,rfl⟩)
 ·intro b B hB hs p hp
  rw[dI] at hB;by_cases e:a=b
  ·subst e
   simp only[G',ava,Q7] at hp;rw[hp];exact va w _
  ·simp only[e,Q9] at hB
   have hG:b≠a:=fun h=>e h.symm;simp only[G',hG,Q9] at hp;have:=hm.ah b B hB hs p hp;rw[iY w _ (fZ this)];exact this
 ·intro b B hB hs
  rw[dI] at hB;by_cases e:a=b
  ·subst e;simp[G']
  ·simp only[e,Q9] at hB
   have hG:b≠a:=fun h=>e h.symm;simp only[G',hG,Q9];exact hm.nd b B hB hs
 ·intro x y b hx hy
  rcases nS x b hx with ⟨rfl,rfl⟩|⟨h1,h2⟩<;>rcases nS y _ hy with ⟨rfl,h⟩|⟨h3,h4⟩
  ·rfl
  ·exact absurd rfl (Vk y _ h3)
  ·exact absurd h (Vk x _ h1)
  ·exact hm.qs x y b h1 h3
 ·intro x b hx
  rcases nS x b hx with ⟨rfl,rfl⟩|⟨h1,h2⟩
  ·cases hS:G.S w.heap.size with
   |none=>rfl
   |some ob=>have:=fZ (hm.sh _ _ hS);omega
  ·exact hm.dS x b h1
 ·intro x b hx
  rcases nS x b hx with ⟨rfl,rfl⟩|⟨h1,h2⟩
  ·exact .inr hm.sz
  ·exact hm.tY x b h1
 ·intro b hb hn
  have:=hm.fr b hb hn;rw[iY w _ (by have:=hm.sz;omega)];exact this
 ·rw[tr];have:=hm.sz;omega
theorem az.RN{X:mS}{st:St}{G:Gh}{w:World}(hm:az X st G w)(a:Nat)(hb:look st.fQ a=none)(Ya:eV a st.pin=false):az X {st with cO:=Gr st.cO a} G w:=by
 have pt:∀ q,({st with cO:=Gr st.cO a}:St).arr q=if a=q then none else st.arr q:=fun q=>by
  simp only[St.arr,qC];by_cases e:a=q
  ·subst e;simp[hb]
  ·simp[e]
 have nS:∀ x b,eW G {st with cO:=Gr st.cO a} x b→eW G st x b:=fun x b hx=>by
  obtain⟨k,n⟩:=x;cases k with
  |false=>exact hx
  |true=>
   obtain⟨⟨A,hA,hs⟩,hp⟩:=hx;rw[pt] at hA;by_cases e:a=n
   ·simp[e] at hA
   ·simp only[e,Q9] at hA;exact⟨⟨A,hA,hs⟩,hp⟩
 refine {sl:=hm.sl,sh:=hm.sh,ob:=?_,ar:=?_,ah:=?_,nd:=?_,qs:=fun x y b hx hy=>hm.qs x y b (nS x b hx) (nS y b hy),dS:=fun x b hx=>hm.dS x b (nS x b hx),tY:=fun x b hx=>hm.tY x b (nS x b hx),s0:=hm.s0,sn:=hm.sn,fr:=hm.fr,sz:=hm.sz,os:=hm.os,tp:=hm.tp,out:=hm.out,pin:=hm.pin,bv:=hm.bv,ap:=fun q u h=>(by obtain⟨h1,⟨B,h2⟩,h3⟩:=hm.ap q u h;have hG:a≠q:=(fun e=>by subst e;rw[Ya] at h1;cases h1);exact⟨h1,⟨B,by rw[pt,aza hG];exact h2⟩,h3⟩),hv:=hm.hv,ds:=hm.ds,hh:=fun q B hB Co hn=>(by rw[pt] at hB;by_cases e:a=q<;>simp only[e,ava,Q9] at hB<;>first|cases hB|exact hm.hh q B hB Co hn)}
 ·intro o ls ho
  obtain⟨arr,elem,mid,h1,h2,h3⟩:=hm.ob o ls ho;refine⟨arr,elem,mid,h1,h2,?_⟩;unfold ip at h3 ⊢;rw[ke (st:=st) (fun j l=>by cases l<;>rfl)]
  exact h3
 ·intro b B hB
  rw[pt] at hB;by_cases e:a=b
  ·simp[e] at hB
  ·simp only[e,Q9] at hB;exact hm.ar b B hB
 ·intro b B hB
  rw[pt] at hB;by_cases e:a=b
  ·simp[e] at hB
  ·simp only[e,Q9] at hB;exact hm.ah b B hB
 ·intro b B hB
  rw[pt] at hB;by_cases e:a=b
  ·simp[e] at hB
  ·simp only[e,Q9] at hB;exact hm.nd b B hB
end Go.Fx
namespace Go.Fx
theorem az.OD{X:mS}{st st':St}{G:Gh}{w w':World}(hm:az X st G w){a dst:Nat}{A A':jS}(hA:st.arr a=some A)(hs:A.sh=false)(Co:A'.sh=false)(how:A'.gz=true)
  {b len cap cap':Nat} {arr arr':Array Value} {elem:TypeId} {H':gj} (hψ:G.ψ a=.slice (some ⟨b,0,none⟩) len cap) (hHA:G.HA a=(b,Obj.cells arr elem (0,0))::H')
  (jG:kx (RepL (gh G.S A'.bx A'.t)) A'.t.size [.slice (some ⟨b,0,none⟩) A'.l.length cap'] A'.l ((b,Obj.cells arr' elem (0,0))::H'))
  (hw:w'.heap[b]? = some (.cells arr' elem (0,0))) (hwo:∀ k,k≠b→w'.heap[k]? = w.heap[k]?) (mX:w'.heap.size=w.heap.size) (hos:w'.os=w.os) (htp:w'.tape=w.tape) (yF:w'.output=w.output)
  (hnn:A'.nest=false) (hk:rK st st') (pt:∀ q,st'.arr q=if q=dst then some A' else if q=a then none else st.arr q)
  (abR:(dst=a∧Value.slice (some ⟨b,0,none⟩) A'.l.length cap' = G.ψ a)∨(dst≠a∧st.arr dst=none∧st.dc true dst=false∧eV a st.pin=false)):
  ∃ G',az X st' G' w'∧(∀ act,bO G st act→bO G' st' act)∧aO G' (.one (.mT dst)) (.slice (some ⟨b,0,none⟩) A'.l.length cap'):=by
 let hd:Value:=.slice (some ⟨b,0,none⟩) A'.l.length cap';let G':Gh:={G with ψ:=fun q=>if q=dst then hd else G.ψ q,HA:=fun q=>if q=dst then(b,Obj.cells arr' elem (0,0))::H' else G.HA q}
 have adh:∀ p∈G.HA a,eW G st (true,a) p.1:=fun p hp=>⟨⟨A,hA,hs⟩,p,hp,rfl⟩;have RX:eW G st (true,a) b:=adh (b,Obj.cells arr elem (0,0)) (by rw[hHA];simp)
 have NP:∀(l:ag) (v:Value),(dst≠a→l.dc true dst=false)→aS G l v→aS G' l v:=fun l v hl r=>by
  by_cases e:dst=a
  ·subst e
   have h2:hd=G.ψ dst:=by
    rcases abR with ⟨_,h⟩|⟨h,_⟩
    ·exact h
    ·exact absurd rfl h
   have hψ':G'.ψ=G.ψ:=funext fun q=>by
    by_cases hq:q=dst
    ·subst hq;simp[G',h2]
    ·simp[G',hq]
   cases l with
   |mT q=>simp only[aS,hψ'];exact r
   |Ei q s i off=>simp only[aS,hψ'];exact r
   |Ft q v s i off=>exact vY.AP r (by rw[hψ']) (awa _) (fun _ _=>rfl)
   |nse q v s i off s2 j T4=>obtain⟨b2,Kx,LM,h3,h4⟩:=r;exact⟨b2,Kx,LM,h3.AP (by rw[hψ']) (awa _) (fun _ _=>rfl),h4⟩
   |Mo q kk n=>simp only[aS,hψ'];exact r
   |_=>exact r
  ·have Cm:G.Le G' true dst:=⟨fun _ _ h=>h,fun _ _=>rfl,fun _ _=>rfl,fun _ _=>rfl,fun q h=>by simp[G',h rfl],fun _=>rfl,fun _ _=>rfl,rfl⟩
   exact r.le Cm (hl e)
 have af4:∀(v:ae) (u:Value),(dst≠a→v.dc true dst=false)→aO G v u→aO G' v u:=fun v u hl r=>by
  by_cases e:dst=a
  ·have Mx:∀ l v,aS G l v→aS G' l v:=fun l v=>NP l v (fun h=>absurd e h)
   cases v with
   |one l=>exact Mx _ _ r
   |agg ls=>obtain⟨cs,e,hr⟩:=r;exact⟨cs,e,hr.imp fun _ _=>Mx _ _⟩
   |Lm vs=>
    obtain⟨us,e,hr⟩:=r;refine⟨us,e,hr.imp fun p u NO=>?_⟩;split at NO
    ·rename_i hc;simp only[hc,ava];obtain⟨cs,e,hr⟩:=NO;exact⟨cs,e,hr.imp fun _ _=>Mx _ _⟩
    ·rename_i hc
     obtain⟨l,e,hr⟩:=NO;simp only[bya] at hc;simp only[hc,asa,Q9];exact⟨l,e,Mx _ _ hr⟩
   |AH t ls=>obtain⟨u,cs,e1,e2,hr⟩:=r;exact⟨u,cs,e1,e2,hr.imp fun _ _=>Mx _ _⟩
  ·have Cm:G.Le G' true dst:=⟨fun _ _ h=>h,fun _ _=>rfl,fun _ _=>rfl,fun _ _=>rfl,fun q h=>by simp[G',h rfl],fun _=>rfl,fun _ _=>rfl,rfl⟩
   exact r.le Cm (hl e)
 have vm:dst≠a→st.dc true dst=false:=fun h=>by rcases abR with ⟨e,_⟩|⟨_,_,h,_⟩;exact absurd e h;exact h
 have nS:∀ x c,eW G' st' x c→(x=(true,dst)∧eW G st (true,a) c)∨(eW G st x c∧x≠(true,a)∧x≠(true,dst)):=fun x c hx=>by
  obtain⟨k,n⟩:=x;cases k with
  |false=>obtain⟨⟨ls,hl⟩,rfl⟩:=hx;rw[hk.dN] at hl;exact .inr ⟨⟨⟨ls,hl⟩,rfl⟩,by simp,by simp⟩
  |true=>
   obtain⟨⟨B,hB,Kn⟩,p,hp,rfl⟩:=hx;rw[pt] at hB;by_cases e:n=dst
   ·subst e
    simp only[G',ava,ama] at hp;refine .inl ⟨rfl,?_⟩;rcases hp with rfl|hp
    ·exact RX
    ·exact adh p (by rw[hHA];simp[hp])
   ·simp only[e,Q9] at hB
    by_cases e2:n=a
    ·simp[e2] at hB
    ·simp only[e2,Q9] at hB
     simp only[G',e,Q9] at hp;exact .inr ⟨⟨⟨B,hB,Kn⟩,p,hp,rfl⟩,by simpa using e2,by simpa using e⟩
 have hnb:∀ x c,eW G st x c→x≠(true,a)→c≠b:=fun x c h hx e=>hx (hm.qs x (true,a) b (e ▸ h) RX);refine⟨G',?_,?_,by simp[aO,aS,G',hd]⟩
 ·refine {sl:=?_,sh:=?_,ob:=?_,ar:=?_,ah:=?_,nd:=?_,qs:=?_,dS:=?_,tY:=?_,s0:=hm.s0,sn:=hm.sn,fr:=?_,sz:=?_,os:=hos.trans hm.os,tp:=htp.trans hm.tp,out:=yF.trans hm.out,pin:=fun o p h=>(by obtain⟨⟨l,h1⟩,h2⟩:=hm.pin o p h;exact⟨⟨l,by rw[hk.dN];exact h1⟩,h2⟩),bv:=fun o j u h=>(by obtain⟨h1,⟨l,h2,h3⟩,yw,rE,h4,h5⟩:=hm.bv o j u h;exact⟨by rw[hk.bl];exact h1,⟨l,by rw[hk.dN];exact h2,h3⟩,yw,rE,by rw[hwo _ (hnb (false,o) _ ⟨⟨l,h2⟩,rfl⟩ (by simp))];exact h4,h5⟩),ap:=fun q u h=>(by
   obtain⟨h1,⟨B,h2⟩,h3⟩:=hm.ap q u h;refine⟨by rw[hk.pn];exact h1,?_,?_⟩
   ·rw[pt]
    by_cases e:q=dst
    ·exact⟨A',by rw[a7a e]⟩
    ·rw[aza e]
     by_cases e2:q=a
     ·rcases abR with ⟨e3,_⟩|⟨_,_,_,e3⟩
      ·exact absurd (e2.trans e3.symm) e
      ·rw[←e2,h1] at e3;cases e3
     ·exact⟨B,by rw[aza e2];exact h2⟩
   ·by_cases e:q=dst
    ·rcases abR with ⟨e3,e4⟩|⟨_,e3,_⟩
     ·simp only[G',e,ava,hd];rw[e4,←e3,←e];exact h3
     ·rw[←e,h2] at e3;cases e3
    ·simp[G',e,h3]),
          hv:=fun q=>(by unfold St.dC;rw[hk.vr];exact hm.hv q),
          ds:=hm.ds,hh:=fun q B hB hs2 hn=>(by
        rw[pt] at hB;by_cases e:q=dst
        ·simp only[e,ava,OQ] at hB;rw[←hB,hnn] at hn;cases hn
        ·simp only[e,Q9] at hB
         by_cases e2:q=a
         ·simp[e2] at hB
         ·simp only[e2,Q9] at hB;simp only[G',e,Q9];exact hm.hh q B hB hs2 hn)}
  ·intro q
   by_cases e:q=dst
   ·exact .inl ⟨some ⟨b,0,none⟩,A'.l.length,cap',by simp[G',e,hd]⟩
   ·have:=hm.sl q;simpa[G',e] using this
  ·intro c o hc
   have:c≠b:=fun e=>by have:=hm.dS _ _ RX;rw[←e] at this;rw[show G'.S=G.S from rfl,this] at hc;cases hc
   rw[hwo c this];exact hm.sh c o hc
  ·intro o ls ho
   rw[hk.dN] at ho;obtain⟨yw,rE,mid,g1,g2,g3⟩:=hm.ob o ls ho;have hG:G.φ o≠b:=hnb (false,o) _ ⟨⟨ls,ho⟩,rfl⟩ (by simp)
   refine⟨yw,rE,mid,by rw[hwo _ hG];exact g1,g2,?_⟩
   unfold ip at g3 ⊢;rw[ke (st:=st) (fun j l=>hk.res o j l)];refine g3.vp fun l v hl hr=>NP l v (fun hG=>?_) hr;have:=ss (vm hG) ho 0;have:=aSa.1 this l hl;simpa using this
  ·intro q B hB
   rw[pt] at hB;by_cases e:q=dst
   ·subst e
    simp only[ava,OQ] at hB;subst hB;refine(ia Co how).2 ?_;simpa[G',hd] using jG
   ·simp only[e,Q9] at hB
    by_cases e2:q=a
    ·simp[e2] at hB
    ·simp only[e2,Q9] at hB
     exact(hm.ar q B hB).mono (G:=G) (a:=q) (G':=G') (a':=q) (fun _ _ h=>h) (by simp[G',e]) (by simp[G',e]) (fun _ _ _=>⟨rfl,rfl,rfl⟩)
  ·intro q B hB Kn p hp
   rw[pt] at hB;by_cases e:q=dst
   ·subst e
    simp only[G',ava,ama] at hp;rcases hp with rfl|hp
    ·exact hw
    ·have JM:p∈G.HA a:=by rw[hHA];simp[hp]
     have hG:p.1≠b:=fun e=>by have HO:=hm.nd a A hA hs;rw[hHA] at HO;simp only[aHa,a2a] at HO;exact HO.1 (by rw[←e];exact aIa hp)
     rw[hwo _ hG];exact hm.ah a A hA hs p JM
   ·simp only[e,Q9] at hB
    by_cases e2:q=a
    ·simp[e2] at hB
    ·simp only[e2,Q9] at hB
     simp only[G',e,Q9] at hp;have hG:p.1≠b:=hnb (true,q) _ ⟨⟨B,hB,Kn⟩,p,hp,rfl⟩ (by simpa using e2)
     rw[hwo _ hG];exact hm.ah q B hB Kn p hp
  ·intro q B hB Kn
   rw[pt] at hB;by_cases e:q=dst
   ·subst e
    simp only[G',ava];have:=hm.nd a A hA hs;rw[hHA] at this;simpa using this
   ·simp only[e,Q9] at hB
    by_cases e2:q=a
    ·simp[e2] at hB
    ·simp only[e2,Q9] at hB
     simp only[G',e,Q9];exact hm.nd q B hB Kn
  ·intro x y c hx hy
   rcases nS x c hx with ⟨rfl,h1⟩|⟨h1,h2,h2'⟩<;>rcases nS y c hy with ⟨rfl,h3⟩|⟨h3,h4,h4'⟩
   ·rfl
   ·exact absurd (hm.qs y (true,a) c h3 h1) h4
   ·exact absurd (hm.qs x (true,a) c h1 h3) h2
   ·exact hm.qs x y c h1 h3
  ·intro x c hx
   rcases nS x c hx with ⟨rfl,h1⟩|⟨h1,_⟩
   ·exact hm.dS _ c h1
   ·exact hm.dS x c h1
  ·intro x c hx
   rcases nS x c hx with ⟨rfl,h1⟩|⟨h1,_⟩
   ·exact hm.tY _ c h1
   ·exact hm.tY x c h1
  ·intro c hc hn
   have:c≠b:=fun e=>by
    rcases hm.tY _ _ RX with h|h
    ·exact hn (e ▸ h)
    ·omega
   rw[hwo c this];exact hm.fr c hc hn
  ·rw[mX];exact hm.sz
 ·intro act r
  refine⟨r.1,r.2.1.trans hk.n.symm,fun i v hv=>?_⟩;rw[hk.ir] at hv;exact af4 v _ (fun hG=>BN (vm hG) hv) (r.2.2 i v hv)
theorem RZ(w:World)(b o:Nat)(v:Value){arr:Array Value}{elem:TypeId}{fz:Nat×Nat}(h:w.heap[b]? = some (.cells arr elem fz)):
  (w.setCell ⟨b,o,none⟩ v).heap[b]? = some (.cells (arr.setIfInBounds o v) elem fz):=by
 simp[World.setCell,cva,h]
theorem L3(w:World)(b o k:Nat)(v:Value)(h:k≠b):(w.setCell ⟨b,o,none⟩ v).heap[k]? = w.heap[k]?:=by simp only[World.setCell,cva];rw[aza (by omega)]
theorem om(b:Nat):∀(vs:List Value) (o:Nat) (w:World) {arr:Array Value} {elem:TypeId} {fz:Nat×Nat},w.heap[b]? = some (.cells arr elem fz)→o+vs.length≤arr.size→
  ∃ arr',(w.setCells b o vs).heap[b]? = some (.cells arr' elem fz)∧arr'.toList=arr.toList.take o++(vs++arr.toList.drop (o+vs.length))∧(∀ k,k≠b→(w.setCells b o vs).heap[k]? = w.heap[k]?)∧
   (w.setCells b o vs).heap.size=w.heap.size∧(w.setCells b o vs).os=w.os∧(w.setCells b o vs).tape=w.tape∧(w.setCells b o vs).output=w.output
 |[],o,w,arr,elem,fz,h,hl=>⟨arr,h,by simp,fun _ _=>rfl,rfl,rfl,rfl,rfl⟩
 |v::vs,o,w,arr,elem,fz,h,hl=>by
  simp only[aDa] at hl;obtain⟨arr',h1,h2,h3,h4,h5,h6,h7⟩:=om b vs (o+1) (w.setCell ⟨b,o,none⟩ v) (RZ w b o v h) (by simp;omega)
  refine⟨arr',h1,?_,fun k hk=>(h3 k hk).trans (L3 w b o k v hk),h4.trans (by simp[World.setCell]),h5,h6,h7⟩
  rw[h2,Array.toList_setIfInBounds];have jy:o<arr.toList.length:=by simp;omega
  have e1:(arr.toList.set o v).take (o+1)=arr.toList.take o++[v]:=by rw[csa (by simpa using jy)];simp[List.take_set_of_le]
  have e2:(arr.toList.set o v).drop (o+1+vs.length)=arr.toList.drop (o+(vs.length+1)):=by rw[List.drop_set_of_lt (by omega)];congr 1;omega
  rw[e1,e2];simp
theorem BZ{w:World}{b:Nat}{arr:Array Value}{elem:TypeId}(h:w.heap[b]? = some (.cells arr elem (0,0))){o n:Nat}(hn:o+n≤arr.size):w.there b o n:=by
 intro j hj;have:(arr[o+j]?).isSome=true:=by simp;omega
 exact⟨by simp[World.cell?,h];omega,by simp[World.frozen?,h]⟩
end Go.Fx
namespace Go.Fx
theorem Ng{ls:List ag}(h:ls.all ag.cell=true):ls.any ag.pR=false:=by rw[aSa];intro l hl;have:=ana.1 h l hl;cases l<;>simp_all[ag.cell,ag.pR]
theorem QS(st:St)(o:Nat):∀(n j:Nat) (ls:List ag),st.kc o j (ls.take n)=(st.kc o j ls).take n
 |0,_,_=>by simp[St.kc]
 |n+1,_,[]=>by simp[St.kc]
 |n+1,j,l::ls=>by simp[St.kc,QS st o n (j+1) ls]
theorem QQ(st:St)(o:Nat):∀(n j:Nat) (ls:List ag),st.kc o (j+n) (ls.drop n)=(st.kc o j ls).drop n
 |0,_,_=>by simp
 |n+1,_,[]=>by simp[St.kc]
 |n+1,j,l::ls=>by simp only[List.drop_succ_cons,St.kc];rw[←QQ st o n (j+1) ls,show j+(n+1)=j+1+n by omega]
theorem VP(st:St)(o off:Nat)(ls nl:List ag)(hn:nl.any ag.pR=false)(hl:off+nl.length≤ls.length):
  st.kc o 0 (mK ls off nl)=mK (st.kc o 0 ls) off nl:=by
 unfold mK;have e:=QQ st o (off+nl.length) 0 ls;rw[aWa] at e;rw[EX,EX,QS,vD st o _ nl hn,cOa,Nat.min_eq_left (by omega),aWa,e]
theorem az.UJ{X:mS}{st:St}{G:Gh}{w w':World}(hm:az X st G w){o off:Nat}{ls nl:List ag}{vs:List Value}(ho:st.dN o=some ls)(hn:nl.any ag.pR=false)(hl:off+nl.length≤ls.length)(hcb:((ls.drop off).take nl.length).any ag.pR=false)
  (hv:All2 (aS G) nl vs) {arr arr':Array Value} {elem:TypeId} {mid:List Value} (g1:w.heap[G.φ o]? = some (.cells arr elem (0,0))) (g2:arr.toList=G.pre o++(mid++G.post o)) (g3:ip G st o 0 ls mid)
  (hw:w'.heap[G.φ o]? = some (.cells arr' elem (0,0))) (NF:arr'.toList=G.pre o++((mid.take off++(vs++mid.drop (off+vs.length)))++G.post o))
  (hwo:∀ k,k≠G.φ o→w'.heap[k]? = w.heap[k]?) (mX:w'.heap.size=w.heap.size) (hos:w'.os=w.os) (htp:w'.tape=w.tape) (yF:w'.output=w.output):
  az X (st.qJ o (mK ls off nl)) G w':=by
 have jG:eW G st (false,o) (G.φ o):=⟨⟨ls,ho⟩,rfl⟩;have nS:∀ x c,eW G (st.qJ o (mK ls off nl)) x c→eW G st x c:=fun x c hx=>by
  obtain⟨k,n⟩:=x;cases k with
  |true=>exact hx
  |false=>
   obtain⟨⟨l,h⟩,rfl⟩:=hx;rw[kT] at h;by_cases e:o=n
   ·subst e;exact jG
   ·simp only[e,Q9] at h;exact⟨⟨l,h⟩,rfl⟩
 have hnb:∀ x c,eW G st x c→x≠(false,o)→c≠G.φ o:=fun x c h hx e=>hx (hm.qs x (false,o) _ (e ▸ h) jG);refine {sl:=hm.sl,sh:=?_,ob:=?_,ar:=hm.ar,ah:=?_,nd:=hm.nd,qs:=fun x y b hx hy=>hm.qs x y b (nS x b hx) (nS y b hy),dS:=fun x b hx=>hm.dS x b (nS x b hx),tY:=fun x b hx=>hm.tY x b (nS x b hx),s0:=hm.s0,sn:=hm.sn,fr:=?_,sz:=by rw[mX];exact hm.sz,os:=hos.trans hm.os,tp:=htp.trans hm.tp,out:=yF.trans hm.out,pin:=fun q p h=>(by obtain⟨⟨l,h1⟩,h2⟩:=hm.pin q p h;refine⟨?_,h2⟩;rw[kT];by_cases e:o=q<;>simp[e,h1]),bv:=?_,ap:=hm.ap,hv:=hm.hv,ds:=hm.ds,hh:=hm.hh}
 ·intro c ob hc
  have:c≠G.φ o:=fun e=>by have:=hm.dS _ _ jG;rw[←e,hc] at this;cases this
  rw[hwo c this];exact hm.sh c ob hc
 ·intro q l hq
  rw[kT] at hq;by_cases e:o=q
  ·subst e
   simp only[ava,OQ] at hq;subst hq;refine⟨arr',elem,_,hw,NF,?_⟩;unfold ip at g3 ⊢;rw[ke (st:=st) (fun j l=>by simp),VP st o off ls nl hn hl]
   unfold mK;rw[hv.length];exact(g3.take off).append (hv.append (g3.drop _))
  ·simp only[e,Q9] at hq
   obtain⟨yw,rE,ahH,k1,k2,k3⟩:=hm.ob q l hq;have hG:G.φ q≠G.φ o:=hnb (false,q) _ ⟨⟨l,hq⟩,rfl⟩ (by simpa using fun h=>e h.symm)
   refine⟨yw,rE,ahH,by rw[hwo _ hG];exact k1,k2,?_⟩
   unfold ip at k3 ⊢;rw[ke (st:=st) (fun j l=>by simp)]
   exact k3
 ·intro a A hA hs p hp
  have hG:p.1≠G.φ o:=hnb (true,a) _ ⟨⟨A,hA,hs⟩,p,hp,rfl⟩ (by simp)
  rw[hwo _ hG];exact hm.ah a A hA hs p hp
 ·intro c hc hn
  have:c≠G.φ o:=fun e=>by
   rcases hm.tY _ _ jG with h|h
   ·exact hn (e ▸ h)
   ·rw[←e] at h;omega
  rw[hwo c this];exact hm.fr c hc hn
 ·intro q j u h
  obtain⟨h1,⟨l,h2,h3⟩,yw,rE,h4,h5⟩:=hm.bv q j u h;by_cases e:o=q
  ·subst e
   rw[ho] at h2;cases h2;rw[g1] at h4;cases h4;have hml:mid.length=ls.length:=by have:=All2.length g3;rw[iW] at this;exact this.symm
   have hj:j<ls.length:=(aka.1 h3).1;have hvl:=hv.length;have yF:j<off∨off+nl.length≤j:=by
    rcases cQa j off with h' | h'
    ·exact .inl h'
    ·refine .inr (cua fun h''=>?_)
     have ib:((ls.drop off).take nl.length)[j - off]? = some .vb:=by rw[bqa (by omega),bNa,show off+(j - off)=j by omega];exact h3
     have:=aSa.1 hcb _ (a1a ib);exact this rfl
   have key:∀{α:Type} (x y:List α) (ys:List α),x.length=ls.length→ys.length=nl.length→(x.take off++(ys++x.drop (off+ys.length)))[j]? = x[j]?:=fun x y ys hx hy=>by
    rcases yF with h' | h'
    ·rw[aVa (by simp;omega),bqa h']
    ·rw[aTa (by simp;omega),aTa (by simp;omega),bNa]
     congr 1;simp;omega
   refine⟨h1,⟨mK ls off nl,by rw[kT,a7a rfl],by unfold mK;rw[key ls ls nl rfl rfl];exact h3⟩,arr',elem,hw,?_⟩
   rw[NF,aTa (by omega),bca]
   rw[g2,aTa (by omega),bca] at h5
   have ah3:(mid.take off++(vs++mid.drop (off+vs.length))).length=mid.length:=by simp;omega
   rw[aVa (by omega)] at h5
   rw[aVa (by omega),key mid mid vs hml (by omega)];exact h5
  ·have hG:G.φ q≠G.φ o:=hnb (false,q) _ ⟨⟨l,h2⟩,rfl⟩ (by simpa using fun h=>e h.symm)
   exact⟨h1,⟨l,by rw[kT,aza e];exact h2,h3⟩,yw,rE,by rw[hwo _ hG];exact h4,h5⟩
theorem Ib{α:Type}(pre mid post vs:List α)(off n:Nat)(h:off+n≤mid.length):
  (pre++(mid++post)).take (pre.length+off)++(vs++(pre++(mid++post)).drop (pre.length+off+n))=pre++((mid.take off++(vs++mid.drop (off+n)))++post):=by
 rw[bKa,List.take_length_add_append,List.drop_length_add_append,cCa (by omega),List.drop_append_of_le_length h]
 simp
theorem Fg{X:mS}{st:St}{G:Gh}{w:World}(hm:az X st G w):∀{ls:List ag} {vs:List Value},ls.all ag.cell=true→All2 (aS G) ls vs→∀ v∈vs,v.oneCell' = true
 |[],[],_,_,v,hv=>by cases hv
 |l::ls,u::vs,h,a,v,hv=>by
  simp only[bpa,Q3] at h;rcases ama.1 hv with rfl|hv
  ·exact(Tg hm h.1 a.1).1
  ·exact Fg hm h.2 a.2 v hv
 |[],_::_,_,h,_,_=>h.elim
 |_::_,[],_,h,_,_=>h.elim
theorem Ah{P:Program}{w:World}{t:TypeId}{ti:TI}(hT:As P t ti){b o:Nat}{v:Value}(hl:v.cells.size=ti.size)(ht:w.there b o v.cells.size)(h1:∀ u∈v.cells.toList,u.oneCell' = true):
  (Instr.storeAt t (.pointer (some ⟨b,o,none⟩)) v).run P w=.ok () (w.setCells b o v.cells.toList):=by
 obtain⟨i,d,z,h1',h2,h3,_⟩:=hT;have:=run_storeAt_mid (P:=P) w b o t v.cells ht (by rw[h1'];simp[h3,hl]) (Array.all_eq_true_iff_forall_mem.2 fun u hu=>h1 u (by simpa using hu))
 exact this
section ops
variable {P:Program} {E:tn} (hE:iO P E.iE) {X:mS} {st:St} {G:Gh} {w:World} {R:Type} {r:R}
include hE
theorem VF{T:TypeId}{x v:ae}{vx vv:Value}{K:St→Option R}(h:xP E T x v st K=some r)(hm:az X st G w)(hx:aO G x vx)(hv:aO G v vv):
  ∃ st' G' w',(Instr.storeAt T vx vv).run P w=.ok () w'∧az X st' G' w'∧(∀ act,bO G st act→bO G' st' act)∧K st' = some r:=by
 unfold xP at h;cases hT:E.iE T with
 |none=>simp[hT] at h
 |some ti=>
  cases hl:v.p8 with
  |none=>simp[hT,hl] at h
  |some vs=>
   simp only[hT,hl] at h;cases hc:(Nat.beq vs.length ti.size&&vs.all ag.cell) with
   |false=>simp[hc] at h
   |true=>
    simp only[hc,aja] at h;simp only[Q3] at hc;have jy:vs.length=ti.size:=Q4 hc.1;have Gv:=mQ hm hl hv;have TH:=Fg hm hc.2 Gv;have DJ:vv.cells.size=ti.size:=by rw[←jy,Gv.length];simp
    have hti:=hE T ti hT;cases x with
    |agg ls=>simp[ae.bP] at h
    |Lm ls=>simp[ae.bP] at h
    |AH t ls=>simp[ae.bP] at h
    |one l=>
     simp only[ae.bP] at h;cases l with
     |lw o off=>
      simp only at h;cases ho:st.dN o with
      |none=>simp[ho] at h
      |some ls=>
       simp only[ho] at h;cases hs:qM ls off ti.size with
       |none=>simp[hs] at h
       |some c=>
        simp only[hs] at h;cases hb:c.any ag.pR with
        |true=>simp[hb] at h
        |false=>
         simp only[hb,aqa] at h;have Cm:off+ti.size≤ls.length:=by
          unfold qM at hs;cases hq:Nat.ble (off+ti.size) ls.length with
          |false=>simp[hq] at hs
          |true=>exact aZa hq
         obtain⟨arr,elem,mid,g1,g2,g3⟩:=hm.ob o ls ho;have hml:mid.length=ls.length:=by have:=All2.length g3;rw[iW] at this;exact this.symm
         have Vg:arr.size=(G.pre o).length+(mid.length+(G.post o).length):=by rw[←bea,g2];simp
         have Fk:vx=.pointer (some ⟨G.φ o,(G.pre o).length+off,none⟩):=hx;have xF:(G.pre o).length+off+vv.cells.size≤arr.size:=by omega
         obtain⟨arr',k1,k2,k3,k4,k5,k6,k7⟩:=om (G.φ o) vv.cells.toList ((G.pre o).length+off) w g1 (by simpa using xF)
         refine⟨st.qJ o (mK ls off vs),G,_,by rw[Fk];exact Ah hti DJ (BZ g1 xF) TH,?_,fun act ha=>⟨ha.1,ha.2.1,ha.2.2⟩,h⟩
         refine hm.UJ ho (Ng hc.2) (by omega) (by rw[jy];unfold qM at hs;cases hq:Nat.ble (off+ti.size) ls.length<;>simp[hq] at hs;rw[hs];exact hb) Gv g1 g2 g3 k1 ?_ k3 k4 k5 k6 k7
         have Cn:vv.cells.toList.length=ti.size:=by simpa using DJ
         rw[k2,g2,Cn];exact Ib _ _ _ _ _ _ (by omega)
     |Ei a sz i off=>
      simp only at h;cases du:st.vF vs with
      |none=>simp[du] at h
      |some wU=>
       simp only[du] at h;obtain⟨G1,L6,p6,adc⟩:=FA du hm;cases hA:look wU.cO a with
       |none=>simp[hA] at h
       |some A=>
        simp only[hA] at h;cases hb:(A.bx||A.sh||!Nat.beq sz A.t.size) with
        |true=>simp[hb] at h
        |false=>
         simp only[hb,aqa] at h;simp only[aGa,boa] at hb;obtain⟨⟨hd,Qm⟩,mX⟩:=hb;have mX:sz=A.t.size:=Q4 mX;obtain⟨d,hd1,h⟩:=axa.1 h;cases Cm:Nat.ble (off+ti.size) A.t.size with
         |false=>simp[Cm] at h
         |true=>
          simp only[Cm,aja] at h;have Cm:=aZa Cm;cases him:py wU A.t (mK (jZ A.t d) off vs) with
          |none=>simp[him] at h
          |some p=>
           obtain⟨x',r'⟩:=p;cases r' with
           |cons=>simp[him] at h
           |nil=>
            simp only[him] at h;have jT:wU.arr a=some A:=by simp[St.arr,hA]
            obtain⟨b,len,Za,q1,q2,rfl⟩:aS G1 (.Ei a sz i off) vx:=aS.sub p6 hx;have tH:=L6.ar a A jT
            replace tH:=(ia Qm (Ek hd)).1 tH
            rw[hd] at tH;have hi:A.l[i]? = some d:=by simpa[bC] using hd1
            rcases tH with ⟨e1,e2,e3⟩|⟨b',cap,arr,elem,cells,rest,H',e1,e2,e3,e4,e5,e6⟩
            ·rw[e1] at hi;simp at hi
            ·simp only[aJa,a_a] at e1
             rw[e1] at q1;cases q1;have tU:=L6.ah a A jT Qm (b,Obj.cells arr elem (0,0)) (by rw[e2];simp)
             obtain⟨pre,cc,post,Hp,Hc,Hq,k1,k2,k3,k4,k5⟩:=RepL.at (fun c x H hr=>gh.size hr) e6 hi;have hHc:=gh.nI k4;rw[hHc] at k4 k3;have afD:All2 (aS G1) vs vv.cells.toList:=Gv.imp fun _ _=>aS.sub p6;have afH:cc.length=A.t.size:=gh.size k4;have aeg:All2 (aS G1) (mK (jZ A.t d) off vs) (mK cc off vv.cells.toList):=by unfold mK;rw[afD.length];exact((lV k4).take off).append (afD.append ((lV k4).drop _))
             obtain⟨c1,c2,f1,f2,f3⟩:=NW L6 him aeg;cases c2 with
             |cons=>exact f3.elim
             |nil=>
              rw[bga] at f1;have zB:mK cc off vv.cells.toList=cc.take off++(vv.cells.toList++cc.drop (off+vv.cells.toList.length)):=rfl;have Cn:vv.cells.toList.length=ti.size:=by simpa using DJ
              have Vg:arr.size=pre.length+(cc.length+(post.length+rest.length)):=by rw[←bea,e3,k1];simp
              have xF:i * sz+off+vv.cells.size≤arr.size:=by rw[mX,←k2];omega
              obtain⟨arr',g1,g2,g3,g4,g5,g6,g7⟩:=om b vv.cells.toList (i * sz+off) w tU (by simpa using xF)
              have hrl:=k5 c1 x' [] f2;have rO:arr'.toList=(pre++(c1++post))++rest:=by
               rw[g2,e3,k1,←f1,zB,mX,←k2,Cn];have:=Ib pre cc (post++rest) vv.cells.toList off ti.size (by omega)
               simpa using this
              have ZV:arr'.size=arr.size:=by
               rw[←bea,rO,Vg];have Mu:c1.length=cc.length:=by rw[gh.size f2,afH]
               simp;omega
              obtain⟨G2,m2,r2,_⟩:=L6.OD (st':=wU.gP a {A with l:=A.l.set i x' }) (a:=a) (dst:=a) (A:=A) (A':={A with l:=A.l.set i x' }) jT Qm Qm (show A.gz=true from Ek hd) e1 e2 (cap':=Za) (arr':=arr') (elem:=elem)
               (.inr ⟨b,Za,arr',elem,pre++(c1++post),rest,H',by simp,rfl,rO,by rw[ZV];exact e4,by simpa using e5,by
                rw[k3,show({A with l:=A.l.set i x' }:jS).bx=false from hd];simpa using hrl⟩)
               g1 g3 g4 g5 g6 g7 (Yj hd) ⟨rfl,fun _=>rfl,fun _=>rfl,fun o j l=>by simp,rfl,rfl,rfl⟩ (fun q=>by rw[dI];by_cases e:q=a<;>simp[e,cea (a:=a)])
               (.inl ⟨rfl,by simp[e1]⟩)
              exact⟨_,G2,_,Ah hti DJ (BZ tU xF) TH,m2,fun act ra=>r2 act (ra.sub p6 adc.n adc.ir),h⟩
     |_=>simp at h
end ops
end Go.Fx
namespace Go.Fx
theorem XW{G:Gh}{t:Ty}{d:t.nH}{v:Value}(r:aS G (.eZ t d) v):gh G.S false t v.cells.toList d []:=by
 obtain⟨cs,e,hr⟩:=r;cases ht:t.agg with
 |true=>simp only[ht,ava] at e;subst e;exact hr
 |false=>
  simp only[ht,asa,Q9] at e;subst e;have:v.cells = #[v]:=by
   cases t with
   |int k=>cases hr.1;rfl
   |bool=>cases hr.1;rfl
   |str=>cases hr.1;rfl
   |slice t=>rcases hr with ⟨_,⟨_,iG,cap,h⟩|⟨b,cap,arr,elem,fz,pre,cells,rest,h,_⟩⟩<;>cases h<;>rfl
   |da a b=>cases ht
   |one a=>cases ht
   |arr n a=>cases ht
  rw[this];exact hr
theorem Nv(sz:Nat):∀(vs:List (Nat×Value)) (k:Nat) (cs:List Value),(∀ j p,vs[j]? = some p→p.1=k+j∧p.2.cells.size=sz)→(k+vs.length) * sz≤cs.length→
  Instr.fill (fun i=>some (i * sz,sz)) cs.toArray vs=some (cs.take (k * sz)++((vs.map fun p=>p.2.cells.toList).flatten++cs.drop ((k+vs.length) * sz))).toArray
 |[],k,cs,h,hl=>by simp[Instr.fill]
 |(i,v)::vs,k,cs,h,hl=>by
  obtain⟨h1,h2⟩:=h 0 (i,v) rfl;simp only[cwa] at h1 h2;subst h1;simp only[aDa] at hl;have hk:i * sz+sz≤cs.length:=by
   have:(i+1) * sz≤(i+(vs.length+1)) * sz:=bna _ (by omega)
   rw[bra,Nat.one_mul] at this;omega
  have hvl:v.cells.toList.length=sz:=by simpa using h2
  have NT:Instr.fill (fun i=>some (i * sz,sz)) cs.toArray ((i,v)::vs)=Instr.fill (fun i=>some (i * sz,sz)) (cs.take (i * sz)++(v.cells.toList++cs.drop (i * sz+v.cells.toList.length))).toArray vs:=by
   conv=>lhs;unfold Instr.fill
   simp only;rw[aza (by simp[h2];omega),Nz v.cells cs (i * sz) (by rw[h2];exact hk)]
  rw[NT,Nv sz vs (i+1) _ (fun j p hp=>by
   obtain⟨g1,g2⟩:=h (j+1) p (by simpa using hp)
   exact⟨by omega,g2⟩) (by
    have e:(i+1+vs.length) * sz=(i+(vs.length+1)) * sz:=by congr 1;omega
    rw[e];simp[hvl];omega)]
  congr 1
  have e:(i+1+vs.length) * sz=(i+(vs.length+1)) * sz:=by congr 1;omega
  have t1:(cs.take (i * sz)++(v.cells.toList++cs.drop (i * sz+v.cells.toList.length))).take ((i+1) * sz)=cs.take (i * sz)++v.cells.toList:=by rw[←a3a,cCa (by simp[hvl,bra];omega),List.take_of_length_le (by simp[hvl,bra];omega)]
  have L4:(i+1) * sz≤(i+(vs.length+1)) * sz:=bna _ (by omega)
  have t2:(cs.take (i * sz)++(v.cells.toList++cs.drop (i * sz+v.cells.toList.length))).drop ((i+(vs.length+1)) * sz)=cs.drop ((i+(vs.length+1)) * sz):=by
   rw[←a3a,List.drop_append,cla];rw[cna (by simp[hvl,bra] at L4 ⊢;omega)]
   simp only[aYa]
   congr 1
   simp[hvl,bra] at L4 ⊢;omega
  rw[e,t1,t2];simp
section ops
variable {P:Program} {E:tn} (hE:iO P E.iE) {X:mS} {w:World} {R:Type} {r:R}
theorem GH{t:Ty}:∀{iq:List (Nat×ae)} {vs:List (Nat×Value)} {k:Nat} {st st':St} {G:Gh} {l:List t.nH},ni t k iq st=some (l,st')→az X st G w→
  All2 (fun(p:Nat×ae) (q:Nat×Value)=>p.1=q.1∧aO G p.2 q.2) iq vs→
  ∃ G',az X st' G' w∧G.MT G'∧rK st st'∧RepL (gh G'.S false t) (vs.map fun p=>p.2.cells.toList).flatten l []∧l.length=vs.length∧(∀ j p,vs[j]? = some p→p.1=k+j∧p.2.cells.size=t.size)
 |[],[],k,st,st',G,l,h,hm,hp=>by simp only[ni,OQ,ala] at h;obtain⟨rfl,rfl⟩:=h;exact⟨G,hm,.refl G,.refl _,⟨rfl,rfl⟩,rfl,by simp⟩
 |(j,v)::iq,(j',u)::vs,k,st,st',G,l,h,hm,hp=>by
  obtain⟨⟨e,hv⟩,hp⟩:=hp;simp only at e hv;subst e;simp only[ni] at h;cases hk:Nat.beq k j with
  |false=>simp[hk] at h
  |true=>
   simp only[hk,aja] at h;have hk:=Q4 hk;subst hk;cases h1:v.qL st with
   |none=>simp[h1] at h
   |some wU=>
    simp only[h1] at h;obtain⟨G1,m1,s1,k1⟩:=FB h1 hm;cases h2:v.vK wU t with
    |none=>simp[h2] at h
    |some d=>
     simp only[h2] at h;cases h3:ni t (k+1) iq wU with
     |none=>simp[h3] at h
     |some p=>
      obtain⟨l',st2⟩:=p;simp only[h3,OQ,ala] at h;obtain⟨rfl,rfl⟩:=h;have hd:=XW (D7 m1 h2 (hv.sub s1));obtain⟨G2,m2,s2,k2,r2,l2,z2⟩:=GH h3 m1 (hp.imp fun p q hpq=>⟨hpq.1,hpq.2.sub s1⟩);refine⟨G2,m2,s1.trans s2,k1.trans k2,⟨_,_,[],[],by simp only[aHa,cMa],rfl,hd.mono s2.S,r2⟩,by simp[l2],?_⟩
      intro i q hq;cases i with
      |zero=>simp only[bda,OQ] at hq;subst hq;exact⟨rfl,by have:=gh.size hd;simpa using this⟩
      |succ i=>
       obtain⟨g1,g2⟩:=z2 i q (by simpa using hq)
       exact⟨by omega,g2⟩
 |[],_::_,_,_,_,_,_,_,_,hp=>hp.elim
 |_::_,[],_,_,_,_,_,_,_,hp=>hp.elim
theorem Uc{st:St}{G:Gh}{T:TypeId}{o:Nat}{ls:List ag}{cs:Array Value}{K:ae→St→Option R}(h:GC E T o ls st K=some r)(hm:az X st G w)(hl:All2 (aS G) ls cs.toList):
  ∃ av st' G',az X st' G' (w.alloc (.cells cs T))∧(∀ act,bO G st act→bO G' st' act)∧aO G' av (.pointer (some ⟨w.heap.size,0,none⟩))∧K av st' = some r:=by
 unfold GC at h;cases hT:E.iE T with
 |none=>simp[hT] at h
 |some ti=>
  cases ho:st.dN o with
  |some l=>simp[hT,ho] at h
  |none=>
   simp only[hT,ho] at h;cases hc:(Nat.beq ls.length ti.size&&!ls.any ag.pR&&!st.dc false o&&!ls.any (ag.dc false o)) with
   |false=>simp[hc] at h
   |true=>simp only[hc,aja] at h;simp only[Q3,aOa] at hc;obtain⟨⟨⟨_,h2⟩,h3⟩,h4⟩:=hc;obtain⟨G',m,Cm,hv⟩:=hm.Vz (elem:=T) ho h3 h2 h4 hl;exact⟨_,_,G',m,fun act ra=>ra.le Cm rfl (fun _=>rfl) h3,hv,h⟩
include hE
theorem Mc{st:St}{G:Gh}{T:TypeId}{dst len:Nat}{iq:List (Nat×ae)}{vs:List (Nat×Value)}{K:ae→St→Option R}(h:mF E T dst len iq st K=some r)(hm:az X st G w)
  (hp:All2 (fun(p:Nat×ae) (q:Nat×Value)=>p.1=q.1∧aO G p.2 q.2) iq vs):
  ∃ av v st' G' w',(Instr.buildSlice T len vs.toArray).run P w=.ok v w'∧az X st' G' w'∧(∀ act,bO G st act→bO G' st' act)∧aO G' av v∧K av st' = some r:=by
 unfold mF at h;split at h
 ·rename_i s b y e z hT
  cases AC:E.iE e with
  |none=>simp[AC] at h
  |some ei=>
   simp only[AC] at h;cases hy:ei.ty with
   |none=>simp[hy] at h
   |some t=>
    simp only[hy] at h;cases hc:(Nat.beq len iq.length&&Nat.beq ei.size t.size&&Nat.ble (len * ei.size) 16777216) with
    |false=>simp[hc] at h
    |true=>
     simp only[hc,aja] at h;simp only[Q3] at hc;obtain⟨⟨Mu,xd⟩,NH⟩:=hc;have Mu:=Q4 Mu;have xd:=Q4 xd;have NH:=aZa NH;cases hsp:ni t 0 iq st with
     |none=>simp[hsp] at h
     |some p=>
      obtain⟨l,wU⟩:=p;simp only[hsp] at h;cases ha:wU.arr dst with
      |some A=>simp[ha] at h
      |none=>
       simp only[ha] at h;cases AE:wU.dc true dst with
       |true=>simp[AE] at h
       |false=>
        simp only[AE,aqa] at h;obtain⟨G1,m1,s1,k1,r1,l1,z1⟩:=GH hsp hm hp;have Cn:vs.length=len:=by rw[Mu,hp.length]
        have hu:=(hE T _ hT).slice;obtain⟨i,d,zz,i1,i2,i3,i4,i5,i6,i7,i8,i9,_⟩:=hE e ei AC;have mD:(vs.map fun p=>p.2.cells.toList).flatten.length=len * t.size:=by rw[RepL.size (fun c x H hr=>gh.size hr) r1,l1,Cn]
        let zc:Array Value:=if len * ei.size=0 then #[] else zz.cells
        let R1:List Value:=((Array.range (len * ei.size)).map (zc[· % zc.size]!)).toList
        have F6:R1.length=len * ei.size:=by simp[R1]
        have NL:=Nv ei.size vs 0 R1 (fun j p hp=>by
         obtain⟨g1,g2⟩:=z1 j p hp;exact⟨g1,by rw[g2,xd]⟩) (by rw[aWa,Cn,F6];exact awa _)
        rw[aWa,Cn,Nat.zero_mul,List.take_zero,aYa,cna (by rw[F6];exact awa _),bga] at NL
        obtain⟨G2,m2,aed,Gx⟩:=m1.AK (elem:=e) (arr:=(vs.map fun p=>p.2.cells.toList).flatten.toArray) (cells:=(vs.map fun p=>p.2.cells.toList).flatten) (rest:=[]) (cap:=len) ha AE (by simp)
         (by rw[bFa,mD];exact awa _) (by rw[l1,Cn];exact awa _) r1
        refine⟨_,_,_,G2,_,?_,m2,fun act ra=>(ra.sub s1 k1.n k1.ir).le aed rfl (fun _=>rfl) AE,Gx,h⟩;have h24:¬ (2 ^ 24<len * i.size):=by rw[i3];omega
        have mX:=(hE e ei AC).size w;have Eu:(Array.range (len * ei.size)).map (zc[· % zc.size]!)=R1.toArray:=(Array.toArray_toList (xs:=(Array.range (len * ei.size)).map (zc[· % zc.size]!))).symm
        by_cases h0:len * ei.size=0
        ·have hzc:zc = #[]:=by simp[zc,h0]
         rw[hzc] at Eu;simp only[Instr.buildSlice,aMa,aEa hu,aFa,mX,Sem.run_ite,aza (show ¬ (len * ei.size > 2 ^ 24) by omega),h0,ava,baa]
         rw[h0] at Eu;rw[Eu];simp only[NL];simp[newRow,l1,Cn]
        ·have hzc:zc=zz.cells:=by simp[zc,h0]
         rw[hzc] at Eu;simp only[Instr.buildSlice,aMa,aEa hu,aFa,mX,Sem.run_ite,aza (show ¬ (len * ei.size > 2 ^ 24) by omega),h0,Q9,baa,zeroValue,typeInfo,run_program,i1,i5]
         rw[Eu];simp only[NL];simp[newRow,l1,Cn]
 ·cases h
end ops
end Go.Fx
namespace Go.Fx
theorem RepL.one{α:Type}{R:List Value→α→gj→Prop}(hR:∀ c x H,R c x H→∀ v∈c,v.oneCell' = true):∀{cs:List Value} {l:List α} {H:gj},RepL R cs l H→∀ v∈cs,v.oneCell' = true
 |_,[],_,h,v,hv=>by rw[h.1] at hv;cases hv
 |_,_::_,_,⟨c1,c2,H1,H2,e1,e2,r,rl⟩,v,hv=>by
  rw[e1] at hv;rcases aoa.1 hv with hv|hv
  ·exact hR _ _ _ r v hv
  ·exact RepL.one hR rl v hv
theorem gh.one{S:DN}{m:Bool}:∀{t:Ty} {cs:List Value} {d:t.nH} {H:gj},gh S m t cs d H→∀ v∈cs,v.oneCell' = true
 |.int k,cs,d,H,h,v,hv=>by rw[h.1] at hv;simp at hv;subst hv;rfl
 |.bool,cs,d,H,h,v,hv=>by rw[h.1] at hv;simp at hv;subst hv;rfl
 |.str,cs,d,H,h,v,hv=>by rw[h.1] at hv;simp at hv;subst hv;rfl
 |.slice t,cs,l,H,h,v,hv=>by
  simp only[gh] at h;split at h
  ·rcases h with ⟨_,_,rfl⟩|⟨b,cap,arr,elem,cells,rest,H',rfl,_⟩<;>(simp at hv;subst hv;rfl)
  ·rcases h with ⟨_,⟨_,iG,cap,rfl⟩|⟨b,cap,arr,elem,fz,pre,cells,rest,rfl,_⟩⟩<;>(simp at hv;subst hv;rfl)
 |.da a b,cs,d,H,h,v,hv=>by
  obtain⟨c1,c2,H1,H2,rfl,rfl,h1,h2⟩:=h;rcases aoa.1 hv with hv|hv
  ·exact gh.one h1 v hv
  ·exact gh.one h2 v hv
 |.one a,cs,d,H,h,v,hv=>by exact gh.one (t:=a) h v hv
 |.arr n t,cs,l,H,h,v,hv=>RepL.one (fun c x H hx=>gh.one hx) h.1 v hv
theorem FF{S:DN}{m:Bool}:∀{t:Ty} {l r:List Value},tX t l=some r→∃ c,l=c++r∧gh S m t c (qa t) []
 |.int k,l,r,h=>by
  cases l with
  |nil=>simp[tX] at h
  |cons v l=>
   cases v<;>simp only[tX] at h<;>try (cases h;done)
   rename_i k' n;by_cases hk:k=k'
   ·by_cases hn:n=0
    ·subst hk hn
     simp at h;subst h;exact⟨[.int k 0],rfl,rfl,rfl⟩
    ·simp[hn] at h
   ·simp[hk] at h
 |.bool,l,r,h=>by
  cases l with
  |nil=>simp[tX] at h
  |cons v l=>
   cases v<;>try (simp[tX] at h;done)
   rename_i b;cases b<;>simp[tX] at h;subst h;exact⟨[.bool false],rfl,rfl,rfl⟩
 |.str,l,r,h=>by
  cases l with
  |nil=>simp[tX] at h
  |cons v l=>
   cases v<;>try (simp[tX] at h;done)
   rename_i s;simp only[tX] at h;cases hs:s.data.toList with
   |cons=>simp[hs] at h
   |nil=>
    simp only[hs,OQ] at h;subst h;refine⟨[.string s],rfl,?_,rfl⟩;have:s=⟨([]:ab).toArray⟩:=by apply ByteArray.ext;apply cza;simpa using hs
    rw[this];rfl
 |.slice t,l,r,h=>by
  cases l with
  |nil=>simp[tX] at h
  |cons v l=>
   cases v<;>try (simp[tX] at h;done)
   rename_i a n c;cases a<;>cases n<;>cases c<;>simp[tX] at h;subst h;exact⟨[.slice none 0 0],rfl,by
    cases m
    ·exact⟨rfl,.inl ⟨rfl,none,0,rfl⟩⟩
    ·exact .inl ⟨rfl,rfl,rfl⟩⟩
 |.da a b,l,r,h=>by
  simp only[tX] at h;cases h1:tX a l with
  |none=>simp[h1] at h
  |some r1=>simp only[h1] at h;obtain⟨c1,e1,g1⟩:=FF (S:=S) (m:=m) h1;obtain⟨c2,e2,g2⟩:=FF (S:=S) (m:=m) h;exact⟨c1++c2,by rw[e1,e2];simp,c1,c2,[],[],rfl,rfl,g1,g2⟩
 |.one a,l,r,h=>by simp only[tX] at h;obtain⟨c,e,g⟩:=FF (S:=S) (m:=m) h;exact⟨c,e,g⟩
 |.arr n t,l,r,h=>by
  simp only[tX] at h;have key:∀(n:Nat) {l r:List Value},Ni (tX t) n l=some r→∃ c,l=c++r∧RepL (gh S m t) c (List.replicate n (qa t)) []:=by
   intro n;induction n with
   |zero=>intro l r h;simp only[Ni,OQ] at h;subst h;exact⟨[],rfl,rfl,rfl⟩
   |succ n ih=>
    intro l r h;simp only[Ni] at h;cases h1:tX t l with
    |none=>simp[h1] at h
    |some q=>simp only[h1] at h;obtain⟨c1,e1,g1⟩:=FF (S:=S) (m:=m) h1;obtain⟨c2,e2,g2⟩:=ih h;exact⟨c1++c2,by rw[e1,e2];simp,c1,c2,[],[],rfl,rfl,g1,g2⟩
  obtain⟨c,e,g⟩:=key n h;exact⟨c,e,g,by simp[qa]⟩
theorem QD(z:Array Value):∀ c:Nat,(madeCells z (c * z.size)).toList=(List.replicate c z.toList).flatten
 |0=>by simp[madeCells,Array.range]
 |c+1=>by
  have ih:=QD z c;simp only[madeCells,bVa,Array.toList_range] at ih ⊢;rw[bra,Nat.one_mul,List.range_add,bua,ih,List.replicate_succ',List.flatten_append]
  congr 1
  simp only[cAa,cMa,List.flatten_nil,bga];apply List.ext_getElem
  ·simp
  ·intro j h1 h2
   simp only[cya,List.length_range] at h1;simp only[List.getElem_map,List.getElem_range,Function.comp_apply,Array.getElem_toList];rw[Nat.mul_comm,Nat.mul_add_mod,Nat.mod_eq_of_lt h1,getElem!_pos z j h1]
theorem Xd{S:DN}{m:Bool}{t:Ty}{c:List Value}{x:t.nH}(h:gh S m t c x []):∀ n:Nat,RepL (gh S m t) (List.replicate n c).flatten (List.replicate n x) []
 |0=>⟨rfl,rfl⟩
 |n+1=>⟨c,_,[],[],by rw[List.replicate_succ,cMa],rfl,h,Xd h n⟩
theorem az.aaq{X:mS}{st:St}{G:Gh}{w:World}(hm:az X st G w){a:Nat}{t:Ty}(ha:st.arr a=none)(K6:st.dc true a=false):
  ∃ G',az X (st.gP a ⟨t,.dV,false,[]⟩) G' w∧G.Le G' true a∧aO G' (.one (.mT a)) (.slice none 0 0):=by
 let G':Gh:={G with ψ:=fun q=>if q=a then .slice none 0 0 else G.ψ q,HA:=fun q=>if q=a then [] else G.HA q}
 have Cm:G.Le G' true a:=⟨fun _ _ h=>h,fun _ _=>rfl,fun _ _=>rfl,fun _ _=>rfl,fun q h=>by simp[G',h rfl],fun _=>rfl,fun _ _=>rfl,rfl⟩
 have nS:∀ x b,eW G' (st.gP a ⟨t,.dV,false,[]⟩) x b→eW G st x b:=fun x b hx=>by
  obtain⟨k,n⟩:=x;cases k with
  |false=>exact hx
  |true=>
   obtain⟨⟨A,hA,hs⟩,p,hp,rfl⟩:=hx;rw[dI] at hA;by_cases e:a=n
   ·subst e;simp[G'] at hp
   ·simp only[e,Q9] at hA
    have hG:n≠a:=fun h=>e h.symm;simp only[G',hG,Q9] at hp;exact⟨⟨A,hA,hs⟩,p,hp,rfl⟩
 refine⟨G',?_,Cm,by simp[aO,aS,G']⟩
 refine {sl:=?_,sh:=hm.sh,ob:=?_,ar:=?_,ah:=?_,nd:=?_,qs:=fun x y b hx hy=>hm.qs x y b (nS x b hx) (nS y b hy),dS:=fun x b hx=>hm.dS x b (nS x b hx),tY:=fun x b hx=>hm.tY x b (nS x b hx),s0:=hm.s0,sn:=hm.sn,fr:=hm.fr,sz:=hm.sz,os:=hm.os,tp:=hm.tp,out:=hm.out,pin:=hm.pin,bv:=hm.bv,ap:=fun q u h=>(by obtain⟨h1,⟨B,h2⟩,h3⟩:=hm.ap q u h;have hG:q≠a:=(fun e=>by subst e;rw[ha] at h2;cases h2);exact⟨h1,⟨B,by rw[dI,aza (bBa hG)];exact h2⟩,by simp[G',hG,h3]⟩),hv:=hm.hv,ds:=hm.ds,hh:=aea hm rfl (fun q hq=>⟨rfl,by simp[G',hq]⟩)}
 ·intro q
  by_cases e:q=a
  ·exact .inl ⟨none,0,0,by simp[G',e]⟩
  ·have:=hm.sl q;simpa[G',e] using this
 ·intro q ls hq
  obtain⟨arr',Qb,mid,g1,g2,g3⟩:=hm.ob q ls hq;refine⟨arr',Qb,mid,g1,g2,?_⟩;unfold ip at g3 ⊢;rw[ke (st:=st) (fun j l=>by simp)]
  exact Cb Cm (ss K6 hq 0) g3
 ·intro b B hB
  rw[dI] at hB;by_cases e:a=b
  ·subst e
   simp only[ava,OQ] at hB;subst hB;refine KW.2 ?_;exact .inl ⟨rfl,by simp[G'],by simp[G']⟩
  ·simp only[e,Q9] at hB
   have hG:b≠a:=fun h=>e h.symm;exact(hm.ar b B hB).mono (G:=G) (a:=b) (G':=G') (a':=b) (fun _ _ h=>h) (by simp[G',hG]) (by simp[G',hG]) (fun _ _ _=>⟨rfl,rfl,rfl⟩)
 ·intro b B hB hs p hp
  rw[dI] at hB;by_cases e:a=b
  ·subst e;simp[G'] at hp
  ·simp only[e,Q9] at hB
   have hG:b≠a:=fun h=>e h.symm;simp only[G',hG,Q9] at hp;exact hm.ah b B hB hs p hp
 ·intro b B hB hs
  rw[dI] at hB;by_cases e:a=b
  ·subst e;simp[G']
  ·simp only[e,Q9] at hB
   have hG:b≠a:=fun h=>e h.symm;simp only[G',hG,Q9];exact hm.nd b B hB hs
theorem aan{α:Type}{n:Int}{x:α}{l:List α}(h:mkl n x=some l):0≤n∧n≤4294967296∧l=List.replicate n.toNat x:=by unfold mkl at h;by_cases h0:0≤n<;>by_cases h1:n≤4294967296<;>simp[h0,h1] at h;exact⟨h0,h1,h.symm⟩
section ops
variable {P:Program} {E:tn} (hE:iO P E.iE) {X:mS} {w:World} {R:Type} {r:R} {st:St} {G:Gh}
include hE
theorem Oq{T:TypeId}{dst:Nat}{x y:ae}{vx vy:Value}{K:ae→St→Option R}(h:nY E T dst x y st K=some r)(hm:az X st G w)(hx:aO G x vx)(hy:aO G y vy):
  ∃ av v st' G' w',(Instr.makeSlice T vx vy).run P w=.ok v w'∧az X st' G' w'∧(∀ act,bO G st act→bO G' st' act)∧aO G' av v∧K av st' = some r:=by
 unfold nY at h;split at h
 ·rename_i s b y' e z n c hT hn hc
  cases AC:E.iE e with
  |none=>simp[AC] at h
  |some ei=>
   simp only[AC] at h;split at h
   ·rename_i t hty pt
    generalize hcc:(Nat.beq ei.size t.size&&Nat.ble ei.bytes 16384&&!st.dc true dst&&(match tX t ei.zero with|some []=>true|_=>false))=cc at h
    cases cc with
    |false=>cases h
    |true=>
     have NJ:=hcc
     replace h:((mkl c (qa t)).bind fun z=>(sub z 0 n).bind fun l=>K (.one (.mT dst)) (st.gP dst ⟨t,bif E.KY dst then .bx else .dV,false,l⟩))=some r:=h
     simp only[Q3,aOa] at NJ;obtain⟨⟨⟨q1,q2⟩,q3⟩,q4⟩:=NJ;have q1:=Q4 q1;have q2:=aZa q2;obtain⟨zl,hzl,h⟩:=axa.1 h;obtain⟨l,hl,h⟩:=axa.1 h;obtain⟨m0,m1,rfl⟩:=aan hzl;obtain⟨n0,n1,n2,rfl⟩:=JJ hl;cases qy hn hx;cases qy hc hy;have hu:=(hE T _ hT).slice;obtain⟨i,d,zz,i1,i2,i3,i4,i5,i6,i7,i8,i9,_⟩:=hE e ei AC;simp only[bwa] at n2;have ZX:gh G.S (E.KY dst) t zz.cells.toList (qa t) []:=by
      cases hz:tX t ei.zero with
      |none=>simp[hz] at q4
      |some r'=>
       cases r' with
       |cons=>simp[hz] at q4
       |nil=>obtain⟨c0,e0,g0⟩:=FF (S:=G.S) (m:=E.KY dst) hz;rw[bga] at e0;rw[i6,e0];exact g0
     have hzs:zz.cells.size=i.size:=by rw[i3,←i9,←i6];simp
     have hcn:(0:Int)≤c:=m0;have hnc:n≤c:=by omega
     have hby:(i.bytes:Int) * c≤281474976710656:=by
      have h1:(i.bytes:Int)≤16384:=by rw[i4];omega
      have h2:(i.bytes:Int) * c≤16384 * 4294967296:=Int.mul_le_mul h1 m1 m0 (by omega)
      omega
     have iH:=run_make (P:=P) w T e i zz hu i1 i5 .i64 .i64 n c n1 hnc hby (by omega)
     have rO:(madeCells zz.cells (c.toNat * i.size)).toList=(List.replicate n.toNat zz.cells.toList).flatten++(List.replicate (c.toNat - n.toNat) zz.cells.toList).flatten:=by
      rw[←hzs,QD,←List.flatten_append,List.replicate_append_replicate]
      congr 2;omega
     have afU:((List.replicate c.toNat (qa t)).take n.toNat).drop (0:Int).toNat=List.replicate n.toNat (qa t):=by simp[List.take_replicate];omega
     rw[afU] at h;obtain⟨G2,m2,aed,Gx⟩:=hm.AK (l:=List.replicate n.toNat (qa t)) (arr:=madeCells zz.cells (c.toNat * i.size)) (elem:=e) (cap:=c.toNat) pt q3 rO
      (by rw[size_madeCells,i3,q1];exact awa _) (by simp;omega) (Xd ZX n.toNat)
     simp only[bwa] at Gx;exact⟨_,_,_,G2,_,iH,m2,fun act ra=>ra.le aed rfl (fun _=>rfl) q3,Gx,h⟩
   ·cases h
 ·cases h
end ops
end Go.Fx
namespace Go.Fx
theorem oV{P:Program}{w:World}{T e ty:TypeId}{i:TypeInfo}(hu:P.underlying T=some (.slice e))(hi:P.info? e=some i)(iG xb:Option Addr)(n cap xc:Nat)(hn:n≤cap):
  (Builtin.append_ #[T,T] ty #[.slice iG n cap,.slice xb 0 xc]).run P w=.ok (.slice iG n cap) w:=by
 cases iG<;>cases xb<;>simp[Builtin.append_,aEa hu,sizeOf,typeInfo,hi,Builtin.lenOf,Builtin.firstCells,loadCells,loadCellsFrom,storeCells,hn]
theorem rK.cO(st:St)(l:List (Nat×jS)):rK st {st with cO:=l}:=⟨rfl,fun _=>rfl,fun _=>rfl,fun o j l=>by cases l<;>rfl,rfl,rfl,rfl⟩
section ops
variable {P:Program} {E:tn} (hE:iO P E.iE) {X:mS} {w:World} {R:Type} {r:R} {st:St} {G:Gh}
include hE
set_option maxHeartbeats 2000000 in
theorem La{T ty:TypeId}{dst:Nat}{x y:ae}{vx vy:Value}{K:ae→St→Option R}(h:sx E T dst x y st K=some r)(hm:az X st G w)(hx:aO G x vx)(hy:aO G y vy):
  ∃ av v st' G' w',(Builtin.append_ #[T,T] ty #[vx,vy]).run P w=.ok v w'∧az X st' G' w'∧(∀ act,bO G st act→bO G' st' act)∧aO G' av v∧K av st' = some r:=by
 unfold sx at h;split at h
 ·rename_i s b y' e z hT
  cases AC:E.iE e with
  |none=>simp[AC] at h
  |some ei=>
   simp only[AC] at h;cases hty:ei.ty with
   |none=>simp[hty] at h
   |some t=>
    simp only[hty] at h;cases hc:(Nat.beq ei.size t.size&&Nat.ble ei.bytes 16384) with
    |false=>simp[hc] at h
    |true=>
     simp only[hc,aja] at h;simp only[Q3] at hc;have q1:=Q4 hc.1;have q2:=aZa hc.2;cases du:y.qL st with
     |none=>simp[du] at h
     |some wU=>
      simp only[du] at h;obtain⟨G1,m1,s1,k1⟩:=FB du hm;cases hg:y.vK wU (.slice t) with
      |none=>simp[hg] at h
      |some m=>
       cases Mv:wU.arr dst with
       |some A=>simp[hg,Mv] at h
       |none=>
        simp only[hg,Mv] at h;cases AE:wU.dc true dst with
        |true=>simp[AE] at h
        |false=>
         simp only[AE,aqa] at h;have hu:=(hE T _ hT).slice;obtain⟨i,d,zz,i1,i2,i3,i4,i5,i6,i7,i8,i9,_⟩:=hE e ei AC;have hzs:zz.cells.size=i.size:=by rw[i3,←i9,←i6];simp
         obtain⟨cs,ecs,Bv⟩:=D7 m1 hg (hy.sub s1);simp only[Ty.agg,asa,Q9] at ecs;subst ecs;have hx1:aO G1 x vx:=hx.sub s1;have rO:(m=[]∧∃ iG cap,vy=.slice iG 0 cap)∨(0<m.length∧∃ ad c news,vy=.slice (some ad) m.length c∧RepL (gh G1.S false t) news m []∧(∀ j u,news[j]? = some u→w.cell? (ad.add j)=some u)):=by
          rcases Bv with ⟨_,⟨rfl,iG,cap,h⟩|⟨b,cap,arr,elem,fz,pre,cells,rest,e1,e2,e3,e4,elc⟩⟩
          ·simp only[aJa,a_a] at h;exact .inl ⟨rfl,iG,cap,h⟩
          ·simp only[aJa,a_a] at e1
           cases m with
           |nil=>exact .inl ⟨rfl,_,_,e1⟩
           |cons x0 m=>
            refine .inr ⟨by simp,⟨b,pre.length,none⟩,cap,cells,e1,e4,fun j u hj=>?_⟩
            rw[bYa];exact oq (m1.sh _ _ e2) e3 rfl j u hj
         have hnl:∀{news:List Value},RepL (gh G1.S false t) news m []→news.length=m.length * i.size:=fun hr=>by rw[RepL.size (fun c x H hr=>gh.size hr) hr,i3,q1]
         have Gs:∀(st2:St) (rr:List t.nH),az X st2 G1 w→st2.arr dst=none→st2.dc true dst=false→rK wU st2→bD ([]:List t.nH) m=some rr→
           ∃ v G' w',(Builtin.append_ #[T,T] ty #[.slice none 0 0,vy]).run P w=.ok v w'∧az X (st2.gP dst ⟨t,.dV,false,rr⟩) G' w'∧(∀ act,bO G st act→bO G' (st2.gP dst ⟨t,.dV,false,rr⟩) act)∧aO G' (.one (.mT dst)) v:=by
          intro st2 rr hm2 ha2 aef hk2 L1;obtain⟨jy,aek⟩:=D4 L1;have ael:m=rr:=aek.symm;subst ael;have Qs:∀{G':Gh},G1.Le G' true dst→∀ act,bO G st act→bO G' (st2.gP dst ⟨t,.dV,false,m⟩) act:=fun Cm act ra=>
           (ra.sub s1 (k1.trans hk2).n (k1.trans hk2).ir).le Cm rfl (fun _=>rfl) aef
          rcases rO with ⟨rfl,iG,cap,rfl⟩|⟨rQ,ad,c,news,rfl,Ew,rF⟩
          ·obtain⟨G',m',Cm,hv⟩:=hm2.aaq (t:=t) ha2 aef
           exact⟨_,G',w,oV hu i1 none iG 0 0 cap (awa _),m',Qs Cm,hv⟩
          ·simp only[aCa,aWa] at jy
           have h48:m.length * i.bytes≤281474976710656:=by
            have:m.length * i.bytes≤4294967296 * 16384:=cFa jy (by rw[i4];exact q2)
            omega
           have iH:=run_append_nil (P:=P) w T ty e i zz hu i1 i5 ad m.length c news (hnl Ew) rF rQ (by omega) h48
           have L4:=grownCap_ge w m.length 0 e;obtain⟨G',m',Cm,hv⟩:=(az.drew hm2).AK (l:=m) (arr:=news.toArray++Builtin.zeroCells zz.cells (grownCap w m.length 0 e - m.length)) (elem:=e) (cells:=news) (rest:=(Builtin.zeroCells zz.cells (grownCap w m.length 0 e - m.length)).toList) (cap:=grownCap w m.length 0 e) ha2 aef
            (by simp) (by
             rw[bZa,cEa,hzs,bFa,hnl Ew,←bra,i3,q1];exact bna _ (by omega)) L4 Ew
           exact⟨_,G',_,iH,m',Qs Cm,hv⟩
         cases x with
         |agg ls=>simp[ae.bP] at h
         |Lm ls=>simp[ae.bP] at h
         |AH t ls=>simp[ae.bP] at h
         |one l=>
          simp only[ae.bP] at h;cases l with
          |nil=>simp only at h;obtain⟨rr,Qs,h⟩:=axa.1 h;have:vx=.slice none 0 0:=hx;subst this;obtain⟨v,G',w',f1,f2,f3,f4⟩:=Gs wU rr m1 Mv AE (.refl _) Qs;exact⟨_,v,_,G',w',f1,f2,f3,f4,h⟩
          |mT a=>
           simp only at h;cases hA:look wU.cO a with
           |none=>simp[hA] at h
           |some A=>
            simp only[hA] at h;cases NH:(A.sh||A.bx ||(look wU.fQ a).isSome||eV a wU.pin) with
            |true=>simp[NH] at h
            |false=>
             simp only[NH,aqa] at h;simp only[aGa] at NH;obtain⟨⟨⟨Qm,hAd⟩,hAb⟩,O0⟩:=NH;have hAb:look wU.fQ a=none:=by simpa using hAb
             cases NI:wd (.slice A.t) (.slice t) A.l with
             |none=>simp[NI] at h
             |some l=>
              simp only[NI] at h;obtain⟨ety,hl⟩:=lT NI;have Zz:=Fi hAd;obtain⟨At,Amd,Ash,Al⟩:=A;simp only[Ty.slice.injEq] at ety;subst ety;simp only at hl Qm Zz;subst hl Qm Zz;obtain⟨rr,Qs,hK⟩:=axa.1 h;have jT:wU.arr a=some ⟨At,.dV,false,l⟩:=by simp[St.arr,hA]
              have hG:dst≠a:=fun e=>by rw[e,jT] at Mv;cases Mv
              have tH:=m1.ar a _ jT
              replace tH:=KW.1 tH
              have hvx:vx=G1.ψ a:=hx1;have NF:∀(N:jS) q,({wU with cO:=(dst,N)::Gr wU.cO a}:St).arr q=if q=dst then some N else if q=a then none else wU.arr q:=fun N q=>by
               simp only[St.arr,aq,qC];by_cases e:q=dst
               ·subst e;simp
               ·by_cases e2:q=a
                ·subst e2;simp[e,bBa e,hAb,cea]
                ·simp[e,e2,cea (a:=dst),cea (a:=a)]
              rcases tH with ⟨e1,e2,e3⟩|⟨bb,cap,arr,elem,cells,rest,H',e1,e2,e3,e4,e5,e6⟩
              ·subst e1
               simp only[aJa,a_a] at e3;rw[hvx,e3];obtain⟨v,G',w',f1,f2,f3,f4⟩:=Gs {wU with cO:=Gr wU.cO a} rr (m1.RN a hAb O0) (by
                simp only[St.arr,qC] at Mv ⊢;rw[aza (fun h=>hG h.symm)];exact Mv) AE (rK.cO _ _) Qs
               exact⟨_,v,_,G',w',f1,f2,f3,f4,hK⟩
              ·simp only[aJa,a_a] at e1
               rw[hvx,e1];obtain⟨jy,rfl⟩:=D4 Qs;have tU:=m1.ah a _ jT rfl (bb,Obj.cells arr elem (0,0)) (by rw[e2];simp)
               have mD:cells.length=l.length * At.size:=RepL.size (fun c x H hr=>gh.size hr) e6;have hH':H' = []:=RepL.nI (fun c x H hr=>gh.nI hr) e6;subst hH';have hRR:∀{G':Gh} {st2:St},(∀ act,bO G1 wU act→bO G' st2 act)→∀ act,bO G st act→bO G' st2 act:=fun hf act ra=>hf act (ra.sub s1 k1.n k1.ir);rcases rO with ⟨rfl,iG,afa,rfl⟩|⟨rQ,ad,c,news,rfl,Ew,rF⟩
               ·
                rw[bga] at hK;obtain⟨G2,m2,r2,v2⟩:=m1.OD (st':={wU with cO:=(dst,⟨At,.dV,false,l⟩)::Gr wU.cO a}) (a:=a) (dst:=dst) (A':=⟨At,.dV,false,l⟩) jT rfl rfl rfl e1 e2 (cap':=cap) (arr':=arr) (elem:=elem)
                 (.inr ⟨bb,cap,arr,elem,cells,rest,[],rfl,rfl,e3,e4,e5,e6⟩) tU (fun _ _=>rfl) rfl rfl rfl rfl rfl (rK.cO _ _) (NF _) (.inr ⟨hG,Mv,AE,O0⟩)
                exact⟨_,_,_,G2,w,oV hu i1 _ _ _ _ _ e5,m2,hRR r2,v2,hK⟩
               ·by_cases NQ:l.length+m.length≤cap
                ·have xF:0+l.length * i.size+news.length≤arr.size:=by
                  rw[hnl Ew,aWa,←bra,i3,q1];exact bEa (bna _ NQ) e4
                 have hth:=BZ tU xF;have iH:=run_append_room_cells (P:=P) w T ty e i hu i1 bb 0 l.length cap ad m.length c news (hnl Ew) rF (RepL.one (fun c x H hr=>gh.one hr) Ew) NQ
                  (fun j hj=>(hth j hj).1) (fun j hj=>(hth j hj).2)
                 obtain⟨arr',g1,g2,g3,g4,g5,g6,g7⟩:=om bb news (0+l.length * i.size) w tU xF;have RY:arr'.toList=(cells++news)++arr.toList.drop (0+l.length * i.size+news.length):=by
                  rw[g2];have:arr.toList.take (0+l.length * i.size)=cells:=by rw[e3,aWa,i3,q1,←mD];simp
                  rw[this];simp
                 have ZV:arr'.size=arr.size:=by rw[←bea,g2];simp;omega
                 obtain⟨G2,m2,r2,v2⟩:=m1.OD (st':={wU with cO:=(dst,⟨At,.dV,false,l++m⟩)::Gr wU.cO a}) (a:=a) (dst:=dst) (A':=⟨At,.dV,false,l++m⟩) jT rfl rfl rfl e1 e2 (cap':=cap) (arr':=arr') (elem:=elem)
                  (.inr ⟨bb,cap,arr',elem,cells++news,_,[],rfl,rfl,RY,by rw[ZV];exact e4,by simpa using NQ,(by have h6:=e6.append Ew;rw[bga] at h6;exact h6)⟩) g1 g3 g4 g5 g6 g7 rfl (rK.cO _ _) (NF _) (.inr ⟨hG,Mv,AE,O0⟩)
                 simp only[aua] at v2;exact⟨_,_,_,G2,_,iH,m2,hRR r2,v2,hK⟩
                ·have holds:∀ j u,cells[j]? = some u→w.cell? ((⟨bb,0,none⟩:Addr).add j)=some u:=fun j u hj=>by
                  rw[bYa];exact oq (pre:=[]) tU (by simpa using e3) rfl j u hj
                 have hby:(l.length+m.length) * i.bytes≤140737488355328:=by
                  have:(l.length+m.length) * i.bytes≤4294967296 * 16384:=cFa jy (by rw[i4];exact q2)
                  omega
                 have xF:=growslice_fits (need:=l.length+m.length) (old:=cap) (bytes:=i.bytes) (by omega) hby
                 have iH:=run_append_grow (P:=P) w T ty e i zz hu i1 i5 ⟨bb,0,none⟩ l.length cap cells (by rw[mD,i3,q1]) holds ad m.length c news (hnl Ew) rF (by omega) (by omega) xF
                 have L4:=grownCap_ge w (l.length+m.length) cap e;obtain⟨G',m',Cm,hv⟩:=(az.drew (m1.RN a hAb O0)).AK (l:=l++m) (arr:=cells.toArray++news.toArray++Builtin.zeroCells zz.cells (grownCap w (l.length+m.length) cap e - (l.length+m.length))) (elem:=e) (cells:=cells++news) (rest:=(Builtin.zeroCells zz.cells (grownCap w (l.length+m.length) cap e - (l.length+m.length))).toList) (cap:=grownCap w (l.length+m.length) cap e)
                  (a:=dst) (by
                   simp only[St.arr,qC] at Mv ⊢;rw[aza (fun h=>hG h.symm)];exact Mv) AE (by simp) (by
                   rw[bZa,bZa,cEa,hzs,bFa,bFa,hnl Ew,mD,i3,q1,←bra,←bra];exact bna _ (by omega)) (by simpa using L4) (by simpa using e6.append Ew)
                 simp only[aua] at hv;exact⟨_,_,_,G',_,iH,m',hRR (fun act ra=>(ra.sub (.refl _) rfl (fun _=>rfl)).le Cm rfl (fun _=>rfl) AE),hv,hK⟩
          |_=>simp at h
 ·cases h
end ops
end Go.Fx
namespace Go.Fx
theorem Bg{P:Program}{w:World}{G:Gh}{lo:Option ae}{vlo:Option Value}{d n:Int}(h:nA d lo=some n)(hr:∀ a,lo=some a→∃ v,vlo=some v∧aO G a v)(hn:lo=none→vlo=none):
  (vlo=none∧lo=none∧n=d)∨∃ k,vlo=some (.int k n):=by
 cases lo with
 |none=>simp only[nA,OQ] at h;exact .inl ⟨hn rfl,rfl,h.symm⟩
 |some a=>simp only[nA,aKa] at h;obtain⟨⟨k,m⟩,h1,h2⟩:=h;simp only at h2;subst h2;obtain⟨v,h3,h4⟩:=hr a rfl;exact .inr ⟨k,by rw[h3,qy h1 h4]⟩
theorem zi{P:Program}{w:World}{isSlice:Bool}{len cap:Nat}{vlo vhi:Option Value}{i j:Int}(hlc:len≤cap)(h0:0≤i)(h1:i≤j)(h2:j≤(len:Int))
  (hlo:(vlo=none∧i=0)∨∃ k,vlo=some (.int k i)) (hhi:(vhi=none∧j=(len:Int))∨∃ k,vhi=some (.int k j)):
  (Instr.sliceBounds isSlice len cap vlo vhi none).run P w=.ok (i.toNat,j.toNat,cap) w:=by
 have hjc:j≤(cap:Int):=by omega
 have hj0:0≤j:=by omega
 rcases hlo with ⟨rfl,rfl⟩|⟨k,rfl⟩<;>rcases hhi with ⟨rfl,rfl⟩|⟨k',rfl⟩
 ·simp[Instr.sliceBounds]
 ·simp[Instr.sliceBounds,Instr.sliceBound,asIntOf,hj0,hjc]
 ·have:i.toNat≤len:=by omega
  have h3:i≤(len:Int):=by omega
  simp[Instr.sliceBounds,Instr.sliceBound,asIntOf,h0,h3]
 ·have h3:i≤((j.toNat:Nat):Int):=by omega
  have h4:¬ (max j 0<i):=by omega
  simp[Instr.sliceBounds,Instr.sliceBound,asIntOf,h0,hj0,hjc,h3,h4]
theorem Tu(s:ab)(i j:Nat):(⟨s.toArray⟩:ByteArray).extract i j=⟨((s.take j).drop i).toArray⟩:=by apply ByteArray.ext;apply cza;simp[ByteArray.data_extract,List.drop_take]
section ops
variable {P:Program} {E:tn} (hE:iO P E.iE) {X:mS} {w:World} {R:Type} {r:R} {st:St} {G:Gh}
include hE
theorem OJ{T e:TypeId}{ei:TI}(hu:P.underlying T=some (.slice e))(AC:E.iE e=some ei){t:Ty}(hz:ei.size=t.size){l:List t.nH}{vx:Value}(hx:Ca G.S (RepL (gh G.S false t)) [vx] l [])
  {vlo vhi:Option Value} {i j:Int} {rr:List t.nH} (hs:sub l i j=some rr) (hlo:(vlo=none∧i=0)∨∃ k,vlo=some (.int k i)) (hhi:(vhi=none∧j=(l.length:Int))∨∃ k,vhi=some (.int k j)):
  ∃ v,(Instr.slice T vx vlo vhi none).run P w=.ok v w∧aO G (.one (.eZ (.slice t) rr)) v:=by
 obtain⟨h0,h1,h2,rfl⟩:=JJ hs;have mX:=(hE _ _ AC).size w;rcases hx with ⟨_,⟨rfl,iG,cap,hb⟩|⟨b,cap,arr,elem,fz,pre,cells,rest,e1,e2,e3,e4,elc⟩⟩
 ·simp only[aJa,a_a] at hb
  subst hb;simp only[aCa] at h2;obtain rfl:i=0:=by omega
  obtain rfl:j=0:=by simp at h2;omega
  have iH:=zi (P:=P) (w:=w) (isSlice:=true) (len:=0) (cap:=cap) (vlo:=vlo) (vhi:=vhi) (Nat.zero_le _) (coa 0) (coa 0) (by simp) hlo (by simpa using hhi)
  refine⟨.slice (if cap=0 then iG else iG.map (·.add (0 * ei.size))) 0 cap,?_,⟨[_],rfl,rfl,.inl ⟨by simp,_,_,rfl⟩⟩⟩
  simp only[Instr.slice,aMa,aEa hu,aFa,iH,mX];simp
 ·simp only[aJa,a_a] at e1
  subst e1
  ·have X7:=elc
   have iH:=zi (P:=P) (w:=w) (isSlice:=true) (len:=l.length) (cap:=cap) X7 h0 h1 h2 hlo hhi;have hi:i.toNat≤j.toNat:=by omega
   have hj:j.toNat≤l.length:=by omega
   refine⟨.slice (if cap=i.toNat then some ⟨b,pre.length,none⟩ else(some (⟨b,pre.length,none⟩:Addr)).map (·.add (i.toNat * ei.size))) (j.toNat - i.toNat) (cap - i.toNat),?_,?_⟩
   ·simp only[Instr.slice,aMa,aEa hu,aFa,iH,mX]
    simp
   ·have jy:((l.take j.toNat).drop i.toNat).length=j.toNat - i.toNat:=by simp;omega
    by_cases hci:cap=i.toNat
    ·have:j.toNat - i.toNat=0:=by omega
     have abT:(l.take j.toNat).drop i.toNat=[]:=cBa (by omega)
     rw[abT,a7a hci,this];exact⟨[_],rfl,rfl,.inl ⟨rfl,_,_,rfl⟩⟩
    ·rw[aza hci]
     obtain⟨c1,c2,H1,H2,k1,k2,k3,k4,k5⟩:=RepL.split (fun c x H hr=>gh.size hr) (k:=j.toNat) e4 hj;have hH1:=RepL.nI (fun c x H hr=>gh.nI hr) k4;obtain⟨d1,d2,K1,K2,q1,q2,q3,q4,q5⟩:=RepL.split (fun c x H hr=>gh.size hr) (k:=i.toNat) k4 (by simp;omega)
     have hK2:=RepL.nI (fun c x H hr=>gh.nI hr) q5;rw[hK2] at q5;refine⟨[_],rfl,rfl,.inr ⟨b,cap - i.toNat,arr,elem,fz,pre++d1,d2,c2++rest,?_,e2,?_,q5,by rw[jy];omega⟩⟩
     ·rw[jy]
      simp[bYa,q3,hz]
     ·rw[e3,k1,q1];simp
theorem Ov{T:TypeId}{dst:Nat}{x:ae}{vx:Value}{lo hi mx:Option ae}{vlo vhi vmx:Option Value}{K:ae→St→Option R}(h:uv E T dst x lo hi mx st K=some r)(hm:az X st G w)(hx:aO G x vx)
  (hlo:∀ a,lo=some a→∃ v,vlo=some v∧aO G a v) (abS:lo=none→vlo=none) (hhi:∀ a,hi=some a→∃ v,vhi=some v∧aO G a v) (aeb:hi=none→vhi=none) (hmx:mx=none→vmx=none):
  ∃ av v st' G',(Instr.sliceAt T vx vlo vhi vmx).run P w=.ok v w∧az X st' G' w∧(∀ act,bO G st act→bO G' st' act)∧aO G' av v∧K av st' = some r:=by
 unfold uv at h;have lG:∀{av:ae} {v:Value},(∃ d,P.underlying T=some d∧(match d with | .array _ _=>False|_=>True))→vmx=none→(Instr.slice T vx vlo vhi none).run P w=.ok v w→aO G av v→K av st=some r→
   ∃ av v st' G',(Instr.sliceAt T vx vlo vhi vmx).run P w=.ok v w∧az X st' G' w∧(∀ act,bO G st act→bO G' st' act)∧aO G' av v∧K av st' = some r:=fun hd Vj iH hv hK=>by
  obtain⟨d,hu,ahu⟩:=hd;subst Vj;refine⟨_,_,st,G,?_,hm,fun _ h=>h,hv,hK⟩;simp only[Instr.sliceAt,aMa,aEa hu,aFa];cases d<;>first|exact ahu.elim|exact iH
 split at h
 ·
  rename_i s b y z hT;have hu:=(hE T _ hT).str;have Vj:=hmx rfl;cases hs:x.OM with
  |none=>simp[hs] at h
  |some str=>
   simp only[hs] at h;cases DO:nA 0 lo with
   |none=>simp[DO] at h
   |some i=>
    cases Qo:nA (str.length:Int) hi with
    |none=>simp[DO,Qo] at h
    |some j=>simp only[DO,Qo] at h;obtain⟨rr,Qs,h⟩:=axa.1 h;obtain⟨h0,h1,h2,rfl⟩:=JJ Qs;cases Dr hs hx;have k1:=Bg (P:=P) (w:=w) DO hlo abS;have k2:=Bg (P:=P) (w:=w) Qo hhi aeb;have iH:=zi (P:=P) (w:=w) (isSlice:=false) (len:=str.length) (cap:=str.length) (awa _) h0 h1 h2 (k1.imp (fun h=>⟨h.1,h.2.2⟩) id) (k2.imp (fun h=>⟨h.1,h.2.2⟩) id);refine lG ⟨_,hu,trivial⟩ Vj ?_ (KM _) h;simp only[Instr.slice,aMa,aEa hu,aFa,kw,Xm,iH,cIa,asa,Q9,baa,Tu]
 ·rename_i s b y e z hT
  have hu:=(hE T _ hT).slice;have Vj:=hmx rfl;cases AC:E.iE e with
  |none=>simp[AC] at h
  |some ei=>
   simp only[AC] at h;cases x with
   |agg ls=>simp[ae.bP] at h
   |Lm ls=>simp[ae.bP] at h
   |AH t ls=>simp[ae.bP] at h
   |one l=>
    simp only[ae.bP] at h;cases l with
    |eZ t l=>
     cases t with
     |slice t=>
      simp only at h;cases hz:Nat.beq ei.size t.size with
      |false=>simp[hz] at h
      |true=>
       simp only[hz,aja] at h;have hz:=Q4 hz;cases DO:nA 0 lo with
       |none=>simp[DO] at h
       |some i=>
        cases Qo:nA (l.length:Int) hi with
        |none=>simp[DO,Qo] at h
        |some j=>simp only[DO,Qo] at h;obtain⟨rr,Qs,h⟩:=axa.1 h;have k1:=Bg (P:=P) (w:=w) DO hlo abS;have k2:=Bg (P:=P) (w:=w) Qo hhi aeb;obtain⟨cs,ecs,Bv⟩:=hx;simp only[Ty.agg,asa,Q9] at ecs;subst ecs;obtain⟨v,f1,f2⟩:=OJ hE (P:=P) (w:=w) hu AC hz Bv Qs (k1.imp (fun h=>⟨h.1,h.2.2⟩) id) (k2.imp (fun h=>⟨h.1,h.2.2⟩) id);exact lG ⟨_,hu,trivial⟩ Vj f1 f2 h
     |_=>simp at h
    |mT a=>
     simp only at h;cases hA:st.arr a with
     |none=>simp[hA] at h
     |some A=>
      simp only[hA] at h;cases hz:Nat.beq ei.size A.t.size with
      |false=>simp[hz] at h
      |true=>
       simp only[hz,aja] at h;have hz:=Q4 hz;have hvx:vx=G.ψ a:=hx;have tH:=hm.ar a A hA;cases Qm:A.sh with
       |true=>
        simp only[Qm,aja] at h
        replace tH:=(xV Qm).1 tH
        cases DO:nA 0 lo with
        |none=>simp[DO] at h
        |some i=>
         cases Qo:nA (A.l.length:Int) hi with
         |none=>simp[DO,Qo] at h
         |some j=>
          simp only[DO,Qo] at h;obtain⟨rr,Qs,h⟩:=axa.1 h;have k1:=Bg (P:=P) (w:=w) DO hlo abS;have k2:=Bg (P:=P) (w:=w) Qo hhi aeb;obtain⟨v,f1,f2⟩:=OJ hE (P:=P) (w:=w) (vx:=vx) hu AC hz (by rw[hvx];exact tH) Qs (k1.imp (fun h=>⟨h.1,h.2.2⟩) id) (k2.imp (fun h=>⟨h.1,h.2.2⟩) id)
          exact lG ⟨_,hu,trivial⟩ Vj f1 f2 h
       |false=>
        simp only[Qm,aqa] at h;cases lo with
        |some _=>simp at h
        |none=>
         cases hi with
         |none=>simp at h
         |some hv=>
          simp only at h;cases hj:hv.F7 with
          |none=>simp[hj] at h
          |some p=>
           obtain⟨k,j⟩:=p;simp only[hj] at h;cases hc:(A.bx ||(look st.cO a).isNone ||(look st.fQ a).isSome ||(st.arr dst).isSome||st.dc true dst||eV a st.pin) with
           |true=>simp[hc] at h
           |false=>
            simp only[hc,aqa] at h;simp only[aGa] at hc;obtain⟨⟨⟨⟨⟨hAd,Mu⟩,xd⟩,NH⟩,AE⟩,O0⟩:=hc;have xd:look st.fQ a=none:=by simpa using xd
            have NH:st.arr dst=none:=by simpa using NH
            obtain⟨rr,Qs,h⟩:=axa.1 h;obtain⟨_,h1,h2,rfl⟩:=JJ Qs;obtain⟨vh,rfl,hvh⟩:=hhi hv rfl;cases qy hj hvh;have ahC:=abS rfl;subst ahC Vj
            replace tH:=(ia Qm (Ek hAd)).1 tH
            rw[hAd] at tH;have hmf:=Fi hAd;have hG:dst≠a:=fun e=>by rw[e,hA] at NH;cases NH
            have mX:=(hE _ _ AC).size w;have NF:∀(N:jS) q,({st with cO:=(dst,N)::Gr st.cO a}:St).arr q=if q=dst then some N else if q=a then none else st.arr q:=fun N q=>by
             simp only[St.arr,aq,qC];by_cases e:q=dst
             ·subst e;simp
             ·by_cases e2:q=a
              ·subst e2;simp[e,bBa e,xd,cea]
              ·simp[e,e2,cea (a:=dst),cea (a:=a)]
            have ZF:((A.l.take j.toNat).drop (0:Int).toNat)=A.l.take j.toNat:=by simp
            rw[ZF] at h;rcases tH with ⟨e1,e2,e3⟩|⟨bb,cap,arr,elem,cells,rest,H',e1,e2,e3,e4,e5,e6⟩
            ·simp only[aJa,a_a] at e3
             have hj0:j=0:=by rw[e1] at h2;simp at h2;omega
             subst hj0;obtain⟨G',m',Cm,hv'⟩:=(hm.RN a xd O0).aaq (a:=dst) (t:=A.t) (by
              simp only[St.arr,qC] at NH ⊢;rw[aza (fun h=>hG h.symm)];exact NH) AE
             have hl0:A.l.take (0:Int).toNat=[]:=by simp
             refine⟨.one (.mT dst),.slice none 0 0,_,G',?_,m',fun act ra=>(ra.sub (.refl _) rfl (fun _=>rfl)).le Cm rfl (fun _=>rfl) AE,hv',by rw[hl0] at h;simp only[Qm,hmf] at h;exact h⟩
             have iH:=zi (P:=P) (w:=w) (isSlice:=true) (len:=0) (cap:=0) (vlo:=none) (vhi:=some (.int k 0)) (i:=0) (j:=0) (Nat.zero_le _) (coa 0) (coa 0) (by simp) (.inl ⟨rfl,rfl⟩) (.inr ⟨k,rfl⟩)
             rw[hvx,e3];simp only[Instr.sliceAt,Instr.slice,aMa,aEa hu,aFa,iH,mX];simp
            ·simp only[aJa,a_a] at e1
             have hH':H' = []:=RepL.nI (fun c x H hr=>gh.nI hr) e6;subst hH';have tU:=hm.ah a A hA Qm (bb,Obj.cells arr elem (0,0)) (by rw[e2];simp)
             obtain⟨c1,c2,H1,H2,q1,q2,q3,q4,q5⟩:=RepL.split (fun c x H hr=>gh.size hr) (k:=j.toNat) e6 (by omega)
             have hH1:=RepL.nI (fun c x H hr=>gh.nI hr) q4;subst hH1;have bg:(A.l.take j.toNat).length=j.toNat:=by simp;omega
             obtain⟨G2,m2,r2,v2⟩:=hm.OD (st':={st with cO:=(dst,{A with l:=A.l.take j.toNat})::Gr st.cO a}) (a:=a) (dst:=dst) (A':={A with l:=A.l.take j.toNat}) hA Qm Qm (show A.gz=true from Ek hAd) e1 e2 (cap':=cap) (arr':=arr) (elem:=elem)
              (.inr ⟨bb,cap,arr,elem,c1,c2++rest,[],rfl,rfl,by rw[e3,q1];simp,e4,by rw[bg];omega,by rw[show({A with l:=A.l.take j.toNat}:jS).bx=false from hAd];exact q4⟩) tU (fun _ _=>rfl) rfl rfl rfl rfl (by simp[jS.nest,hmf]) (rK.cO _ _) (NF _) (.inr ⟨hG,NH,AE,O0⟩)
             refine⟨_,_,_,G2,?_,m2,r2,v2,by simpa[Qm] using h⟩
             have iH:=zi (P:=P) (w:=w) (isSlice:=true) (len:=A.l.length) (cap:=cap) (vlo:=none) (vhi:=some (.int k j)) (i:=0) (j:=j) e5 (coa 0) h1 h2 (.inl ⟨rfl,rfl⟩) (.inr ⟨k,rfl⟩);rw[hvx,e1];simp only[Instr.sliceAt,Instr.slice,aMa,aEa hu,aFa,iH,mX];simp only[bg];by_cases X7:cap=0
             ·simp[X7]
             ·simp[X7,Addr.add]
    |_=>simp at h
 ·cases h
end ops
end Go.Fx
namespace Go.Fx
structure wH(X:mS)(st st':St)(G G':Gh)(w w':World)(Old Tch:Bool×Nat→Prop)(F:List (Bool×Nat)):Prop where
 n:st'.n=st.n
 ir:∀ i,st'.ir i=st.ir i
 bl:st'.cF=st.cF
 pn:st'.pin=st.pin
 S:G'.S=G.S
 bP:∀ l v,(∀ x∈F,l.dc x.1 x.2=false)→aS G l v→aS G' l v
 fm:∀ x∈F,st.dc x.1 x.2=false
 sl:∀ a,SlV (G'.ψ a)
 dN:∀ o ls,st'.dN o=some ls→(Tch (false,o)∧∃ arr elem mid,w'.heap[G'.φ o]? = some (.cells arr elem (0,0))∧arr.toList=G'.pre o++(mid++G'.post o)∧ip G' st' o 0 ls mid)∨
  (¬ Tch (false,o)∧¬ Old (false,o)∧st.dN o=some ls∧G'.φ o=G.φ o∧G'.pre o=G.pre o∧G'.post o=G.post o)
 arr:∀ a A,st'.arr a=some A→(Tch (true,a)∧pf G' a A∧(A.sh=false→(∀ p∈G'.HA a,w'.heap[p.1]? = some p.2)∧((G'.HA a).map (·.1)).Nodup∧(A.nest=true→G'.HV a (G'.vn a)=kF (G'.HA a))))∨
  (¬ Tch (true,a)∧st.arr a=some A∧G'.ψ a=G.ψ a∧G'.HA a=G.HA a∧(A.sh=false→¬ Old (true,a))∧G'.HV a (G'.vn a)=G.HV a (G.vn a)∧∀ i o,A.md=.DK i o→G'.φ o=G.φ o∧G'.pre o=G.pre o∧G'.post o=G.post o)
 gz:∀ x b,Tch x→eW G' st' x b→(∃ y,Old y∧eW G st y b)∨w.heap.size≤b
 qs:∀ x y b,Tch x→Tch y→eW G' st' x b→eW G' st' y b→x=y
 hv:∀ a,G'.vn a=st'.dC a
 old:∀ b,b<w.heap.size→(∀ y,Old y→¬ eW G st y b)→w'.heap[b]? = w.heap[b]?
 sz:w.heap.size≤w'.heap.size
 os:w'.os=w.os
 tp:w'.tape=w.tape
 out:w'.output=w.output
 ds:G'.ds=G.ds:=by rfl
 VJ:∀ o ls,st.dN o=some ls→((∃ p,X.pin o=some p)∨∃ j u,X.bv o j=some u)→st'.dN o=some ls∧¬ Tch (false,o)
 VI:∀ a A,eV a st.pin=true→st.arr a=some A→(∃ B,st'.arr a=some B)∧G'.ψ a=G.ψ a
section
variable {X:mS} {st st':St} {G G':Gh} {w w':World} {Old Tch:Bool×Nat→Prop} {F:List (Bool×Nat)}
theorem wH.TR(h:wH X st st' G G' w w' Old Tch F){x:ae}{v:Value}(hm:∀ y∈F,x.dc y.1 y.2=false)(r:aO G x v):aO G' x v:=by
 have fk:∀{ls:List ag} {vs:List Value},(∀ y∈F,ls.any (ag.dc y.1 y.2)=false)→All2 (aS G) ls vs→All2 (aS G') ls vs:=fun {ls vs} hq hr=>
  hr.vp fun l v hl Cn=>h.bP l v (fun y hy=>by have:=aSa.1 (hq y hy) l hl;simpa using this) Cn
 cases x with
 |one l=>exact h.bP l v hm r
 |agg ls=>obtain⟨cs,e,hr⟩:=r;exact⟨cs,e,fk hm hr⟩
 |Lm vs=>
  obtain⟨us,e,hr⟩:=r;refine⟨us,e,hr.vp fun p u hp NO=>?_⟩;have hm':∀ y∈F,p.2.any (ag.dc y.1 y.2)=false:=fun y hy=>by have:=aSa.1 (hm y hy) p hp;simpa using this
  split at NO
  ·rename_i hc;simp only[hc,ava];obtain⟨cs,e,hr⟩:=NO;exact⟨cs,e,fk hm' hr⟩
  ·rename_i hc
   obtain⟨l,e,hr⟩:=NO;simp only[bya] at hc;simp only[hc,asa,Q9];exact⟨l,e,h.bP l u (fun y hy=>by have:=hm' y hy;rw[e] at this;simpa using this) hr⟩
 |AH t ls=>obtain⟨u,cs,e1,e2,hr⟩:=r;exact⟨u,cs,e1,e2,fk hm hr⟩
theorem wH.eB(h:wH X st st' G G' w w' Old Tch F){act:Act}(hr:bO G st act):bO G' st' act:=
 ⟨hr.1.trans h.ds.symm,hr.2.1.trans h.n.symm,fun i v hv=>by
  rw[h.ir] at hv;exact h.TR (fun y hy=>BN (h.fm y hy) hv) (hr.2.2 i v hv)⟩
theorem wH.ok(h:wH X st st' G G' w w' Old Tch F)(hm:az X st G w):az X st' G' w':=by
 have hS:∀ b o,G.S b=some o→G'.S b=some o:=fun b o e=>by rw[h.S];exact e
 have low:∀ x b,¬ Tch x→eW G' st' x b→eW G st x b∧¬ Old x:=fun x b hx ho=>by
  obtain⟨k,n⟩:=x;cases k with
  |false=>
   obtain⟨⟨ls,hl⟩,rfl⟩:=ho;rcases h.dN n ls hl with ⟨h1,_⟩|⟨_,h2,h3,h4,_⟩
   ·exact absurd h1 hx
   ·exact⟨⟨⟨ls,h3⟩,h4⟩,h2⟩
  |true=>
   obtain⟨⟨A,hA,hs⟩,p,hp,rfl⟩:=ho;rcases h.arr n A hA with ⟨h1,_⟩|⟨_,h2,h3,h4,h5,_⟩
   ·exact absurd h1 hx
   ·exact⟨⟨⟨A,h2,hs⟩,p,by rw[←h4];exact hp,rfl⟩,h5 hs⟩
 have lE:∀ x b,eW G st x b→¬ Old x→w'.heap[b]? = w.heap[b]?:=fun x b hx ho=>
  h.old b (eW.lt hm hx) fun y hy hyb=>ho (by rw[←hm.qs y x b hyb hx];exact hy)
 have agq:∀ o ls,st.dN o=some ls→((∃ p,X.pin o=some p)∨∃ j u,X.bv o j=some u)→st'.dN o=some ls∧¬ Old (false,o)∧G'.φ o=G.φ o∧G'.pre o=G.pre o∧G'.post o=G.post o:=fun o ls ho hp=>by
  obtain⟨h1,h2⟩:=h.VJ o ls ho hp;rcases h.dN o ls h1 with ⟨h3,_⟩|⟨_,h4,_,h5⟩
  ·exact absurd h3 h2
  ·exact⟨h1,h4,h5⟩
 refine {sl:=h.sl,sh:=fun b o hb=>?_,ob:=fun o ls ho=>?_,ar:=fun a A hA=>?_,ah:=fun a A hA hs p hp=>?_,nd:=fun a A hA hs=>?_,qs:=fun x y b hx hy=>?_,dS:=fun x b hx=>?_,tY:=fun x b hx=>?_,s0:=fun b o hb=>hS b o (hm.s0 b o hb),sn:=fun b o hb=>hm.sn b o (by rw[←h.S];exact hb),fr:=fun b hb hn=>?_,sz:=bEa hm.sz h.sz,os:=h.os.trans hm.os,tp:=h.tp.trans hm.tp,out:=h.out.trans hm.out,pin:=fun o p hp=>?_,bv:=fun o j u hu=>?_,ap:=fun a u hu=>?_,hv:=h.hv,ds:=h.ds.trans hm.ds,hh:=fun a A hA hs hn=>?_}
 ·rw[h.S] at hb
  have h0:=hm.sh b o hb;rw[h.old b (fZ h0) fun y _ hy=>(by rw[hm.dS y b hy] at hb;cases hb)]
  exact h0
 ·rcases h.dN o ls ho with ⟨_,h2⟩|⟨_,h2,h3,h4,h5,h6⟩
  ·exact h2
  ·obtain⟨arr,elem,mid,g1,g2,g3⟩:=hm.ob o ls h3
   refine⟨arr,elem,mid,by rw[h4,lE (false,o) _ ⟨⟨ls,h3⟩,rfl⟩ h2];exact g1,by rw[h5,h6];exact g2,?_⟩
   unfold ip at g3 ⊢;rw[ke (st:=st) (fun j l=>by cases l<;>simp[St.res,h.bl])]
   refine g3.vp fun l v hl Cn=>h.bP l v (fun y hy=>?_) Cn;have:=aSa.1 (ss (h.fm y hy) h3 0) l hl;simpa using this
 ·rcases h.arr a A hA with ⟨_,h2,_⟩|⟨_,h2,h3,h4,_,_,h7⟩
  ·exact h2
  ·exact(hm.ar a A h2).mono (G:=G) (a:=a) (G':=G') (a':=a) hS h3 h4 h7
 ·rcases h.arr a A hA with ⟨_,_,h3⟩|⟨_,h2,h3,h4,h5,_⟩
  ·exact(h3 hs).1 p hp
  ·rw[h4] at hp
   rw[lE (true,a) p.1 ⟨⟨A,h2,hs⟩,p,hp,rfl⟩ (h5 hs)];exact hm.ah a A h2 hs p hp
 ·rcases h.arr a A hA with ⟨_,_,h3⟩|⟨_,h2,h3,h4,_⟩
  ·exact(h3 hs).2.1
  ·rw[h4];exact hm.nd a A h2 hs
 ·by_cases Fk:Tch x<;>by_cases Gy:Tch y
  ·exact h.qs x y b Fk Gy hx hy
  ·obtain⟨k1,k2⟩:=low y b Gy hy
   rcases h.gz x b Fk hx with ⟨z,hz,hzb⟩|hf
   ·exact absurd (by rw[←hm.qs z y b hzb k1];exact hz) k2
   ·have:=eW.lt hm k1;omega
  ·obtain⟨k1,k2⟩:=low x b Fk hx
   rcases h.gz y b Gy hy with ⟨z,hz,hzb⟩|hf
   ·exact absurd (by rw[←hm.qs z x b hzb k1];exact hz) k2
   ·have:=eW.lt hm k1;omega
  ·exact hm.qs x y b (low x b Fk hx).1 (low y b Gy hy).1
 ·rw[h.S]
  by_cases Fk:Tch x
  ·rcases h.gz x b Fk hx with ⟨z,hz,hzb⟩|hf
   ·exact hm.dS z b hzb
   ·cases hc:G.S b with
    |none=>rfl
    |some o=>have:=fZ (hm.sh b o hc);omega
  ·exact hm.dS x b (low x b Fk hx).1
 ·by_cases Fk:Tch x
  ·rcases h.gz x b Fk hx with ⟨z,hz,hzb⟩|hf
   ·exact hm.tY z b hzb
   ·have:=hm.sz;exact .inr (by omega)
  ·exact hm.tY x b (low x b Fk hx).1
 ·rw[h.old b (by have:=hm.sz;omega) fun y _ hy=>(by
   rcases hm.tY y b hy with g|g
   ·exact hn g
   ·omega)]
  exact hm.fr b hb hn
 ·obtain⟨⟨ls,h1⟩,h2⟩:=hm.pin o p hp
  obtain⟨h3,_,h4,h5,h6⟩:=agq o ls h1 (.inl ⟨p,hp⟩);exact⟨⟨ls,h3⟩,by rw[h4,h5,h6];exact h2⟩
 ·obtain⟨h1,⟨ls,h2,h3⟩,arr,elem,h4,h5⟩:=hm.bv o j u hu
  obtain⟨k1,k2,k3,k4,k5⟩:=agq o ls h2 (.inr ⟨j,u,hu⟩);exact⟨by rw[h.bl];exact h1,⟨ls,k1,h3⟩,arr,elem,by rw[k3,lE (false,o) _ ⟨⟨ls,h2⟩,rfl⟩ k2];exact h4,by rw[k4];exact h5⟩
 ·rcases h.arr a A hA with ⟨_,_,h3⟩|⟨_,h2,h3,h4,h5,h6,_⟩
  ·exact(h3 hs).2.2 hn
  ·rw[h6,h4];exact hm.hh a A h2 hs hn
 ·obtain⟨h1,⟨A,h2⟩,h3⟩:=hm.ap a u hu
  obtain⟨h4,h5⟩:=h.VI a A h1 h2;exact⟨by rw[h.pn];exact h1,h4,h5.trans h3⟩
end
end Go.Fx
namespace Go.Fx
theorem MA{x:Nat}:∀{l:List Nat},eV x l=true↔x∈l
 |[]=>by simp[eV]
 |y::r=>by simp only[eV,a5a,ama,MA (l:=r)];exact⟨fun h=>h.imp (fun e=>Q4 e) id,fun h=>h.imp (fun e=>by subst e;simp) id⟩
theorem Fr:∀{l:List Nat},oo l=true→l.Nodup
 |[],_=>b_a
 |x::r,h=>by simp only[oo,Q3,aOa] at h;refine a2a.2 ⟨fun hm=>?_,Fr h.2⟩;rw[MA.2 hm] at h;cases h.1
theorem N7{α:Type}:∀(l m:List (Nat×α)) (q:Nat),look (l++m) q=match look l q with|some v=>some v|none=>look m q
 |[],m,q=>rfl
 |(k,v)::r,m,q=>by
  rw[a4a,aq,aq];by_cases e:k=q
  ·simp[e]
  ·simp only[e,Q9];exact N7 r m q
theorem zP:∀{c:List Nat} {l:List (Nat×jS)} {q:Nat},look (lm c l) q=if q∈c then none else look l q
 |[],l,q=>by simp[lm]
 |a::r,l,q=>by
  rw[lm,zP,qC];by_cases h1:q∈r
  ·simp[h1]
  ·by_cases h2:a=q
   ·simp[h2]
   ·have:q≠a:=fun e=>h2 e.symm
    simp[h1,h2,this]
theorem wy{S S':DN}{m m':Bool}:∀{t:Ty} {cs:List Value} {d:t.nH} {H:gj},t.za=true→gh S m t cs d H→gh S' m' t cs d H
 |.int _,_,_,_,_,h=>h
 |.bool,_,_,_,_,h=>h
 |.str,_,_,_,_,h=>h
 |.slice _,_,_,_,e,_=>by cases e
 |.da a b,cs,d,H,e,h=>by simp only[Ty.za,Q3] at e;obtain⟨c1,c2,H1,H2,rfl,rfl,h1,h2⟩:=h;exact⟨c1,c2,H1,H2,rfl,rfl,wy e.1 h1,wy e.2 h2⟩
 |.one a,cs,d,H,e,h=>by exact wy (t:=a) e h
 |.arr n t,cs,d,H,e,h=>⟨h.1.imp fun c x H hx=>wy (t:=t) e hx,h.2⟩
theorem W2{α:Type}{RL:List Value→List α→gj→Prop}{sz:Nat}{v:Value}{l:List α}{H:gj}(h:kx RL sz [v] l H):SlV v:=by
 rcases h with ⟨_,_,e⟩|⟨b,cap,arr,elem,cells,rest,H',e,_⟩
 ·simp only[aJa,a_a] at e;exact .inl ⟨_,_,_,e⟩
 ·simp only[aJa,a_a] at e;exact .inl ⟨_,_,_,e⟩
theorem az.NY{X:mS}{st st':St}{G:Gh}{w w':World}(hm:az X st G w){dst:Nat}{C:List Nat}{A':jS}{hd:Value}{HH:gj}
  (hC:∀ c∈C,(∃ A,st.arr c=some A∧A.sh=false)∧eV c st.pin=false) (Co:A'.sh=false)
  (Mz:SlV hd) (NP:∀ G':Gh,G'.S=G.S→G'.ψ dst=hd→G'.HA dst=HH→pf G' dst A') (HO:(HH.map (·.1)).Nodup)
  (ZG:∀ p∈HH,(∃ c∈C,∃ q∈G.HA c,q.1=p.1)∨w.heap.size≤p.1) (ZH:∀ p∈HH,w'.heap[p.1]? = some p.2)
  (aeh:∀ b,b<w.heap.size→(∀ c∈C,∀ q∈G.HA c,q.1≠b)→w'.heap[b]? = w.heap[b]?) (mX:w.heap.size≤w'.heap.size) (hos:w'.os=w.os) (htp:w'.tape=w.tape) (yF:w'.output=w.output)
  (hk:rK st st') (pt:∀ q,st'.arr q=if q=dst then some A' else if q∈C then none else st.arr q) (Mv:st.arr dst=none) (AE:st.dc true dst=false):
  ∃ G',az X st' G' w'∧(∀ act,bO G st act→bO G' st' act)∧aO G' (.one (.mT dst)) hd∧G.Le G' true dst:=by
 let G':Gh:={G with ψ:=fun q=>if q=dst then hd else G.ψ q,HA:=fun q=>if q=dst then HH else G.HA q,HV:=fun q=>if q=dst then fun _=>kF HH else G.HV q}
 have Cm:G.Le G' true dst:=⟨fun _ _ h=>h,fun _ _=>rfl,fun _ _=>rfl,fun _ _=>rfl,fun q h=>by simp[G',h rfl],fun _=>rfl,fun q h=>by simp[G',h rfl],rfl⟩
 have O4:wH X st st' G G' w w' (fun x=>∃ c∈C,x=(true,c)) (fun x=>x=(true,dst)) [(true,dst)]:=by
  refine {
      n:=hk.n,ir:=hk.ir,bl:=hk.bl,pn:=hk.pn,S:=rfl,bP:=fun l v h r=>r.le Cm (h (true,dst) (Q7.2 rfl)),fm:=fun x hx=>by rw[Q7.1 hx];exact AE,
      sl:=fun q=>?_,dN:=fun o ls h=>?_,arr:=fun q A h=>?_,gz:=fun x b hx ho=>?_,qs:=fun x y b hx hy _ _=>hx.trans hy.symm,hv:=fun q=>?_,old:=fun b hb hn=>?_,
      sz:=mX,os:=hos,tp:=htp,out:=yF,VJ:=fun o ls h _=>⟨by rw[hk.dN];exact h,by simp⟩,VI:=fun q A hp hA=>?_}
  ·by_cases e:q=dst
   ·simp only[G',e,ava];exact Mz
   ·simp only[G',e,Q9];exact hm.sl q
  ·rw[hk.dN] at h
   exact .inr ⟨by simp,by simp,h,rfl,rfl,rfl⟩
  ·rw[pt] at h
   by_cases e:q=dst
   ·subst e
    simp only[ava,OQ] at h;subst h;refine .inl ⟨rfl,NP G' rfl (by simp[G']) (by simp[G']),fun _=>?_⟩
    simp only[G',ava];exact⟨ZH,HO,fun _=>trivial⟩
   ·simp only[e,Q9] at h
    by_cases e2:q∈C
    ·simp[e2] at h
    ·simp only[e2,Q9] at h
     exact .inr ⟨by simp[e],h,by simp[G',e],by simp[G',e],fun _=>by simpa using fun h=>e2 h,by simp[G',e],fun _ _ _=>⟨rfl,rfl,rfl⟩⟩
  ·subst hx
   obtain⟨⟨A,hA,hs⟩,p,hp,rfl⟩:=ho;simp only[G',ava] at hp;rcases ZG p hp with ⟨c,hc,q,hq,e⟩|h
   ·obtain⟨⟨B,hB,Kn⟩,_⟩:=hC c hc
    exact .inl ⟨(true,c),⟨c,hc,rfl⟩,⟨B,hB,Kn⟩,q,hq,e⟩
   ·exact .inr h
  ·show G.vn q=st'.dC q
   rw[hm.hv];simp only[St.dC,hk.vr]
  ·refine aeh b hb fun c hc q hq e=>?_
   obtain⟨⟨B,hB,Kn⟩,_⟩:=hC c hc;exact hn (true,c) ⟨c,hc,rfl⟩ ⟨⟨B,hB,Kn⟩,q,hq,e⟩
  ·have h1:q≠dst:=fun e=>by rw[e,Mv] at hA;cases hA
   have h2:q∉C:=fun e=>by rw[(hC q e).2] at hp;cases hp
   exact⟨⟨A,by rw[pt,aza h1,aza h2];exact hA⟩,by simp[G',h1]⟩
 exact⟨G',O4.ok hm,fun act=>O4.eB,by simp[aO,aS,G'],Cm⟩
theorem az.uj{X:mS}{st st':St}{G:Gh}{w w':World}(hm:az X st G w){dst:Nat}{C:List Nat}{A':jS}{hd:Value}{HH:gj}
  (hC:∀ c∈C,(∃ A,st.arr c=some A∧A.sh=false)∧eV c st.pin=false) (Co:A'.sh=false) (how:A'.gz=true)
  (jG:kx (RepL (gh G.S A'.bx A'.t)) A'.t.size [hd] A'.l HH) (HO:(HH.map (·.1)).Nodup)
  (ZG:∀ p∈HH,(∃ c∈C,∃ q∈G.HA c,q.1=p.1)∨w.heap.size≤p.1) (ZH:∀ p∈HH,w'.heap[p.1]? = some p.2)
  (aeh:∀ b,b<w.heap.size→(∀ c∈C,∀ q∈G.HA c,q.1≠b)→w'.heap[b]? = w.heap[b]?) (mX:w.heap.size≤w'.heap.size) (hos:w'.os=w.os) (htp:w'.tape=w.tape) (yF:w'.output=w.output)
  (hk:rK st st') (pt:∀ q,st'.arr q=if q=dst then some A' else if q∈C then none else st.arr q) (Mv:st.arr dst=none) (AE:st.dc true dst=false):
  ∃ G',az X st' G' w'∧(∀ act,bO G st act→bO G' st' act)∧aO G' (.one (.mT dst)) hd∧G.Le G' true dst:=
 hm.NY hC Co (W2 jG) (fun G' e1 e2 e3=>(ia Co how).2 (by rw[e1,e2,e3];exact jG)) HO ZG ZH aeh mX hos htp yF hk pt Mv AE
theorem aal(u:Ty):(Sb u=.dV∧u.za=true)∨Sb u=.bx:=by unfold Sb;cases h:u.za<;>simp
theorem acs{S:DN}{u:Ty}{cs:List Value}{l:List u.nH}{H:gj}{sz:Nat}{v:List Value}(h:kx (RepL (gh S true u)) sz v l H){m:Bool}(hm:m=true∨u.za=true):kx (RepL (gh S m u)) sz v l H:=by
 rcases hm with rfl|hn
 ·exact h
 ·exact h.imp fun c H hr=>hr.imp fun _ _ _ hx=>wy hn hx
theorem acu{S:DN}{u:Ty}{l:List u.nH}{H:gj}{sz:Nat}{v:List Value}{m:Bool}(hm:m=true∨u.za=true)(h:kx (RepL (gh S m u)) sz v l H):kx (RepL (gh S true u)) sz v l H:=by
 rcases hm with rfl|hn
 ·exact h
 ·exact h.imp fun c H hr=>hr.imp fun _ _ _ hx=>wy hn hx
theorem PS(nm:Nat)(u:Ty)(l:List u.nH):(⟨u,Sb u,false,l⟩:jS).gz=true∧((⟨u,Sb u,false,l⟩:jS).bx=true∨u.za=true):=by
 rcases aal u with ⟨h,h2⟩|h
 ·rw[h];exact⟨rfl,.inr h2⟩
 ·rw[h];exact⟨rfl,.inl rfl⟩
theorem aS.leF{G G':Gh}{F:List (Bool×Nat)}(hS:∀ b o,G.S b=some o→G'.S b=some o)(hφ:∀ o,(false,o)∉F→G'.φ o=G.φ o∧G'.pre o=G.pre o)
  (hψ:∀ a,(true,a)∉F→G'.ψ a=G.ψ a∧G.vn a≤G'.vn a∧∀ v,v≤G.vn a→G'.HV a v=G.HV a v) {l:ag} {v:Value} (hm:∀ x∈F,l.dc x.1 x.2=false) (r:aS G l v):aS G' l v:=by
 have ha:∀ a,l.dc true a=true→(true,a)∉F:=fun a h hf=>by rw[hm _ hf] at h;cases h
 have ho:∀ a,l.dc false a=true→(false,a)∉F:=fun a h hf=>by rw[hm _ hf] at h;cases h
 cases l with
 |any=>trivial
 |vb=>trivial
 |vV=>exact r
 |eZ t d=>obtain⟨cs,e,hr⟩:=r;exact⟨cs,e,hr.mono hS⟩
 |nil=>exact r
 |KD=>exact r
 |mT a=>simp only[aS,(hψ a (ha a (by simp[ag.dc]))).1];exact r
 |lw o off=>have:=hφ o (ho o (by simp[ag.dc]));simp only[aS,this.1,this.2];exact r
 |Ei a sz i off=>simp only[aS,(hψ a (ha a (by simp[ag.dc]))).1];exact r
 |PO t d off=>obtain⟨b,arr,elem,fz,pre,cs,post,h1,h2,h3,h4⟩:=r;exact⟨b,arr,elem,fz,pre,cs,post,hS _ _ h1,h2,h3.mono hS,h4⟩
 |fn f=>exact r
 |Ft a vr sz i off=>have:=hψ a (ha a (by simp[ag.dc]));exact vY.AP r this.1 this.2.1 this.2.2
 |nse a vr sz i off sz2 j T4=>
  have:=hψ a (ha a (by simp[ag.dc]))
  obtain⟨b2,Kx,LM,h1,h2⟩:=r;exact⟨b2,Kx,LM,h1.AP this.1 this.2.1 this.2.2,h2⟩
 |Mo a kk n=>simp only[aS,(hψ a (ha a (by simp[ag.dc]))).1];exact r
 |ga t l=>obtain⟨b,arr,elem,fz,cs,rest,h1,h2,h3,h4⟩:=r;exact⟨b,arr,elem,fz,cs,rest,hS _ _ h1,h2,h3.EH hS,h4⟩
theorem ME{S:DN}{nm:Nat→Nat}:∀{t:Ty} {d:t.nH} {cs:List Value} {H:gj} {off:Nat},t.su=true→gh S true t cs d H→
  ∃ gs:List (Value×gj),H=gs.flatMap (·.2)∧All2 (fun(p:Nat×jS) (g:Value×gj)=>p.2.sh=false∧p.2.gz=true∧kx (RepL (gh S p.2.bx p.2.t)) p.2.t.size [g.1] p.2.l g.2) (zC nm t d off) gs∧
   ∀ G:Gh,G.S=S→All2 (fun(p:Nat×jS) (g:Value×gj)=>G.ψ p.1=g.1) (zC nm t d off) gs→All2 (aS G) (HY nm t d off) cs
 |.int k,d,cs,H,off,_,h=>by rw[h.1,h.2];exact⟨[],rfl,trivial,fun G _ _=>⟨⟨_,by simp[Ty.agg],rfl,rfl⟩,trivial⟩⟩
 |.bool,d,cs,H,off,_,h=>by rw[h.1,h.2];exact⟨[],rfl,trivial,fun G _ _=>⟨⟨_,by simp[Ty.agg],rfl,rfl⟩,trivial⟩⟩
 |.str,d,cs,H,off,_,h=>by rw[h.1,h.2];exact⟨[],rfl,trivial,fun G _ _=>⟨⟨_,by simp[Ty.agg],rfl,rfl⟩,trivial⟩⟩
 |.slice u,d,cs,H,off,_,h=>by
  have hs:=gh.size h
  match cs,hs,h with
  |[v],_,h=>obtain⟨k1,k2⟩:=PS (nm off) u d;exact⟨[(v,H)],by simp,⟨⟨rfl,k1,acs (cs:=[]) h k2⟩,trivial⟩,fun G _ hg=>⟨hg.1.symm,trivial⟩⟩
 |.da a b,d,cs,H,off,hn,h=>by
  simp only[Ty.su,Q3] at hn;obtain⟨c1,c2,H1,H2,rfl,rfl,h1,h2⟩:=h;obtain⟨g1,e1,a1,r1⟩:=ME (nm:=nm) (off:=off) hn.1 h1;obtain⟨g2,e2,a2,r2⟩:=ME (nm:=nm) (off:=off+a.size) hn.2 h2;refine⟨g1++g2,by rw[e1,e2,cDa],a1.append a2,fun G hS hg=>?_⟩
  obtain⟨y1,y2,e,k1,k2⟩:=hg.split;have hl:y1.length=g1.length:=by rw[←k1.length,a1.length]
  obtain⟨rfl,rfl⟩:=List.append_inj e hl.symm;exact(r1 G hS k1).append (r2 G hS k2)
 |.one a,d,cs,H,off,hn,h=>by exact ME (t:=a) hn h
 |.arr _ _,d,cs,H,off,hn,_=>by cases hn
def JL:List (Nat×jS)→List (Value×gj)→List (Nat×Value×gj)
 |p::r,g::s=>(p.1,g)::JL r s
 |_,_=>[]
theorem qR{R:Nat×jS→Value×gj→Prop}:∀{l:List (Nat×jS)} {gs:List (Value×gj)} {q:Nat} {g:Value×gj},All2 R l gs→look (JL l gs) q=some g→∃ A,look l q=some A∧R (q,A) g∧g∈gs
 |p::r,g0::gs,q,g,h,hl=>by
  obtain⟨k,A⟩:=p;simp only[JL,aq] at hl ⊢;by_cases e:k=q
  ·subst e
   simp only[ava,OQ] at hl ⊢;subst hl;exact⟨A,rfl,h.1,ata ..⟩
  ·simp only[e,Q9] at hl ⊢
   obtain⟨B,h1,h2,h3⟩:=qR h.2 hl;exact⟨B,h1,h2,Q8 _ h3⟩
 |[],[],_,_,_,hl=>by cases hl
 |[],_::_,_,_,h,_=>h.elim
 |_::_,[],_,_,h,_=>h.elim
theorem N8{R:Nat×jS→Value×gj→Prop}:∀{l:List (Nat×jS)} {gs:List (Value×gj)} {q:Nat} {A:jS},All2 R l gs→look l q=some A→∃ g,look (JL l gs) q=some g∧R (q,A) g
 |p::r,g0::gs,q,A,h,hl=>by
  obtain⟨k,B⟩:=p;simp only[JL,aq] at hl ⊢;by_cases e:k=q
  ·subst e
   simp only[ava,OQ] at hl ⊢;subst hl;exact⟨g0,rfl,h.1⟩
  ·simp only[e,Q9] at hl ⊢
   exact N8 h.2 hl
 |[],[],_,_,_,hl=>by cases hl
 |[],_::_,_,_,h,_=>h.elim
 |_::_,[],_,_,h,_=>h.elim
theorem agV{R:Nat×jS→Value×gj→Prop}{l:List (Nat×jS)}{gs:List (Value×gj)}{q:Nat}(h:All2 R l gs)(hl:look (JL l gs) q=none):look l q=none:=by
 cases hh:look l q with
 |none=>rfl
 |some A=>obtain⟨g,hg,_⟩:=N8 h hh;rw[hl] at hg;cases hg
theorem adJ{R:Nat×jS→Value×gj→Prop}{f:Nat→Value}:∀{l:List (Nat×jS)} {gs:List (Value×gj)},All2 R l gs→(l.map (·.1)).Nodup→(∀ q g,look (JL l gs) q=some g→f q=g.1)→All2 (fun(p:Nat×jS) (g:Value×gj)=>f p.1=g.1) l gs
 |[],[],_,_,_=>trivial
 |p::r,g::gs,h,hn,hf=>by
  rw[aHa,a2a] at hn;refine⟨hf p.1 g (by simp[JL,aq]),adJ h.2 hn.2 fun q g' hq=>hf q g' ?_⟩
  simp only[JL,aq];have hG:p.1≠q:=fun e=>by obtain⟨A,hA,_⟩:=qR h.2 hq;exact hn.1 (by rw[e];exact aIa (f:=(·.1)) (dX hA))
  rw[aza hG];exact hq
 |[],_::_,h,_,_=>h.elim
 |_::_,[],h,_,_=>h.elim
theorem XC{R:Nat×jS→Value×gj→Prop}:∀{l:List (Nat×jS)} {gs:List (Value×gj)} {q q':Nat} {g g':Value×gj},All2 R l gs→((gs.flatMap (·.2)).map (·.1)).Nodup→look (JL l gs) q=some g→look (JL l gs) q' = some g'→
  ∀ p∈g.2,∀ p'∈g'.2,p.1=p'.1→q=q'
 |a::r,g0::gs,q,q',g,g',h,hn,hq,I3,p,hp,p',AF,e=>by
  simp only[JL,aq] at hq I3;rw[bSa,bua,bba] at hn;have tail:∀{q:Nat} {g:Value×gj},look (JL r gs) q=some g→∀ p∈g.2,p.1∈(gs.flatMap (·.2)).map (·.1):=fun {q g} hq p hp=>by obtain⟨_,_,_,hg⟩:=qR h.2 hq;exact aIa (bma.2 ⟨g,hg,hp⟩)
  by_cases e1:a.1=q<;>by_cases e2:a.1=q'
  ·rw[←e1,←e2]
  ·simp only[e1,ava,OQ] at hq
   simp only[e2,Q9] at I3;subst hq;exact absurd e (hn.2.2 _ (aIa hp) _ (tail I3 p' AF))
  ·simp only[e1,Q9] at hq
   simp only[e2,ava,OQ] at I3;subst I3;exact absurd e.symm (hn.2.2 _ (aIa AF) _ (tail hq p hp))
  ·simp only[e1,Q9] at hq
   simp only[e2,Q9] at I3;exact XC h.2 hn.2.1 hq I3 p hp p' AF e
 |[],[],_,_,_,_,_,_,hq,_,_,_,_,_,_=>by cases hq
 |[],_::_,_,_,_,_,h,_,_,_,_,_,_,_,_=>h.elim
 |_::_,[],_,_,_,_,h,_,_,_,_,_,_,_,_=>h.elim
end Go.Fx
namespace Go.Fx
def Hi(st:St)(x:ae):Prop:=∀ k y,st.dc k y=false→x.dc k y=false
theorem sm{st:St}{a:Nat}{A:jS}(h:look st.cO a=some A):st.arr a=some A:=by simp[St.arr,h]
structure YX(X:mS)(st:St)(G:Gh)(w:World)(a i o:Nat)(s1:St)(G1:Gh):Prop where
 GF:az X s1 G1 w
 eB:∀ act,bO G st act→bO G1 s1 act
 val:∀ x v,Hi st x→aO G x v→aO G1 x v
 OU:∀ x v,x.dc false o=false→(∀ q,x.dc true (Mb a (st.dC a) q)=false)→aO G x v→aO G1 x v
 iG:s1.n=st.n∧s1.eB=st.eB∧s1.js=st.js∧s1.cF=st.cF∧s1.fQ=st.fQ∧s1.pin=st.pin∧s1.Fc=st.Fc
 none:st.dN o=none
 lw:∀ off v,aS G1 (.lw o off) v↔∃ A,look st.cO a=some A∧aS G (.Ei a A.t.size i off) v
 acH:∀ A off u,look st.cO a=some A→off<A.t.size→vY G1 a (st.dC a) A.t.size i off u→u=G1.ψ (Mb a (st.dC a) off)
theorem Fu{nm:Nat→Nat}:∀{t:Ty} {d:t.nH} {off:Nat} {p:Nat×jS},p∈zC nm t d off→∃ q,p.1=nm q
 |.slice u,d,off,p,h=>⟨off,by rw[Q7.1 h]⟩
 |.da a b,d,off,p,h=>by
  rcases aoa.1 h with h|h
  ·exact Fu h
  ·exact Fu h
 |.one a,d,off,p,h=>by exact Fu (t:=a) h
 |.int _,d,off,p,h=>by cases h
 |.bool,d,off,p,h=>by cases h
 |.str,d,off,p,h=>by cases h
 |.arr _ _,d,off,p,h=>by cases h
theorem Sp{X:mS}{st:St}{G:Gh}{w:World}{R:Type}{r:R}{a i o:Nat}{K:St→Option R}(h:Gc st a i o K=some r)(hm:az X st G w):
    ∃ s1 G1,YX X st G w a i o s1 G1∧K s1=some r:=by
  unfold Gc at h;cases hA:look st.cO a with
  |none=>simp[hA] at h
  |some A=>
    simp only[hA] at h;split at h
    · rename_i vm
      cases hc:(A.sh ||(st.dN o).isSome||st.dc false o||!A.t.su) with
      |true=>simp[hc] at h
      |false=>
        simp only[hc,aqa] at h;simp only[aGa,boa] at hc;obtain⟨⟨⟨du,Pp⟩,hmo⟩,hna⟩:=hc;have Pp:st.dN o=none:=by simpa using Pp
        obtain⟨x,hx,h⟩:=axa.1 h;have hi:A.l[i]? = some x:=by simpa[bC] using hx
        generalize hnm:Mb a (st.dC a)=nm at h;cases xd:(oo ((zC nm A.t x 0).map (·.1))&&(zC nm A.t x 0).all (fun p=>(st.arr p.1).isNone&&!st.dc true p.1)) with
        |false=>simp[xd] at h
        |true=>
          simp only[xd,aja] at h;simp only[Q3,ana,aOa] at xd;have HO:=Fr xd.1;have tV:∀ p∈zC nm A.t x 0,st.arr p.1=none∧st.dc true p.1=false:=fun p hp=>by have:=xd.2 p hp;exact⟨by simpa using this.1,this.2⟩
          have jT:=sm hA;have afL:A.bx=true:=by simp[jS.bx,vm]
          have jG:A.gz=true:=by simp[jS.gz,vm]
          have tH:=(ia du jG).1 (hm.ar a A jT);rw[afL] at tH;rcases tH with ⟨e1,_⟩|⟨b,cap,arr,elem,cells,rest,H',e1,e2,e3,e4,e5,e6⟩
          · rw[e1] at hi;simp at hi
          simp only[aJa,a_a] at e1;have F6:i<A.l.length:=(aka.1 hi).1;obtain⟨pre,t1,Hp,t2,k1,k2,k3,k4,k5⟩:=RepL.split (fun c x H hr=>gh.size hr) e6 (Nat.le_of_lt F6);have ZF:A.l.drop i=x::A.l.drop (i+1):=by
            have:=aQa F6;rw[this];congr 1
            have:=(aka.1 hi).2;exact this
          rw[ZF] at k5;obtain⟨cc,post,Hc,Hq,k6,k7,k8,k9⟩:=k5;obtain⟨gs,f1,f2,f3⟩:=ME (nm:=nm) (off:=0) hna k8;subst k6;subst k7;have tU:=hm.ah a A jT du (b,Obj.cells arr elem (0,0)) (by rw[e2];simp)
          have TC:=hm.nd a A jT du;rw[e2,k2] at TC;let Z:=JL (zC nm A.t x 0) gs
          let G1:Gh:={G with
            φ:=fun q=>if q=o then b else G.φ q
            pre:=fun q=>if q=o then pre else G.pre q
            post:=fun q=>if q=o then post++rest else G.post q
            ψ:=fun q=>match look Z q with|some g=>g.1|none=>G.ψ q
            HA:=fun q=>match look Z q with|some g=>g.2|none=>if q=a then Hp++Hq else G.HA q
            HV:=fun q=>match look Z q with|some g=>fun _=>kF g.2|none=>G.HV q}
          let s1:St:={st with cO:=(a,{A with md:=.DK i o})::(zC nm A.t x 0++st.cO),ci:=(o,HY nm A.t x 0)::st.ci}
          have hZa:look Z a=none:=by
            cases hz:look Z a with
            |none=>rfl
            |some g=>obtain⟨B,hB,_⟩:=qR f2 hz;have:=(tV _ (dX hB)).1;rw[jT] at this;cases this
          have hZF:∀ q g,look Z q=some g→(true,q)∈(false,o)::(zC nm A.t x 0).map (fun p=>(true,p.1)):=fun q g hz=>by obtain⟨B,hB,_⟩:=qR f2 hz;exact Q8 _ (a0a.2 ⟨_,dX hB,rfl⟩)
          have rO:All2 (aS G1) (HY nm A.t x 0) cc:=f3 G1 rfl (adJ f2 HO fun q g hz=>by simp only[G1,Z] at *;rw[hz])
          have Ex:∀ q,s1.dN q=if o=q then some (HY nm A.t x 0) else st.dN q:=fun q=>by simp only[s1,St.dN,aq]
          have NG:∀ q,s1.arr q=if a=q then some {A with md:=.DK i o} else match look (zC nm A.t x 0) q with|some B=>some B|none=>st.arr q:=fun q=>by
            simp only[s1,St.arr,aq];by_cases e:a=q
            · simp[e]
            · simp only[e,Q9,N7]
              cases look (zC nm A.t x 0) q<;>rfl
          have hOa:∀ p∈G.HA a,eW G st (true,a) p.1:=fun p hp=>⟨⟨A,jT,du⟩,p,hp,rfl⟩;have inA:∀ q g,look Z q=some g→∀ p∈g.2,p∈G.HA a:=fun q g hz p hp=>by obtain⟨_,_,_,hg⟩:=qR f2 hz;rw[e2,k2,f1];exact Q8 _ (ara _ (aya _ (bma.2 ⟨g,hg,hp⟩)))
          have agb:∀ p∈Hp++Hq,p∈G.HA a:=fun p hp=>by
            rw[e2,k2];rcases aoa.1 hp with hp|hp
            · exact Q8 _ (aya _ hp)
            · exact Q8 _ (ara _ (ara _ hp))
          rw[aHa,a2a] at TC;obtain⟨hk1,hk2⟩:=TC;have hkm:∀ p,p∈Hp++(Hc++Hq)→p.1≠b:=fun p hp e=>hk1 (by show b∈_;rw[←e];exact aIa (f:=(·.1)) hp)
          rw[bua,bua,bba,bba] at hk2;obtain⟨n1,⟨n2,n3,n4⟩,n5⟩:=hk2;have gH:∀ q g,look Z q=some g→∀ p∈g.2,p∈Hc:=fun q g hz p hp=>by obtain⟨_,_,_,hg⟩:=qR f2 hz;rw[f1];exact bma.2 ⟨g,hg,hp⟩
          have Ox:∀ y c,eW G1 s1 y c→(y=(false,o)∧c=b)∨(y=(true,a)∧∃ p∈Hp++Hq,p.1=c)∨(∃ q g,y=(true,q)∧look Z q=some g∧∃ p∈g.2,p.1=c)∨(y≠(false,o)∧y≠(true,a)∧(∀ q g,look Z q=some g→y≠(true,q))):=fun y c hy=>by
            obtain⟨k,q⟩:=y;cases k with
            |false=>
              obtain⟨_,rfl⟩:=hy;by_cases e:q=o
              · subst e;exact .inl ⟨rfl,by simp[G1]⟩
              · exact .inr (.inr (.inr ⟨by simpa using e,by simp,by simp⟩))
            |true=>
              obtain⟨_,p,hp,rfl⟩:=hy;cases hz:look Z q with
              |some g=>simp only[G1,hz] at hp;exact .inr (.inr (.inl ⟨q,g,rfl,hz,p,hp,rfl⟩))
              |none=>
                simp only[G1,hz] at hp;by_cases e:q=a
                · subst e
                  simp only[ava] at hp;exact .inr (.inl ⟨rfl,p,hp,rfl⟩)
                · refine .inr (.inr (.inr ⟨by simp,by simpa using e,fun q' g hz' e2=>?_⟩))
                  cases e2;rw[hz] at hz';cases hz'
          have O4:wH X st s1 G G1 w w (fun y=>y=(true,a)) (fun y=>y=(false,o)∨y=(true,a)∨∃ q g,y=(true,q)∧look Z q=some g) ((false,o)::(zC nm A.t x 0).map (fun p=>(true,p.1))):=by
            refine {
                     n:=rfl,ir:=fun _=>rfl,bl:=rfl,pn:=rfl,S:=rfl,bP:=fun l v hl hr=>?_,fm:=fun y hy=>?_,sl:=fun q=>?_,dN:=fun q ls hq=>?_,arr:=fun q B hq=>?_,
                     gz:=fun y c hy ho=>?_,qs:=fun y z c hy hz ho ho'=>?_,hv:=hm.hv,old:=fun _ _ _=>rfl,sz:=awa _,os:=rfl,tp:=rfl,out:=rfl,VJ:=fun q ls hq _=>?_,VI:=fun q B hp hq=>?_}
            · refine aS.leF (G:=G) (G':=G1) (F:=(false,o)::(zC nm A.t x 0).map (fun p=>(true,p.1))) (fun _ _ h=>h) (fun q hq=>?_) (fun q hq=>?_) hl hr
              · have:q≠o:=fun e=>hq (by rw[e];exact ata ..)
                simp[G1,this]
              · have:look Z q=none:=by
                  cases hz:look Z q with
                  |none=>rfl
                  |some g=>exact absurd (hZF q g hz) hq
                simp[G1,this]
            · rcases ama.1 hy with rfl|hy
              · exact hmo
              · obtain⟨p,hp,rfl⟩:=a0a.1 hy
                exact(tV p hp).2
            · cases hz:look Z q with
              |some g=>obtain⟨B,_,⟨_,_,hb⟩,_⟩:=qR f2 hz;simp only[G1,hz];exact W2 hb
              |none=>simp only[G1,hz];exact hm.sl q
            · rw[Ex] at hq
              by_cases e:o=q
              · subst e
                simp only[ava,OQ] at hq;subst hq;refine .inl ⟨.inl rfl,arr,elem,cc,by simp only[G1,ava];exact tU,by simp only[G1,ava];rw[e3,k1];simp,?_⟩
                unfold ip;have hnb:(HY nm A.t x 0).any ag.pR=false:=by
                  have key:∀(t:Ty) (d:t.nH) (off:Nat),(HY nm t d off).any ag.pR=false:=by
                    intro t;induction t with
                    |da a b NV ihb=>intro d off;simp only[HY,List.any_append,NV,ihb];rfl
                    |one a ih=>intro d off;exact ih d off
                    |_=>intro d off;rfl
                  exact key _ _ _
                rw[vD _ _ _ _ hnb];exact rO
              · simp only[e,Q9] at hq
                have hG:q≠o:=fun h=>e h.symm;exact .inr ⟨by simp[hG],by simp,hq,by simp[G1,hG],by simp[G1,hG],by simp[G1,hG]⟩
            · rw[NG] at hq
              by_cases e:a=q
              · subst e
                simp only[ava,OQ] at hq;subst hq;refine .inl ⟨.inr (.inl rfl),?_,fun _=>⟨fun p hp=>?_,?_,fun hG=>by simp[jS.nest] at hG⟩⟩
                · unfold pf
                  simp only[du,asa,Q9,G1,hZa,ava];refine⟨cap,Hp,Hq,rest,post,e1,rfl,rfl,?_,e5,F6,k3,k4,k9⟩;have mD:=gh.size k8;have:arr.size=pre.length+(cc.length+(post.length+rest.length)):=by rw[←bea,e3,k1];simp
                  rw[aua];show cap * A.t.size≤pre.length+A.t.size+(post.length+rest.length);omega
                · simp only[G1,hZa,ava] at hp
                  exact hm.ah a A jT du p (agb p hp)
                · simp only[G1,hZa,ava]
                  rw[bua,bba];exact⟨n1,n3,fun p hp q hq=>n5 p hp q (ara _ hq)⟩
              · simp only[e,Q9] at hq
                cases hl:look (zC nm A.t x 0) q with
                |some B'=>
                  rw[hl] at hq;simp only[OQ] at hq;subst hq;obtain⟨g,hz,DO,Qo,hb3⟩:=N8 f2 hl;have hz':look Z q=some g:=hz;refine .inl ⟨.inr (.inr ⟨q,g,rfl,hz⟩),(ia DO Qo).2 ?_,fun _=>⟨fun p hp=>?_,?_,fun _=>by simp only[G1,hz']⟩⟩
                  · simp only[G1,hz'];exact hb3
                  · simp only[G1,hz'] at hp
                    exact hm.ah a A jT du p (inA q g hz p hp)
                  · simp only[G1,hz']
                    obtain⟨_,_,_,hg⟩:=qR f2 hz;have:((gs.flatMap (·.2)).map (·.1)).Nodup:=by rw[←f1];exact n2
                    have p6:(g.2).Sublist (gs.flatMap (·.2)):=by
                      have key:∀{gs:List (Value×gj)},g∈gs→(g.2).Sublist (gs.flatMap (·.2)):=by
                        intro gs;induction gs with
                        |nil=>intro h;cases h
                        |cons y r ih=>
                          intro h;rw[bSa];rcases ama.1 h with rfl|h
                          · exact List.sublist_append_left ..
                          · exact(ih h).trans (List.sublist_append_right ..)
                      exact key hg
                    exact this.sublist (p6.map _)
                |none=>
                  rw[hl] at hq;simp only at hq;have hz:look Z q=none:=by
                    cases hz:look Z q with
                    |none=>rfl
                    |some g=>obtain⟨B',hB',_⟩:=qR f2 hz;rw[hl] at hB';cases hB'
                  have hG:q≠a:=fun h=>e h.symm;refine .inr ⟨?_,hq,by simp[G1,hz],by simp[G1,hz,hG],fun _=>by simpa using hG,by simp[G1,hz],fun i' o' e'=>?_⟩
                  · rintro(h|h|⟨q',g,h,hz'⟩)
                    · cases h
                    · cases h;exact hG rfl
                    · cases h;rw[hz] at hz';cases hz'
                  · have:o'≠o:=Fp hmo hq e'
                    simp[G1,this]
            · refine .inl ⟨(true,a),rfl,?_⟩
              rcases Ox y c ho with ⟨rfl,e⟩|⟨rfl,p,hp,rfl⟩|⟨q,g,rfl,hz,p,hp,rfl⟩|⟨g1,g2,g3⟩
              · rw[e];exact hOa (b,Obj.cells arr elem (0,0)) (by rw[e2];simp)
              · exact hOa p (agb p hp)
              · exact hOa p (inA q g hz p hp)
              · rcases hy with h|h|⟨q,g,h,hz⟩
                · exact absurd h g1
                · exact absurd h g2
                · exact absurd h (g3 q g hz)
            · have bad:∀{y:Bool×Nat},(y=(false,o)∨y=(true,a)∨∃ q g,y=(true,q)∧look Z q=some g)→¬ (y≠(false,o)∧y≠(true,a)∧(∀ q g,look Z q=some g→y≠(true,q))):=fun {y} h ⟨g1,g2,g3⟩=>by
                rcases h with h|h|⟨q,g,h,hz⟩
                · exact g1 h
                · exact g2 h
                · exact g3 q g hz h
              have inQ:∀ p∈Hp++Hq,p∈Hp++(Hc++Hq):=fun p hp=>by
                rcases aoa.1 hp with hp|hp
                · exact aya _ hp
                · exact ara _ (ara _ hp)
              have inC:∀ p∈Hc,p∈Hp++(Hc++Hq):=fun p hp=>ara _ (aya _ hp);have acZ:∀ p∈Hp++Hq,∀ p'∈Hc,p.1≠p'.1:=fun p hp p' AF=>by
                rcases aoa.1 hp with hp|hp
                · exact n5 _ (aIa hp) _ (aya _ (aIa AF))
                · exact fun e=>n4 _ (aIa AF) _ (aIa hp) e.symm
              have hfl:((gs.flatMap (·.2)).map (·.1)).Nodup:=by rw[←f1];exact n2
              rcases Ox y c ho with ⟨rfl,e0⟩|⟨rfl,p,hp,rfl⟩|⟨q,g,rfl,hq,p,hp,rfl⟩|hb
              · rcases Ox z _ ho' with ⟨rfl,_⟩|⟨rfl,p',AF,e'⟩|⟨q',g',rfl,I3,p',AF,e'⟩|hb
                · rfl
                · exact absurd (e'.trans e0) (hkm p' (inQ p' AF))
                · exact absurd (e'.trans e0) (hkm p' (inC p' (gH q' g' I3 p' AF)))
                · exact absurd hb (bad hz)
              · rcases Ox z _ ho' with ⟨rfl,e'⟩|⟨rfl,p',AF,e'⟩|⟨q',g',rfl,I3,p',AF,e'⟩|hb
                · exact absurd e' (hkm p (inQ p hp))
                · rfl
                · exact absurd e'.symm (acZ p hp p' (gH q' g' I3 p' AF))
                · exact absurd hb (bad hz)
              · rcases Ox z _ ho' with ⟨rfl,e'⟩|⟨rfl,p',AF,e'⟩|⟨q',g',rfl,I3,p',AF,e'⟩|hb
                · exact absurd e' (hkm p (inC p (gH q g hq p hp)))
                · exact absurd e' (acZ p' AF p (gH q g hq p hp))
                · rw[XC f2 hfl hq I3 p hp p' AF e'.symm]
                · exact absurd hb (bad hz)
              · exact absurd hb (bad hy)
            · have hG:o≠q:=fun e=>by rw[e,hq] at Pp;cases Pp
              refine⟨by rw[Ex,aza hG];exact hq,?_⟩
              rintro(h|h|⟨q',g,h,_⟩)
              · cases h;exact hG rfl
              · cases h
              · cases h
            · refine⟨?_,?_⟩
              · rw[NG]
                by_cases e:a=q
                · exact⟨_,by rw[a7a e]⟩
                · rw[aza e];split
                  · exact⟨_,rfl⟩
                  · exact⟨_,hq⟩
              · have hz:look Z q=none:=by
                  cases hz:look Z q with
                  |none=>rfl
                  |some g=>obtain⟨B',hB',_⟩:=qR f2 hz;have:=(tV _ (dX hB')).1;rw[hq] at this;cases this
                simp[G1,hz]
          refine⟨s1,G1,{GF:=O4.ok hm,eB:=fun act=>O4.eB,val:=fun y v hy hv=>O4.TR (fun z hz=>hy _ _ (O4.fm z hz)) hv,OU:=fun y v h1 h2 hv=>O4.TR (fun z hz=>(by
            rcases ama.1 hz with rfl|hz
            · exact h1
            · obtain⟨p,hp,rfl⟩:=a0a.1 hz
              obtain⟨q,hq⟩:=Fu hp;show y.dc true p.1=false;rw[hq,←hnm];exact h2 q)) hv,iG:=⟨rfl,rfl,rfl,rfl,rfl,rfl,rfl⟩,none:=Pp,lw:=fun off v=>?_,acH:=fun A' off u hA' Vl hu=>?_},h⟩
          · simp only[aS,G1,ava]
            constructor
            · rintro rfl
              exact⟨A,hA,b,A.l.length,cap,e1,F6,by rw[k3]⟩
            · rintro⟨A',hA',b',len,cap',g1,g2,rfl⟩
              rw[hA] at hA';cases hA';rw[e1] at g1;cases g1;rw[k3]
          · rw[hA] at hA'
            cases hA';obtain⟨h1,⟨xx,nn,ccc,Mz⟩,h3,h4⟩:=hu;have hHV:G1.HV a=G.HV a:=by simp only[G1,hZa]
            rw[hHV,←hm.hv,hm.hh a A jT du (by simp[jS.nest,vm]),e2] at h4
            simp only[kF] at h4;have afH:=gh.size k8;have hcu:cc[off]? = some u:=by
              rw[e3,k1,←k3,a3a,aTa (by omega),bca,a3a,aVa (by omega)] at h4
              exact h4
            have key:∀(t:Ty) (d:t.nH) (Of:Nat) (cs:List Value) (j:Nat),t.su=true→All2 (aS G1) (HY nm t d Of) cs→cs[j]? = some u→u=G1.ψ (nm (Of+j)):=by
              have AM:∀{l:ag} {cs:List Value} {j:Nat} {t:Ty} {d:t.nH},l=.eZ t d→(∀ v,aS G1 (.eZ t d) v→∀ x n c,v≠.slice x n c)→All2 (aS G1) [l] cs→cs[j]? = some u→False:=fun {l cs j t d} hl hG hr hj=>by
                subst hl
                match cs,hr with
                |[v],hr=>
                  cases j with
                  |zero=>simp only[bda,OQ] at hj;subst hj;exact hG _ hr.1 _ _ _ Mz
                  |succ j=>simp at hj
              intro t;induction t with
              |int k=>exact fun d Of cs j _ hr hj=>(AM rfl (fun v hv x n c e=>by obtain⟨cs',e1,e2⟩:=hv;simp only[Ty.agg,asa,Q9] at e1;subst e1;obtain⟨e2,_⟩:=e2;simp only[aJa,a_a] at e2;rw[e] at e2;cases e2) hr hj).elim
              |bool=>exact fun d Of cs j _ hr hj=>(AM rfl (fun v hv x n c e=>by obtain⟨cs',e1,e2⟩:=hv;simp only[Ty.agg,asa,Q9] at e1;subst e1;obtain⟨e2,_⟩:=e2;simp only[aJa,a_a] at e2;rw[e] at e2;cases e2) hr hj).elim
              |str=>exact fun d Of cs j _ hr hj=>(AM rfl (fun v hv x n c e=>by obtain⟨cs',e1,e2⟩:=hv;simp only[Ty.agg,asa,Q9] at e1;subst e1;obtain⟨e2,_⟩:=e2;simp only[aJa,a_a] at e2;rw[e] at e2;cases e2) hr hj).elim
              |slice t _=>
                intro d Of cs j _ hr hj
                match cs,hr with
                |[v],hr=>
                  cases j with
                  |zero=>simp only[bda,OQ] at hj;subst hj;exact hr.1
                  |succ j=>simp at hj
              |da t1 t2 ih1 ih2=>
                intro d Of cs j hn hr hj;simp only[Ty.su,Q3] at hn;have jy:∀(t:Ty) (d:t.nH) (o0:Nat),t.su=true→(HY nm t d o0).length=t.size:=by
                  intro t;induction t with
                  |da a b NV ihb=>intro d o0 hn;simp only[Ty.su,Q3] at hn;simp only[HY,aua,NV _ _ hn.1,ihb _ _ hn.2,Ty.size]
                  |one a ih=>intro d o0 hn;exact ih d o0 hn
                  |arr n t _=>intro d o0 hn;cases hn
                  |_=>intro d o0 _;rfl
                obtain⟨y1,y2,rfl,g1,g2⟩:=All2.split (xs:=HY nm t1 d.1 Of) hr;have hl1:y1.length=t1.size:=by rw[←g1.length,jy _ _ _ hn.1]
                by_cases hj1:j<y1.length
                · rw[aVa hj1] at hj
                  exact ih1 _ _ _ _ hn.1 g1 hj
                · rw[aTa (by omega),hl1] at hj
                  have:=ih2 _ _ _ _ hn.2 g2 hj;rw[this];congr 2;omega
              |one t ih=>exact fun d Of cs j hn hr hj=>ih d Of cs j hn hr hj
              |arr n t _=>intro d Of cs j hn;cases hn
            have:=key A.t x 0 cc off hna rO hcu;rw[aWa] at this;rw[hnm];exact this
    · cases h
end Go.Fx
namespace Go.Fx
theorem az.ab6{X:mS}{st:St}{G:Gh}{w:World}(hm:az X st G w)(f:ag→ag)(ZD:∀ l,f l=.vb↔l=.vb)(hf:∀ o ls,(o,ls)∈st.ci→∀ l∈ls,∀ v,aS G l v→aS G (f l) v):
  az X {st with ci:=st.ci.map fun p=>(p.1,p.2.map f)} G w:=by
 let st':St:={st with ci:=st.ci.map fun p=>(p.1,p.2.map f)}
 have I2:∀ o,st'.dN o=(st.dN o).map (·.map f):=fun o=>by
  show look (st.ci.map fun p=>(p.1,p.2.map f)) o=(look st.ci o).map _;induction st.ci with
  |nil=>rfl
  |cons p r ih=>
   obtain⟨k,ls⟩:=p;rw[aHa,aq,aq];by_cases e:k=o
   ·simp[e]
   ·simp only[e,Q9];exact ih
 have nS:∀ x b,eW G st' x b→eW G st x b:=fun x b hx=>by
  obtain⟨k,n⟩:=x;cases k with
  |true=>exact hx
  |false=>obtain⟨⟨ls,hl⟩,rfl⟩:=hx;rw[I2,aKa] at hl;obtain⟨ls0,h1,_⟩:=hl;exact⟨⟨ls0,h1⟩,rfl⟩
 have Bw:∀ o j l,st'.res o j l=st.res o j l:=fun o j l=>by cases l<;>rfl
 have fk:∀(o:Nat) (ls:List ag) (vs:List Value) (j:Nat),(∀ l∈ls,∀ v,aS G l v→aS G (f l) v)→All2 (aS G) (st.kc o j ls) vs→All2 (aS G) (st'.kc o j (ls.map f)) vs:=by
  intro o ls;induction ls with
  |nil=>intro vs j _ h;exact h
  |cons l r ih=>
   intro vs j hl h
   match vs,h with
   |v::vs,h=>
    simp only[aHa,St.kc];refine⟨?_,ih vs (j+1) (fun x hx=>hl x (Q8 _ hx)) h.2⟩;rw[Bw];by_cases e:l=.vb
    ·rw[(ZD l).2 e];rw[e] at h;exact h.1
    ·have h1:st.res o j l=l:=by cases l<;>first|rfl|exact absurd rfl e
     have h2:st.res o j (f l)=f l:=by have:=fun h=>e ((ZD l).1 h);cases hf':f l<;>first|rfl|exact absurd hf' this
     rw[h2];have:=h.1;rw[h1] at this;exact hl l (ata ..) v this
 refine {sl:=hm.sl,sh:=hm.sh,ob:=fun o ls ho=>?_,ar:=hm.ar,ah:=hm.ah,nd:=hm.nd,qs:=fun x y b hx hy=>hm.qs x y b (nS x b hx) (nS y b hy),dS:=fun x b hx=>hm.dS x b (nS x b hx),tY:=fun x b hx=>hm.tY x b (nS x b hx),s0:=hm.s0,sn:=hm.sn,fr:=hm.fr,sz:=hm.sz,os:=hm.os,tp:=hm.tp,out:=hm.out,pin:=fun o p h=>?_,bv:=fun o j u h=>?_,ap:=hm.ap,hv:=hm.hv,ds:=hm.ds,hh:=hm.hh}
 ·have ho:st'.dN o=some ls:=ho
  rw[I2,aKa] at ho;obtain⟨ls0,h1,rfl⟩:=ho;obtain⟨arr,elem,mid,g1,g2,g3⟩:=hm.ob o ls0 h1;exact⟨arr,elem,mid,g1,g2,fk o ls0 mid 0 (hf o ls0 (dX h1)) g3⟩
 ·obtain⟨⟨ls,h1⟩,h2⟩:=hm.pin o p h
  exact⟨⟨ls.map f,by show st'.dN o=_;rw[I2,h1];rfl⟩,h2⟩
 ·obtain⟨h1,⟨ls,h2,h3⟩,h4⟩:=hm.bv o j u h
  exact⟨h1,⟨ls.map f,by show st'.dN o=_;rw[I2,h2];rfl,by rw[bGa,h3];exact bLa some ((ZD .vb).2 rfl)⟩,h4⟩
theorem Nw{α:Type}:∀{l:List (Nat×α)} {Mk:List Nat} {p:Nat×α},p∈pZ l Mk→p∈l
 |q::r,Mk,p,h=>by
  simp only[pZ] at h;cases hm:eV q.1 Mk with
  |true=>rw[hm,aja] at h;exact Q8 _ (Nw h)
  |false=>
   rw[hm,aqa] at h;rcases ama.1 h with h|h
   ·rw[h];exact ata ..
   ·exact Q8 _ (Nw h)
theorem zR{α:Type}:∀{l:List (Nat×α)} {Mk:List Nat} {q:Nat},q∉Mk→look (pZ l Mk) q=look l q
 |[],_,_,_=>rfl
 |p::r,Mk,q,h=>by
  obtain⟨k,v⟩:=p;simp only[pZ];rw[aq];cases hm:eV k Mk with
  |true=>
   rw[aja,zR h];have hG:k≠q:=fun e=>h (by rw[←e];exact MA.1 hm)
   rw[aza hG]
  |false=>
   rw[aqa,aq];by_cases e:k=q
   ·simp[e]
   ·rw[aza e,aza e,zR (fun hq=>(ama.1 hq).elim (fun e'=>e e'.symm) h)]
theorem az.pZ{X:mS}{st:St}{G:Gh}{w:World}(hm:az X st G w):az X {st with ci:=pZ st.ci []} G w:=by
 have I2:∀ o,({st with ci:=Go.Fx.pZ st.ci []}:St).dN o=st.dN o:=fun o=>zR (by simp)
 have nS:∀ x b,eW G {st with ci:=Go.Fx.pZ st.ci []} x b→eW G st x b:=fun x b hx=>by
  obtain⟨k,n⟩:=x;cases k with
  |true=>exact hx
  |false=>obtain⟨⟨ls,hl⟩,e⟩:=hx;exact⟨⟨ls,by rw[←I2];exact hl⟩,e⟩
 exact {
   sl:=hm.sl,sh:=hm.sh,ob:=fun o ls ho=>(by
    obtain⟨arr,elem,mid,g1,g2,g3⟩:=hm.ob o ls (by rw[←I2];exact ho)
    refine⟨arr,elem,mid,g1,g2,?_⟩;unfold ip at g3 ⊢;rw[ke (st:=st) (fun j l=>by cases l<;>rfl)];exact g3)
   ar:=hm.ar,ah:=hm.ah,nd:=hm.nd,qs:=fun x y b hx hy=>hm.qs x y b (nS x b hx) (nS y b hy),dS:=fun x b hx=>hm.dS x b (nS x b hx),tY:=fun x b hx=>hm.tY x b (nS x b hx),s0:=hm.s0,sn:=hm.sn,fr:=hm.fr,sz:=hm.sz,os:=hm.os,tp:=hm.tp,out:=hm.out
   pin:=fun o p h=>(by obtain⟨⟨ls,h1⟩,h2⟩:=hm.pin o p h;exact⟨⟨ls,by rw[I2];exact h1⟩,h2⟩),bv:=fun o j u h=>(by obtain⟨h1,⟨ls,h2,h3⟩,h4⟩:=hm.bv o j u h;exact⟨h1,⟨ls,by rw[I2];exact h2,h3⟩,h4⟩),ap:=hm.ap,hv:=hm.hv,ds:=hm.ds,hh:=hm.hh}
theorem V4(a v sz:Nat)(l:ag):qQ a v sz l=.vb↔l=.vb:=by cases l<;>simp[qQ];rename_i a' v' sz' i' off;cases (Nat.beq a' a&&Nat.beq v' v&&Nat.beq sz' sz&&Nat.blt off sz)<;>simp
theorem UP{G:Gh}{a v sz i:Nat}{l:ag}{u:Value}(ht:∀ off u,off<sz→vY G a v sz i off u→u=G.ψ (Mb a v off))(hc:xy a v sz i [l]=true)(h:aS G l u):aS G (qQ a v sz l) u:=by
 cases l with
 |Ft a' v' sz' i' off=>
  simp only[qQ,xy] at hc ⊢;cases hb:(Nat.beq a' a&&Nat.beq v' v&&Nat.beq sz' sz&&Nat.blt off sz) with
  |false=>exact h
  |true=>simp only[hb,aja,Bool.and_true] at hc ⊢;simp only[Q3] at hb;obtain⟨⟨⟨b1,b2⟩,b3⟩,b4⟩:=hb;obtain rfl:=Q4 b1;obtain rfl:=Q4 b2;obtain rfl:=Q4 b3;obtain rfl:=Q4 hc;exact ht off u (by rw[b6a] at b4;exact b4) h
 |_=>exact h
theorem KR{a v sz i:Nat}:∀{ls:List ag},xy a v sz i ls=true→∀ l∈ls,xy a v sz i [l]=true
 |x::r,h,l,hl=>by
  have hx:xy a v sz i [x]=true∧xy a v sz i r=true:=by
   cases x with
   |Ft a' v' sz' i' off=>
    simp only[xy] at h ⊢;cases hb:(Nat.beq a' a&&Nat.beq v' v&&Nat.beq sz' sz&&Nat.blt off sz) with
    |false=>simp only[hb,aqa] at h;exact⟨rfl,h⟩
    |true=>simp only[hb,aja,Q3] at h;simpa using h
   |_=>exact⟨rfl,h⟩
  rcases ama.1 hl with rfl|hl
  ·exact hx.1
  ·exact KR hx.2 l hl
theorem Rh{a v sz i:Nat}:∀{l:List (Nat×List ag)},UN a v sz i l=true→∀ o ls,(o,ls)∈l→xy a v sz i ls=true
 |p::r,h,o,ls,hl=>by
  simp only[UN,Q3] at h;rcases ama.1 hl with rfl|hl
  ·exact h.1
  ·exact Rh h.2 o ls hl
theorem UM{X:mS}{st:St}{G:Gh}{w:World}{R:Type}{r:R}{a sz i:Nat}{K:St→Option R}(h:BY st a sz i K=some r)(hm:az X st G w)
  (ht:∀ off u,off<sz→vY G a (st.dC a) sz i off u→u=G.ψ (Mb a (st.dC a) off)):
  az X {st with ci:=(pZ st.ci []).map fun p=>(p.1,p.2.map (qQ a (st.dC a) sz))} G w∧K {st with ci:=(pZ st.ci []).map fun p=>(p.1,p.2.map (qQ a (st.dC a) sz))}=some r:=by
 unfold BY at h;cases hc:UN a (st.dC a) sz i (pZ st.ci []) with
 |false=>simp[hc] at h
 |true=>simp only[hc,aja] at h;exact⟨hm.pZ.ab6 _ (V4 _ _ _) fun o ls hl l hll v hv=>UP ht (KR (Rh hc o ls hl) l hll) hv,h⟩
def Iw(st:St)(q:Nat):Prop:=∃ A,look st.cO q=some A∧A.sh=false∧eV q st.pin=false∧look st.fQ q=none
theorem aaD{X:mS}{st:St}{G:Gh}{w:World}(hm:az X st G w){u:Ty}{l:ag}{d:List u.nH}{c:List Nat}{v:Value}(h:Ul st u l=some (d,c))(hr:aS G l v):
  kx (RepL (gh G.S true u)) u.size [v] d (c.flatMap G.HA)∧∀ q∈c,Iw st q:=by
 unfold Ul at h;split at h
 ·simp only[OQ,ala] at h
  obtain⟨rfl,rfl⟩:=h;exact⟨.inl ⟨rfl,rfl,by rw[show v=.slice none 0 0 from hr]⟩,fun q hq=>by cases hq⟩
 ·rename_i a
  split at h
  ·rename_i A hA
   cases hc:(A.sh||!A.md.lG (Sb u)||eV a st.pin ||(look st.fQ a).isSome) with
   |true=>simp[hc] at h
   |false=>
    simp only[hc,aqa] at h;simp only[aGa,boa] at hc;obtain⟨⟨⟨h1,h2⟩,h3⟩,h4⟩:=hc;split at h
    ·rename_i l0 hl
     simp only[OQ,ala] at h;obtain⟨rfl,rfl⟩:=h;obtain⟨ety,hl⟩:=lT hl;obtain⟨At,Amd,Ash,Al⟩:=A;simp only[Ty.slice.injEq] at ety;subst ety;simp only at hl h1 h2;subst hl h1;have vm:=Md.xC h2;subst vm;obtain⟨k1,k2⟩:=PS 0 At l0;have tH:=(ia rfl k1).1 (hm.ar a _ (sm hA));have hv:v=G.ψ a:=hr;refine⟨?_,fun q hq=>?_⟩
     ·rw[hv];simp only[bSa,List.flatMap_nil,bga]
      exact acu k2 tH
     ·rw[Q7.1 hq];exact⟨_,hA,rfl,h3,by simpa using h4⟩
    ·cases h
  ·cases h
 ·cases h
theorem W1{X:mS}{st:St}{G:Gh}{w:World}(hm:az X st G w):∀{t:Ty} {ls r:List ag} {d:t.nH} {c:List Nat} {vs:List Value},H0 st t ls=some (d,r,c)→All2 (aS G) ls vs→
  ∃ c1 c2,vs=c1++c2∧gh G.S true t c1 d (c.flatMap G.HA)∧All2 (aS G) r c2∧∀ q∈c,Iw st q:=by
 have bP:∀{t:Ty},t.agg=false→t.za=true→∀{ls r:List ag} {d:t.nH} {c:List Nat} {vs:List Value},
   (match ls with|[]=>none|l::r=>(l.vK st t).map fun d=>(d,r,([]:List Nat)))=some (d,r,c)→All2 (aS G) ls vs→
   ∃ c1 c2,vs=c1++c2∧gh G.S true t c1 d (c.flatMap G.HA)∧All2 (aS G) r c2∧∀ q∈c,Iw st q:=by
  intro t ht hn ls r d c vs h a
  match ls,vs,h,a with
  |l::ls,v::vs,h,a=>simp only[aKa,ala] at h;obtain⟨d',hd,rfl,rfl,rfl⟩:=h;exact⟨[v],vs,rfl,wy hn (NC hm ht hd a.1),a.2,fun q hq=>by cases hq⟩
  |[],_,h,_=>simp at h
 intro t;induction t with
 |int k=>exact fun h a=>bP rfl rfl h a
 |bool=>exact fun h a=>bP rfl rfl h a
 |str=>exact fun h a=>bP rfl rfl h a
 |slice u _=>
  intro ls r d c vs h al
  match ls,vs,h,al with
  |l::ls,v::vs,h,al=>simp only[H0,aKa,ala] at h;obtain⟨⟨d',c'⟩,hd,rfl,rfl,rfl⟩:=h;obtain⟨g1,g2⟩:=aaD hm hd al.1;exact⟨[v],vs,rfl,g1,al.2,g2⟩
  |[],_,h,_=>simp[H0] at h
 |da a b NV ihb=>
  intro ls r d c vs h al;simp only[H0] at h;cases h1:H0 st a ls with
  |none=>simp[h1] at h
  |some p=>
   obtain⟨x,r1,cc⟩:=p;simp only[h1] at h;cases h2:H0 st b r1 with
   |none=>simp[h2] at h
   |some q=>
    obtain⟨y,r2,cc2⟩:=q;simp only[h2,OQ,ala] at h;obtain⟨rfl,rfl,rfl⟩:=h;obtain⟨c1,c2,rfl,g1,a1,o1⟩:=NV h1 al;obtain⟨c3,c4,rfl,g2,a2,o2⟩:=ihb h2 a1;refine⟨c1++c3,c4,by simp,⟨c1,c3,_,_,rfl,by rw[cDa],g1,g2⟩,a2,fun q hq=>?_⟩
    rcases aoa.1 hq with hq|hq
    ·exact o1 q hq
    ·exact o2 q hq
 |one a NV=>intro ls r d c vs h al;exact NV h al
 |arr n t _=>intro ls r d c vs h al;cases h
theorem Hy{X:mS}{st:St}{G:Gh}{w:World}(hm:az X st G w):∀{c:List Nat},c.Nodup→(∀ q∈c,∃ A,st.arr q=some A∧A.sh=false)→((c.flatMap G.HA).map (·.1)).Nodup
 |[],_,_=>b_a
 |q::c,hn,h=>by rw[a2a] at hn;obtain⟨A,hA,hs⟩:=h q (ata ..);rw[bSa,bua,bba];refine⟨hm.nd q A hA hs,Hy hm hn.2 fun p hp=>h p (Q8 _ hp),fun b hb b' hb' e=>?_⟩;obtain⟨p,hp,rfl⟩:=a0a.1 hb;obtain⟨p',AF,rfl⟩:=a0a.1 hb';obtain⟨q',I3,AF⟩:=bma.1 AF;obtain⟨B,hB,Kn⟩:=h q' (Q8 _ I3);have:=hm.qs (true,q) (true,q') p.1 ⟨⟨A,hA,hs⟩,p,hp,rfl⟩ ⟨⟨B,hB,Kn⟩,p',AF,e.symm⟩;simp only[ala,cba] at this;exact hn.1 (by rw[this];exact I3)
theorem Ux{G:Gh}{st:St}{o:Nat}:∀{ls:List ag} {vs:List Value} {j:Nat},All2 (aS G) (st.kc o j ls) vs→All2 (aS G) ls vs
 |[],[],_,_=>trivial
 |l::r,v::vs,j,h=>⟨by
  cases l with
  |vb=>trivial
  |_=>exact h.1,Ux h.2⟩
 |[],_::_,_,h=>h.elim
 |_::_,[],_,h=>h.elim
theorem RH{X:mS}{st:St}{G:Gh}{w:World}{R:Type}{r:R}{a o:Nat}{K:St→Option R}(h:Bj st a o K=some r)(hm:az X st G w)(hX:∀ p,X.pin o≠some p)(hB:∀ j u,X.bv o j≠some u):
    ∃ s1 G1,az X s1 G1 w∧(∀ act,bO G st act→bO G1 s1 act)∧(∀ x v,aO G x v→aO G1 x v)∧K s1=some r:=by
  unfold Bj at h;split at h
  · rename_i A ls hA ho
    split at h
    · rename_i i o' vm
      cases hc:(Nat.beq o o'&&!A.sh) with
      |false=>simp[hc] at h
      |true=>
        simp only[hc,aja] at h;simp only[Q3,aOa] at hc;obtain⟨hoo,du⟩:=hc;obtain rfl:=Q4 hoo;split at h
        · rename_i x c hT
          cases xd:(oo c&&!eV a c) with
          |false=>simp[xd] at h
          |true=>
            simp only[xd,aja] at h;simp only[Q3,aOa] at xd;have HO:=Fr xd.1;have hac:a∉c:=fun hm'=>by rw[MA.2 hm'] at xd;cases xd.2
            have jT:=sm hA;obtain⟨arr,elem,mid,g1,g2,g3⟩:=hm.ob o ls ho;obtain⟨c1,c2,e0,Bv,hr0,jG⟩:=W1 hm hT (Ux g3)
            match c2,hr0 with
            |[],_=>
            rw[bga] at e0;subst e0;have ZQ:∀ q∈c,∃ A,st.arr q=some A∧A.sh=false:=fun q hq=>by obtain⟨B,hB1,hB2,_⟩:=jG q hq;exact⟨B,sm hB1,hB2⟩
            have tH:=hm.ar a A jT;unfold pf at tH;simp only[du,asa,Q9,vm] at tH;obtain⟨cap,Hp,Hq,rest,Jv,k1,k2,k3,k4,k5,k6,k7,k8,k9⟩:=tH;have hml:=gh.size Bv;let HH:gj:=(G.φ o,Obj.cells arr elem (0,0))::(Hp++(c.flatMap G.HA++Hq))
            let G1:Gh:={G with
              HA:=fun q=>if q=a then HH else G.HA q
              vn:=fun q=>if q=a then G.vn a+1 else G.vn q
              HV:=fun q v=>if q=a then(if v≤G.vn a then G.HV a v else arr.toList) else G.HV q v}
            let s1:St:={st with cO:=(a,⟨A.t,.bx,false,A.l.set i x⟩)::lm (a::c) st.cO,ci:=Gr st.ci o,Fc:=(a,st.dC a+1)::st.Fc}
            have afS:∀ l v,aS G l v→aS G1 l v:=fun l v hr=>aS.leF (G:=G) (G':=G1) (F:=[]) (fun _ _ h=>h) (fun _ _=>⟨rfl,rfl⟩) (fun q _=>⟨rfl,by
                show G.vn q≤if q=a then G.vn a+1 else G.vn q
                by_cases e:q=a
                · subst e;simp
                · simp[e],fun v hv=>by
                show(if q=a then(if v≤G.vn a then G.HV a v else arr.toList) else G.HV q v)=G.HV q v
                by_cases e:q=a
                · subst e;simp[hv]
                · simp[e]⟩) (by simp) hr
            have Ex:∀ q,s1.dN q=if o=q then none else st.dN q:=fun q=>by simp only[s1,St.dN,qC]
            have NG:∀ q,s1.arr q=if a=q then some ⟨A.t,.bx,false,A.l.set i x⟩ else if q∈c then none else st.arr q:=fun q=>by
              simp only[s1,St.arr,aq];by_cases e:a=q
              · simp[e]
              · simp only[e,Q9,zP]
                have hq:q≠a:=fun h=>e h.symm;by_cases e2:q∈c
                · obtain⟨_,_,_,_,hb⟩:=jG q e2
                  simp[e2,hb]
                · simp[e2,hq]
            have hao:∀ p∈Hp++Hq,eW G st (true,a) p.1:=fun p hp=>⟨⟨A,jT,du⟩,p,by rw[k2];exact hp,rfl⟩
            have hco:∀ p∈c.flatMap G.HA,∃ q∈c,eW G st (true,q) p.1:=fun p hp=>by obtain⟨q,hq,hp⟩:=bma.1 hp;exact⟨q,hq,ZQ q hq,p,hp,rfl⟩
            have af0:eW G st (false,o) (G.φ o):=⟨⟨ls,ho⟩,rfl⟩;have TC:(HH.map (·.1)).Nodup:=by
              simp only[HH,aHa,bua];have hpq:=hm.nd a A jT du;rw[k2,bua,bba] at hpq;obtain⟨m1,m2,m3⟩:=hpq;have m4:=Hy hm HO ZQ;have cr:∀ p∈Hp++Hq,∀ p'∈c.flatMap G.HA,p.1≠p'.1:=fun p hp p' AF e=>by
                obtain⟨q,hq,ho'⟩:=hco p' AF;have:=hm.qs _ _ _ (hao p hp) (by rw[e];exact ho')
                simp only[ala,cba] at this;exact hac (by rw[this];exact hq)
              rw[a2a,bba,bba];refine⟨fun ib=>?_,m1,⟨m4,m2,fun x1 h1 x2 h2 e=>?_⟩,fun x1 h1 x2 h2 e=>?_⟩
              · have:∃ y,y≠(false,o)∧eW G st y (G.φ o):=by
                  rcases aoa.1 ib with ib|ib
                  · obtain⟨p,hp,e⟩:=a0a.1 ib
                    exact⟨(true,a),by simp,by rw[←e];exact hao p (aya _ hp)⟩
                  · rcases aoa.1 ib with ib|ib
                    · obtain⟨p,hp,e⟩:=a0a.1 ib
                      obtain⟨q,_,hq⟩:=hco p hp;exact⟨(true,q),by simp,by rw[←e];exact hq⟩
                    · obtain⟨p,hp,e⟩:=a0a.1 ib
                      exact⟨(true,a),by simp,by rw[←e];exact hao p (ara _ hp)⟩
                obtain⟨y,hy,hyo⟩:=this;exact hy (hm.qs _ _ _ hyo af0)
              · obtain⟨p,hp,rfl⟩:=a0a.1 h1
                obtain⟨p',AF,rfl⟩:=a0a.1 h2;exact cr p' (ara _ AF) p hp e.symm
              · obtain⟨p,hp,rfl⟩:=a0a.1 h1
                rcases aoa.1 h2 with h2|h2
                · obtain⟨p',AF,rfl⟩:=a0a.1 h2
                  exact cr p (aya _ hp) p' AF e
                · exact m3 _ (aIa hp) _ h2 e
            have O4:wH X st s1 G G1 w w (fun y=>y=(true,a)∨y=(false,o)∨∃ q∈c,y=(true,q)) (fun y=>y=(true,a)) []:=by
              refine {
                       n:=rfl,ir:=fun _=>rfl,bl:=rfl,pn:=rfl,S:=rfl,bP:=fun l v _ hr=>afS l v hr,fm:=fun y hy=>(by cases hy),sl:=hm.sl,dN:=fun q xK hq=>?_,arr:=fun q B hq=>?_,
                       gz:=fun y b hy hyo=>?_,qs:=fun y z b hy hz _ _=>hy.trans hz.symm,hv:=fun q=>?_,old:=fun _ _ _=>rfl,sz:=awa _,os:=rfl,tp:=rfl,out:=rfl,VJ:=fun q xK hq hp=>?_,VI:=fun q B hp hq=>?_}
              · rw[Ex] at hq
                by_cases e:o=q
                · simp[e] at hq
                · simp only[e,Q9] at hq
                  have hG:q≠o:=fun h=>e h.symm;exact .inr ⟨by simp,by simp[hG],hq,rfl,rfl,rfl⟩
              · rw[NG] at hq
                by_cases e:a=q
                · subst e
                  simp only[ava,OQ] at hq;subst hq;refine .inl ⟨rfl,(ia rfl rfl).2 ?_,fun _=>⟨fun p hp=>?_,?_,fun _=>?_⟩⟩
                  · simp only[G1,ava]
                    rw[show(⟨A.t,Md.bx,false,A.l.set i x⟩:jS).bx=true from rfl]
                    have NS:A.l.set i x=A.l.take i++x::A.l.drop (i+1):=List.set_eq_take_append_cons_drop.trans (by rw[a7a k6])
                    refine .inr ⟨G.φ o,cap,arr,elem,G.pre o++(mid++Jv),rest,Hp++(c.flatMap G.HA++Hq),?_,rfl,?_,?_,?_,?_⟩
                    · rw[k1];simp
                    · rw[g2,k3];simp
                    · have:arr.size=(G.pre o).length+(mid.length+(G.post o).length):=by rw[←bea,g2];simp
                      show cap * A.t.size≤arr.size;omega
                    · simpa using k5
                    · show RepL (gh G.S true A.t) _ (A.l.set i x) _
                      rw[NS];exact k8.append ⟨mid,Jv,c.flatMap G.HA,Hq,rfl,rfl,Bv,k9⟩
                  · simp only[G1,ava] at hp
                    rcases ama.1 hp with rfl|hp
                    · exact g1
                    · rcases aoa.1 hp with hp|hp
                      · exact hm.ah a A jT du p (by rw[k2];exact aya _ hp)
                      · rcases aoa.1 hp with hp|hp
                        · obtain⟨q',I3,hp⟩:=bma.1 hp
                          obtain⟨B',hB',ag7⟩:=ZQ q' I3;exact hm.ah q' B' hB' ag7 p hp
                        · exact hm.ah a A jT du p (by rw[k2];exact ara _ hp)
                  · simp only[G1,ava];exact TC
                  · simp only[G1,ava,HH,kF];rw[aza (by omega)]
                · simp only[e,Q9] at hq
                  by_cases e2:q∈c
                  · simp[e2] at hq
                  · simp only[e2,Q9] at hq
                    have hG:q≠a:=fun h=>e h.symm;refine .inr ⟨by simp[hG],hq,rfl,by simp[G1,hG],fun _=>?_,by simp[G1,hG],fun _ _ _=>⟨rfl,rfl,rfl⟩⟩
                    rintro(h|h|⟨q',I3,h⟩)
                    · cases h;exact hG rfl
                    · cases h
                    · cases h;exact e2 I3
              · subst hy
                obtain⟨_,p,hp,rfl⟩:=hyo;simp only[G1,ava] at hp;left;rcases ama.1 hp with rfl|hp
                · exact⟨(false,o),.inr (.inl rfl),af0⟩
                · rcases aoa.1 hp with hp|hp
                  · exact⟨(true,a),.inl rfl,hao p (aya _ hp)⟩
                  · rcases aoa.1 hp with hp|hp
                    · obtain⟨q,hq,ho'⟩:=hco p hp
                      exact⟨(true,q),.inr (.inr ⟨q,hq,rfl⟩),ho'⟩
                    · exact⟨(true,a),.inl rfl,hao p (ara _ hp)⟩
              · show(if q=a then G.vn a+1 else G.vn q)=s1.dC q
                simp only[s1,St.dC,aq];by_cases e:q=a
                · subst e;simp;exact hm.hv q
                · have:a≠q:=fun h=>e h.symm
                  simp only[e,this,Q9];exact hm.hv q
              · have hG:o≠q:=fun e=>by
                  subst e;rcases hp with ⟨p,hp⟩|⟨j,u,hu⟩
                  · exact hX p hp
                  · exact hB j u hu
                exact⟨by rw[Ex,aza hG];exact hq,by simp⟩
              · refine⟨?_,rfl⟩
                rw[NG];by_cases e:a=q
                · exact⟨_,by rw[a7a e]⟩
                · have:q∉c:=fun I3=>by
                    obtain⟨_,_,_,O0,_⟩:=jG q I3;rw[O0] at hp;cases hp
                  exact⟨B,by rw[aza e,aza this];exact hq⟩
            exact⟨s1,G1,O4.ok hm,fun act=>O4.eB,fun y v hv=>O4.TR (fun z hz=>by cases hz) hv,h⟩
        · cases h
    · cases h
  · cases h
end Go.Fx
namespace Go.Fx
section ops
variable {P:Program} {E:tn} (hE:iO P E.iE) {X:mS} {w:World} {R:Type} {r:R}
theorem Rd{st:St}{G:Gh}{T:TypeId}{ti:TI}(hti:As P T ti)(hm:az X st G w){o off:Nat}{vs ls c:List ag}{vx vv:Value}(jy:vs.length=ti.size)(rF:vs.all ag.cell=true)(Gv:All2 (aS G) vs vv.cells.toList)
  (ho:st.dN o=some ls) (hs:qM ls off ti.size=some c) (hb:c.any ag.pR=false) (hx:aS G (.lw o off) vx):
  ∃ w',(Instr.storeAt T vx vv).run P w=.ok () w'∧az X (st.qJ o (mK ls off vs)) G w':=by
 have TH:=Fg hm rF Gv;have DJ:vv.cells.size=ti.size:=by rw[←jy,Gv.length];simp
 have Cm:off+ti.size≤ls.length:=by
  unfold qM at hs;cases hq:Nat.ble (off+ti.size) ls.length with
  |false=>simp[hq] at hs
  |true=>exact aZa hq
 obtain⟨arr,elem,mid,g1,g2,g3⟩:=hm.ob o ls ho;have hml:mid.length=ls.length:=by have:=All2.length g3;rw[iW] at this;exact this.symm
 have Vg:arr.size=(G.pre o).length+(mid.length+(G.post o).length):=by rw[←bea,g2];simp
 have Fk:vx=.pointer (some ⟨G.φ o,(G.pre o).length+off,none⟩):=hx;have xF:(G.pre o).length+off+vv.cells.size≤arr.size:=by omega
 obtain⟨arr',k1,k2,k3,k4,k5,k6,k7⟩:=om (G.φ o) vv.cells.toList ((G.pre o).length+off) w g1 (by simpa using xF)
 refine⟨_,by rw[Fk];exact Ah hti DJ (BZ g1 xF) TH,?_⟩
 refine hm.UJ ho (Ng rF) (by omega) (by rw[jy];unfold qM at hs;cases hq:Nat.ble (off+ti.size) ls.length<;>simp[hq] at hs;rw[hs];exact hb) Gv g1 g2 g3 k1 ?_ k3 k4 k5 k6 k7
 have Cn:vv.cells.toList.length=ti.size:=by simpa using DJ
 rw[k2,g2,Cn];exact Ib _ _ _ _ _ _ (by omega)
theorem YG{a v sz:Nat}{ls:List ag}(h:ls.all ag.cell=true):(ls.map (qQ a v sz)).all ag.cell=true:=by
 rw[cPa,ana];intro l hl;have:=ana.1 h l hl;simp only[Function.comp_apply];cases l with
 |Ft a' v' sz' i' off=>simp only[qQ];cases (Nat.beq a' a&&Nat.beq v' v&&Nat.beq sz' sz&&Nat.blt off sz)<;>rfl
 |_=>exact this
theorem UO{G:Gh}{a v sz i:Nat}(ht:∀ off u,off<sz→vY G a v sz i off u→u=G.ψ (Mb a v off)):∀{ls:List ag} {us:List Value},xy a v sz i ls=true→All2 (aS G) ls us→All2 (aS G) (ls.map (qQ a v sz)) us
 |[],[],_,_=>trivial
 |l::ls,u::us,h,hr=>by
  refine⟨UP ht (KR h l (ata ..)) hr.1,UO ht ?_ hr.2⟩;cases l with
  |Ft a' v' sz' i' off=>
   simp only[xy] at h;cases hb:(Nat.beq a' a&&Nat.beq v' v&&Nat.beq sz' sz&&Nat.blt off sz) with
   |false=>simp only[hb,aqa] at h;exact h
   |true=>simp only[hb,aja,Q3] at h;exact h.2
  |_=>exact h
 |[],_::_,_,h=>h.elim
 |_::_,[],_,h=>h.elim
theorem Oc{X:mS}{st:St}{G:Gh}{w:World}(hm:az X st G w){o:Nat}(h:st.dN o=none):(∀ p,X.pin o≠some p)∧∀ j u,X.bv o j≠some u:=
 ⟨fun p hp=>(by obtain⟨⟨ls,h1⟩,_⟩:=hm.pin o p hp;rw[h] at h1;cases h1),fun j u hu=>(by obtain⟨_,⟨ls,h1,_⟩,_⟩:=hm.bv o j u hu;rw[h] at h1;cases h1)⟩
include hE
theorem Ue{st:St}{G:Gh}{T:TypeId}{a sz i off:Nat}{v:ae}{vx vv:Value}{K:St→Option R}(h:uw E T a sz i off v st K=some r)(hm:az X st G w)(hx:aS G (.Ei a sz i off) vx)(hv:aO G v vv)(hw:Hi st v):
  ∃ st' G' w',(Instr.storeAt T vx vv).run P w=.ok () w'∧az X st' G' w'∧(∀ act,bO G st act→bO G' st' act)∧K st' = some r:=by
 unfold uw at h;split at h
 ·rename_i ti vs A hT hl hA
  cases hc:(Nat.beq vs.length ti.size&&vs.all ag.cell&&Nat.beq sz A.t.size) with
  |false=>simp[hc] at h
  |true=>
   simp only[hc,aja] at h;simp only[Q3] at hc;obtain⟨⟨jy,rF⟩,mX⟩:=hc;have jy:=Q4 jy;have mX:=Q4 mX;subst mX;have hti:=hE T ti hT;split at h
   ·rename_i vm
    obtain⟨s1,G1,O,h⟩:=Sp h hm;obtain⟨b1,b2,b3,b4,b5,b6,b7⟩:=O.iG;have aen:s1.dC a=st.dC a:=by simp only[St.dC,b7]
    have ht:∀ off u,off<A.t.size→vY G1 a (st.dC a) A.t.size i off u→u=G1.ψ (Mb a (st.dC a) off):=fun off u ho hu=>O.acH A off u hA ho hu;obtain⟨m2,h⟩:=UM h O.GF (by rw[aen];exact ht)
    generalize hs2:({s1 with ci:=(pZ s1.ci []).map fun p=>(p.1,p.2.map (qQ a (s1.dC a) A.t.size))}:St)=s2 at m2 h
    cases hth:xy a (st.dC a) A.t.size i vs with
    |false=>simp[hth] at h
    |true=>
     simp only[hth,aja] at h;split at h
     ·rename_i ls ho
      split at h
      ·rename_i c hs
       cases hb:c.any ag.pR with
       |true=>simp[hb] at h
       |false=>
        simp only[hb,aqa] at h;have Gv:=UO ht hth (mQ O.GF hl (O.val v vv hw hv));have hxp:aS G1 (.lw (obN a (st.dC a)) off) vx:=(O.lw off vx).2 ⟨A,hA,hx⟩;obtain⟨w',iH,m3⟩:=Rd (w:=w) hti m2 (by rw[cya];exact jy) (YG rF) Gv ho hs hb hxp
        obtain⟨hp1,If⟩:=Oc hm O.none;obtain⟨s4,G4,m4,r4,_,hK⟩:=RH h m3 hp1 If;refine⟨s4,G4,w',iH,m4,fun act ra=>r4 act ?_,hK⟩;have r1:=O.eB act ra;rw[←hs2];exact⟨r1.1,r1.2.1,r1.2.2⟩
      ·cases h
     ·cases h
   ·rename_i j o vm
    cases xd:(Nat.beq j i&&Nat.ble 10000 o) with
    |false=>simp[xd] at h
    |true=>
     simp only[xd,aja] at h;simp only[Q3] at xd;obtain rfl:=Q4 xd.1;have abQ:=aZa xd.2;split at h
     ·rename_i ls ho
      split at h
      ·rename_i c hs
       cases hb:c.any ag.pR with
       |true=>simp[hb] at h
       |false=>
        simp only[hb,aqa] at h;have jT:=sm hA;cases du:A.sh with
        |true=>
         have tH:=hm.ar a A jT;exfalso;unfold Bj at h;rw[show look (st.qJ o (mK ls off vs)).cO a=some A from hA,kT,a7a rfl] at h
         simp only[vm,du] at h;simp at h
        |false=>
         have tH:=hm.ar a A jT;unfold pf at tH;simp only[du,asa,Q9,vm] at tH;obtain⟨cap,Hp,Hq,rest,Jv,k1,k2,k3,k4,k5,k6,k7,k8,k9⟩:=tH;have hxp:aS G (.lw o off) vx:=by obtain⟨b,len,cap',g1,g2,rfl⟩:=hx;rw[k1] at g1;cases g1;simp only[aS,k7]
         obtain⟨w',iH,m3⟩:=Rd (w:=w) hti hm jy rF (mQ hm hl hv) ho hs hb hxp;obtain⟨s4,G4,m4,r4,_,hK⟩:=RH h m3 (fun p hp=>by have:=X.pl o p hp;omega) (fun j u hu=>by have:=X.bl o j u hu;omega)
         exact⟨s4,G4,w',iH,m4,fun act ra=>r4 act ⟨ra.1,ra.2.1,ra.2.2⟩,hK⟩
      ·cases h
     ·cases h
   ·cases h
 ·cases h
omit hE in
theorem az.ahS{X:mS}{st:St}{G:Gh}{w w':World}(hm:az X st G w){a b:Nat}{A A':jS}{o o':Obj}(hA:st.arr a=some A)(hs:A.sh=false)(Co:A'.sh=false)(hn:A'.nest=false)(hH:G.HA a=[(b,o)])
  (NP:∀ G':Gh,G'.S=G.S→G'.ψ a=G.ψ a→G'.HA a=[(b,o')]→pf G' a A') (hw:w'.heap[b]? = some o') (hwo:∀ k,k≠b→w'.heap[k]? = w.heap[k]?) (mX:w'.heap.size=w.heap.size) (hos:w'.os=w.os) (htp:w'.tape=w.tape) (yF:w'.output=w.output):
  ∃ G',az X (st.gP a A') G' w'∧(∀ act,bO G st act→bO G' (st.gP a A') act):=by
 let G1:Gh:={G with HA:=fun q=>if q=a then [(b,o')] else G.HA q}
 have Pp:eW G st (true,a) b:=⟨⟨A,hA,hs⟩,(b,o),by rw[hH];simp,rfl⟩
 have O4:wH X st (st.gP a A') G G1 w w' (fun y=>y=(true,a)) (fun y=>y=(true,a)) []:=by
  refine {
     n:=rfl,ir:=fun _=>rfl,bl:=rfl,pn:=rfl,S:=rfl,bP:=fun lf v _ hr=>aS.leF (G:=G) (G':=G1) (F:=[]) (fun _ _ h=>h) (fun _ _=>⟨rfl,rfl⟩) (fun q _=>⟨rfl,awa _,fun _ _=>rfl⟩) (by simp) hr,fm:=fun y hy=>(by cases hy),sl:=hm.sl,dN:=fun q ls hq=>.inr ⟨by simp,by simp,hq,rfl,rfl,rfl⟩,arr:=fun q B hq=>?_,
     gz:=fun y c hy hyo=>?_,qs:=fun y z c hy hz _ _=>hy.trans hz.symm,hv:=hm.hv,old:=fun c hc hn=>hwo c fun e=>hn (true,a) rfl (by rw[e];exact Pp),sz:=by rw[mX];exact awa _,os:=hos,tp:=htp,out:=yF,VJ:=fun q ls hq _=>⟨hq,by simp⟩,VI:=fun q B hp hq=>⟨?_,rfl⟩}
  ·rw[dI] at hq
   by_cases e:a=q
   ·subst e
    simp only[ava,OQ] at hq;subst hq;refine .inl ⟨rfl,NP G1 rfl rfl (by simp[G1]),fun _=>⟨fun p hp=>?_,by simp[G1],fun hG=>by rw[hn] at hG;cases hG⟩⟩
    simp only[G1,ava,Q7] at hp;rw[hp];exact hw
   ·simp only[e,Q9] at hq
    have hG:q≠a:=fun h=>e h.symm;exact .inr ⟨by simp[hG],hq,rfl,by simp[G1,hG],fun _=>by simp[hG],rfl,fun _ _ _=>⟨rfl,rfl,rfl⟩⟩
  ·subst hy
   obtain⟨_,p,hp,rfl⟩:=hyo;simp only[G1,ava,Q7] at hp;exact .inl ⟨(true,a),rfl,by rw[hp];exact Pp⟩
  ·rw[dI]
   by_cases e:a=q
   ·exact⟨_,by rw[a7a e]⟩
   ·exact⟨B,by rw[aza e];exact hq⟩
 exact⟨G1,O4.ok hm,fun act=>O4.eB⟩
theorem Uf{st:St}{G:Gh}{T:TypeId}{a k n:Nat}{v:ae}{vx vv:Value}{K:St→Option R}(h:ux E T a k v st K=some r)(hm:az X st G w)(hx:aS G (.Mo a k n) vx)(hv:aO G v vv):
  ∃ st' G' w',(Instr.storeAt T vx vv).run P w=.ok () w'∧az X st' G' w'∧(∀ act,bO G st act→bO G' st' act)∧K st' = some r:=by
 unfold ux at h;split at h
 ·rename_i ti l A hT hl hA
  cases hc:(Nat.beq ti.size 1&&l.cell&&!A.sh&&Md.lG A.md .arr&&Nat.beq A.t.size 1&&!A.t.agg&&A.t.za) with
  |false=>rw[hc] at h;cases h
  |true=>
   rw[hc,aja] at h;simp only[Q3,aOa] at hc;obtain⟨⟨⟨⟨⟨⟨hts,rF⟩,du⟩,vm⟩,mX⟩,hag⟩,hns⟩:=hc;have hts:=Q4 hts;have mX:=Q4 mX;have vm:=Md.xC vm;split at h
   ·rename_i d hd
    obtain⟨x0,hx0,h⟩:=axa.1 h;have hi:A.l[k]? = some x0:=by simpa[bC] using hx0
    have jT:=sm hA;have Gv:=mQ hm hl hv;obtain⟨b,g1,hvx⟩:=hx;obtain⟨b',arr,elem,e1,e2,e3⟩:=Hj du vm (hm.ar a A jT);rw[g1] at e1;cases e1;have tU:=hm.ah a A jT du (b,Obj.cells arr elem (0,0)) (by rw[e2];simp)
    obtain⟨pre,cc,post,Hp,Hc,Hq,k1,k2,k3,k4,k5⟩:=RepL.at (fun c x H hr=>gh.size hr) e3 hi;obtain⟨u,hu⟩:∃ u,vv.cells.toList=[u]:=by
     have:=Gv.length
     match hvv:vv.cells.toList,this with
     |[u],_=>exact⟨u,rfl⟩
    rw[hu] at Gv;have Bv:gh G.S false A.t [u] d []:=NC hm hag hd Gv.1;have DJ:vv.cells.size=ti.size:=by rw[hts,←bea,hu];rfl
    have ah9:k<arr.size:=by
     have mD:=gh.size k4;have:arr.size=pre.length+(cc.length+post.length):=by rw[←bea,k1];simp
     have hpk:pre.length=k:=by rw[k2,mX,Nat.mul_one]
     omega
    have TH:∀ v∈vv.cells.toList,v.oneCell' = true:=by rw[hu];exact Fg hm (ls:=[l]) (by simpa using rF) Gv
    have xF:k+vv.cells.size≤arr.size:=by omega
    obtain⟨arr',g2,g3,g4,g5,g6,g7,g8⟩:=om b vv.cells.toList k w tU (by simpa using xF)
    have hrl:=k5 [u] d [] Bv;have hH0:Hp=[]∧Hc=[]∧Hq=[]:=by have e:=bXa.1 k3.symm;have e':=bXa.1 e.2;exact⟨e.1,e'.1,e'.2⟩
    have rO:arr'.toList=pre++([u]++post):=by
     have mD:cc.length=1:=by rw[gh.size k4,mX]
     rw[g3,hu,k1];have hpk:pre.length=k:=by rw[k2,mX,Nat.mul_one]
     match cc,mD with
     |[c0],_=>rw[←hpk];simp
    obtain⟨G2,m2,r2⟩:=hm.ahS (A':=⟨A.t,.arr,false,A.l.set k d⟩) (o':=Obj.cells arr' elem (0,0)) jT du rfl rfl e2 (fun G' h1 h2 h3=>⟨b,arr',elem,h2.trans g1,h3,by
     rw[rO,h1];have:=hrl;rw[hH0.1,hH0.2.2] at this;exact this⟩) g2 g4 g5 g6 g7 g8
    exact⟨_,G2,_,by rw[hvx];exact Ah (hE T ti hT) DJ (BZ tU xF) TH,m2,r2,h⟩
   ·cases h
 ·cases h
theorem Ug{st:St}{G:Gh}{T:TypeId}{x v:ae}{vx vv:Value}{K:St→Option R}(h:uy E T x v st K=some r)(hm:az X st G w)(hx:aO G x vx)(hv:aO G v vv)(hw:Hi st v):
  ∃ st' G' w',(Instr.storeAt T vx vv).run P w=.ok () w'∧az X st' G' w'∧(∀ act,bO G st act→bO G' st' act)∧K st' = some r:=by
 unfold uy at h;split at h
 ·rename_i a sz i off hn
  unfold WU at hn;split at hn
  ·rename_i a' sz' i' aeI hl
   have hxe:x=.one (.Ei a' sz' i' aeI):=by cases x<;>simp[ae.bP] at hl;rw[hl]
   split at hn
   ·rename_i A hA
    cases hs:A.sh with
    |true=>simp[hs] at hn
    |false=>
     simp only[hs,aqa] at hn;have e:(a',sz',i',aeI)=(a,sz,i,off):=by
      split at hn
      ·exact bxa hn
      ·exact bxa hn
      ·cases hn
     simp only[ala] at e;obtain⟨rfl,rfl,rfl,rfl⟩:=e;rw[hxe] at hx;exact Ue hE h hm hx hv hw
   ·cases hn
  ·cases hn
 ·split at h
  ·rename_i a k ha
   unfold adN at ha;split at ha
   ·rename_i a' k' n' hl
    cases ha;rw[show x=.one (.Mo a k n') by cases x<;>simp[ae.bP] at hl;rw[hl]] at hx
    exact Uf hE (n:=n') h hm hx hv
   ·cases ha
  ·exact VF hE h hm hx hv
omit hE in
theorem yx{st:St}{dst:Nat}{C:List Nat}{N:jS}(hb:∀ c∈C,look st.fQ c=none)(q:Nat):({st with cO:=(dst,N)::lm C st.cO}:St).arr q=if q=dst then some N else if q∈C then none else st.arr q:=by
 simp only[St.arr,aq,zP];by_cases e:dst=q
 ·simp[e]
 ·have hq:q≠dst:=fun h=>e h.symm
  simp only[e,hq,Q9];by_cases e2:q∈C
  ·simp[e2,hb q e2]
  ·simp[e2]
omit hE in
theorem Ld{st:St}{G:Gh}(hm:az X st G w){t:Ty}:∀{ps:List (Nat×ae)} {vs:List (Nat×Value)} {k:Nat} {l:List t.nH} {c:List Nat},uA t k ps st=some (l,c)→All2 (fun(p:Nat×ae) (q:Nat×Value)=>p.1=q.1∧aO G p.2 q.2) ps vs→
  RepL (gh G.S true t) (vs.map fun p=>p.2.cells.toList).flatten l (c.flatMap G.HA)∧l.length=vs.length∧(∀(i:Nat) q,vs[i]? = some q→q.1=k+i∧q.2.cells.size=t.size)∧∀ q∈c,Iw st q
 |[],[],k,l,c,h,_=>by simp only[uA,OQ,ala] at h;obtain⟨rfl,rfl⟩:=h;exact⟨⟨rfl,rfl⟩,rfl,fun i q hq=>by simp at hq,fun q hq=>by cases hq⟩
 |(j,v)::ps,(j',u)::vs,k,l,c,h,hp=>by
  simp only[uA] at h;cases hb:Nat.beq k j with
  |false=>simp[hb] at h
  |true=>
   simp only[hb,aja] at h;have hkj:=Q4 hb;split at h
   ·rename_i ls hl
    split at h
    ·rename_i d c0 hT
     split at h
     ·rename_i l' c' af6
      simp only[OQ,ala] at h;obtain⟨rfl,rfl⟩:=h;obtain⟨c1,c2,e0,g1,g2,g3⟩:=W1 hm hT (mQ hm hl hp.1.2)
      match c2,g2 with
      |[],_=>
      rw[bga] at e0;obtain⟨r1,r2,r3,r4⟩:=Ld hm af6 hp.2;refine⟨⟨c1,_,c0.flatMap G.HA,c'.flatMap G.HA,by simp[e0],by rw[cDa],g1,r1⟩,by simp[r2],fun i q hq=>?_,fun q hq=>?_⟩
      ·cases i with
       |zero=>
        simp only[bda,OQ] at hq;subst hq;refine⟨by have h1:=hp.1.1;simp only at h1 ⊢;omega,?_⟩
        have:=gh.size g1;rw[←e0] at this;simpa using this
       |succ i=>
        obtain⟨z1,z2⟩:=r3 i q (by simpa using hq)
        exact⟨by omega,z2⟩
      ·rcases aoa.1 hq with hq|hq
       ·exact g3 q hq
       ·exact r4 q hq
     ·cases h
    ·cases h
   ·cases h
 |[],_::_,_,_,_,_,hp=>hp.elim
 |_::_,[],_,_,_,_,hp=>hp.elim
omit hE in
theorem aci{st:St}{c:List Nat}(h:∀ q∈c,Iw st q):(∀ q∈c,(∃ A,st.arr q=some A∧A.sh=false)∧eV q st.pin=false)∧∀ q∈c,look st.fQ q=none:=
 ⟨fun q hq=>by obtain⟨A,h1,h2,h3,_⟩:=h q hq;exact⟨⟨A,sm h1,h2⟩,h3⟩,fun q hq=>by obtain⟨_,_,_,_,h4⟩:=h q hq;exact h4⟩
theorem KE{st:St}{G:Gh}{T:TypeId}{dst len:Nat}{iq:List (Nat×ae)}{vs:List (Nat×Value)}{K:ae→St→Option R}(h:lc E T dst len iq st K=some r)(hm:az X st G w)
  (hp:All2 (fun(p:Nat×ae) (q:Nat×Value)=>p.1=q.1∧aO G p.2 q.2) iq vs):
  ∃ av v st' G' w',(Instr.buildSlice T len vs.toArray).run P w=.ok v w'∧az X st' G' w'∧(∀ act,bO G st act→bO G' st' act)∧aO G' av v∧K av st' = some r:=by
 unfold lc at h;split at h
 ·rename_i s b y e z hT
  cases AC:E.iE e with
  |none=>simp[AC] at h
  |some ei=>
   simp only[AC] at h;cases hy:ei.ty with
   |none=>simp[hy] at h
   |some t=>
    simp only[hy] at h;cases hc:(Nat.beq len iq.length&&Nat.beq ei.size t.size&&Nat.ble (len * ei.size) 16777216) with
    |false=>simp[hc] at h
    |true=>
     simp only[hc,aja] at h;simp only[Q3] at hc;obtain⟨⟨Mu,xd⟩,NH⟩:=hc;have Mu:=Q4 Mu;have xd:=Q4 xd;have NH:=aZa NH;split at h
     ·rename_i l c hsp ha
      cases AE:(st.dc true dst||!oo c) with
      |true=>simp[AE] at h
      |false=>
       simp only[AE,aqa] at h;simp only[aGa,boa] at AE;obtain⟨AE,HO⟩:=AE;have HO:=Fr HO;obtain⟨r1,l1,z1,o1⟩:=Ld hm hsp hp;obtain⟨oc1,oc2⟩:=aci o1;have Cn:vs.length=len:=by rw[Mu,hp.length]
       have hu:=(hE T _ hT).slice;obtain⟨i,d,zz,i1,i2,i3,i4,i5,i6,i7,i8,i9,_⟩:=hE e ei AC;have mD:(vs.map fun p=>p.2.cells.toList).flatten.length=len * t.size:=by rw[RepL.size (fun c x H hr=>gh.size hr) r1,l1,Cn]
       let zc:Array Value:=if len * ei.size=0 then #[] else zz.cells
       let R1:List Value:=((Array.range (len * ei.size)).map (zc[· % zc.size]!)).toList
       have F6:R1.length=len * ei.size:=by simp[R1]
       have NL:=Nv ei.size vs 0 R1 (fun j p hp=>by
        obtain⟨g1,g2⟩:=z1 j p hp;exact⟨g1,by rw[g2,xd]⟩) (by rw[aWa,Cn,F6];exact awa _)
       rw[aWa,Cn,Nat.zero_mul,List.take_zero,aYa,cna (by rw[F6];exact awa _),bga] at NL
       let blk:Obj:=.cells (vs.map fun p=>p.2.cells.toList).flatten.toArray e (0,0);have Po:∀ p∈c.flatMap G.HA,p.1<w.heap.size∧w.heap[p.1]? = some p.2:=fun p hp=>by obtain⟨q,hq,hp⟩:=bma.1 hp;obtain⟨⟨A,hA,hs⟩,_⟩:=oc1 q hq;have:=hm.ah q A hA hs p hp;exact⟨fZ this,this⟩
       have I0:kx (RepL (gh G.S true t)) t.size [.slice (some ⟨w.heap.size,0,none⟩) l.length len] l ((w.heap.size,blk)::c.flatMap G.HA):=
        .inr ⟨w.heap.size,len,(vs.map fun p=>p.2.cells.toList).flatten.toArray,e,(vs.map fun p=>p.2.cells.toList).flatten,[],c.flatMap G.HA,rfl,rfl,by simp,by rw[bFa,mD];exact awa _,by rw[l1,Cn];exact awa _,r1⟩
       obtain⟨G2,m2,r2,Gx,_⟩:=hm.uj (w':=w.alloc blk) (dst:=dst) (C:=c) (A':=⟨t,.bx,false,l⟩) (hd:=.slice (some ⟨w.heap.size,0,none⟩) l.length len) (HH:=(w.heap.size,blk)::c.flatMap G.HA)
        (st':={st with cO:=(dst,⟨t,.bx,false,l⟩)::lm c st.cO}) oc1 rfl rfl
        I0
        (by
         rw[aHa,a2a];refine⟨fun ib=>?_,Hy hm HO fun q hq=>(oc1 q hq).1⟩;obtain⟨p,hp,e⟩:=a0a.1 ib;have:=(Po p hp).1;simp only at e;omega)
        (fun p hp=>by
         rcases ama.1 hp with rfl|hp
         ·exact .inr (awa _)
         ·obtain⟨q,hq,hp⟩:=bma.1 hp
          exact .inl ⟨q,hq,p,hp,rfl⟩)
        (fun p hp=>by
         rcases ama.1 hp with rfl|hp
         ·exact va w _
         ·rw[iY w _ (Po p hp).1];exact(Po p hp).2)
        (fun b hb _=>iY w _ hb) (by rw[tr];omega) rfl rfl rfl (rK.cO _ _) (yx oc2) ha AE
       refine⟨_,_,_,G2,_,?_,m2,r2,Gx,h⟩;have h24:¬ (2 ^ 24<len * i.size):=by rw[i3];omega
       have mX:=(hE e ei AC).size w;have Eu:(Array.range (len * ei.size)).map (zc[· % zc.size]!)=R1.toArray:=(Array.toArray_toList (xs:=(Array.range (len * ei.size)).map (zc[· % zc.size]!))).symm
       by_cases h0:len * ei.size=0
       ·have hzc:zc = #[]:=by simp[zc,h0]
        rw[hzc] at Eu;simp only[Instr.buildSlice,aMa,aEa hu,aFa,mX,Sem.run_ite,aza (show ¬ (len * ei.size > 2 ^ 24) by omega),h0,ava,baa]
        rw[h0] at Eu;rw[Eu];simp only[NL];simp[newRow,l1,Cn,blk]
       ·have hzc:zc=zz.cells:=by simp[zc,h0]
        rw[hzc] at Eu;simp only[Instr.buildSlice,aMa,aEa hu,aFa,mX,Sem.run_ite,aza (show ¬ (len * ei.size > 2 ^ 24) by omega),h0,Q9,baa,zeroValue,typeInfo,run_program,i1,i5]
        rw[Eu];simp only[NL];simp[newRow,l1,Cn,blk]
     ·cases h
 ·cases h
end ops
end Go.Fx
