/- Proved here: laws.FnExactEngineTop returns true at every input (the tied card), no condition beyond the card. -/
import Derived.Calls
import Derived.Orders
import Derived.KernelRfl
import Derived.Below
import Derived.Deep.MidRow
import Derived.Laws.AppendOwn
import Derived.Laws.MakeOwn
import Derived.Laws.Strings
import Derived.Tactics
import Derived.ChangeKeysEq
import Derived.ArgAppend
set_option linter.unusedVariables false
set_option linter.unusedSimpArgs false
set_option linter.unusedSectionVars false
set_option linter.defProp false
set_option maxRecDepth 100000
namespace Go.Fx
def OF:=@Option.some.injEq
def Q3:=@Int.ofNat_lt
def Q4:=@Bool.and_eq_true
def Q5:=@Nat.eq_of_beq_eq_true
def Q6:=@beq_eq_false_iff_ne
def Q7:=@List.mem_singleton
def Q8:=@List.mem_cons_of_mem
def Q9:=@cond_true
def aca:=@if_false
def aia:=@Prod.mk.injEq
def aja:=@List.getElem?_eq_some_iff
def aka:=@List.mem_cons
def ala:=@List.mem_append
def ama:=@Int.natCast_nonneg
def ana:=@cond_false
def aoa:=@List.mem_append_right
def apa:=@List.all_eq_true
def aqa:=@List.mem_cons_self
def ara:=@List.length_cons
def asa:=@Bool.false_eq_true
def ata:=@List.length_append
def aua:=@if_true
def ava:=@Nat.le_refl
def awa:=@Option.bind_eq_some_iff
def axa:=@List.mem_append_left
def aya:=@Int.toNat_natCast
def aza:=@if_neg
def aAa:=@Array.getD_eq_getD_getElem?
def aBa:=@List.length_nil
def aCa:=@Go.run_underlying
def aDa:=@Go.Result.andThen_ok
def aEa:=@Bool.or_eq_false_iff
def aFa:=@List.map_cons
def aGa:=@List.mem_map_of_mem
def aHa:=@List.cons.injEq
def aIa:=@Option.map_eq_some_iff
def aJa:=@List.prefix_append
def aKa:=@Go.Sem.run_bind
def aLa:=@Bool.not_eq_true'
def aMa:=@Int.toNat_of_nonneg
def aNa:=@and_self
def aOa:=@List.any_eq_false
def aPa:=@List.getElem?_append_right
def aQa:=@List.nil_append
def aRa:=@List.getElem?_append_left
def aSa:=@List.drop_eq_getElem_cons
def aTa:=@Nat.zero_add
def aUa:=@Nat.le_of_ble_eq_true
def aVa:=@List.prefix_refl
def aWa:=@List.getElem_mem
def aXa:=@List.mem_map
def aYa:=@bne_iff_ne
def aZa:=@List.mem_of_getElem?
def a0a:=@List.nodup_cons
def a1a:=@List.append_assoc
def a2a:=@List.cons_append
def a3a:=@Bool.or_eq_true
def a4a:=@if_pos
def a5a:=@Option.bind_assoc
def a6a:=@List.getD_eq_getElem?_getD
def a7a:=@and_true
def a8a:=@Go.Sem.run_pure
def a9a:=@List.append_nil
def a_a:=@List.nodup_append
def baa:=@List.length_replicate
def bba:=@List.getElem?_cons_zero
def bca:=@Nat.add_sub_cancel_left
def bda:=@Array.length_toList
def bea:=@Array.getElem?_push
def bfa:=@beq_iff_eq
def bga:=@List.getElem?_eq_getElem
def bha:=@List.mem_filterMap
def bia:=@or_self
def bja:=@Prod.mk.inj
def bka:=@List.mem_flatMap
def bla:=@Bool.not_eq_false'
def bma:=@List.all_cons
def bna:=@Nat.add_mul
def boa:=@Array.getElem?_setIfInBounds_ne
def bpa:=@List.getElem?_cons_succ
def bqa:=@decide_eq_false
def bra:=@List.map_append
def bsa:=@Array.getElem?_toList
def bta:=@Option.some.inj
def bua:=@Nat.mul_le_mul_right
def bva:=@Bool.not_eq_true
def bwa:=@Bool.and_self
def bxa:=@Ne.symm
def bya:=@or_false
def bza:=@List.getElem?_take_of_lt
def bAa:=@List.size_toArray
def bBa:=@Option.map_some
def bCa:=@Go.World.cell?_alloc_past
def bDa:=@Nat.add_assoc
def bEa:=@List.drop_zero
def bFa:=@Nat.le_trans
def bGa:=@congrArg
def bHa:=@List.ext_getElem?
def bIa:=@List.getElem?_map
def bJa:=@List.flatMap_cons
def bKa:=@decide_eq_true_eq
def bLa:=@gt_iff_lt
def bMa:=@Array.toList_map
def bNa:=@List.not_mem_nil
def bOa:=@Option.bind_some
def bPa:=@List.append_eq_nil_iff
def bQa:=@Go.Addr.add_mid
def bRa:=@List.getElem?_drop
def bSa:=@List.mem_filter
def bTa:=@List.getElem?_eq_none
def bUa:=@Array.size_append
def bVa:=@List.mem_of_find?_eq_some
def bWa:=@Int.natCast_zero
def bXa:=@List.filterMap_cons
def bYa:=@List.map_congr_left
def bZa:=@or_true
def b0a:=@List.foldl_cons
def b1a:=@Nat.blt_eq
def b2a:=@Go.MapKept.run_getObj_map
def b3a:=@List.mem_range
def b4a:=@List.take_append_drop
def b5a:=@List.nodup_nil
def b6a:=@List.length_singleton
def b7a:=@Nat.beq_refl
def b8a:=@Option.getD_some
def b9a:=@true_and
def b_a:=@decide_eq_decide
def caa:=@Array.getElem?_eq_some_iff
def cba:=@eq_comm
def cca:=@Go.MapKept.run_findKey
def cda:=@Go.World.cell?_setCell_same
def cea:=@decide_false
def cfa:=@Option.isSome_iff_exists
def cga:=@Go.World.frozen?_alloc_past
def cha:=@not_or
def cia:=@Nat.mul_le_mul
def cja:=@List.length_eq_zero_iff
def cka:=@decide_eq_false_iff_not
def cla:=@List.drop_of_length_le
def cma:=@Array.setIfInBounds_eq_of_size_le
def cna:=@List.filter_cons
def coa:=@Nat.le_of_not_lt
def cpa:=@List.take_succ_eq_append_getElem
def cqa:=@Array.getElem?_modify
def cra:=@Nat.add_zero
def csa:=@List.map_map
def cta:=@Array.ext'
def cua:=@List.find?_some
def cva:=@List.replicate_succ'
def cwa:=@List.take_append_of_le_length
def cxa:=@List.eq_nil_of_length_eq_zero
def cya:=@List.flatMap_append
def cza:=@Go.size_zeroCells
def cAa:=@List.drop_drop
def cBa:=@Bool.false_and
def cCa:=@Int.le_refl
def cDa:=@decide_true
def cEa:=@Option.isNone_some
def cFa:=@Option.isNone_none
def cGa:=@List.any_cons
def cHa:=@Bool.not_true
def cIa:=@List.flatten_cons
def cJa:=@List.getElem?_set
def cKa:=@List.all_map
def cLa:=@Nat.lt_or_ge
end Go.Fx
namespace Go.Fx
inductive Ty where
 |int (k:IntKind)|bool|str|slice (t:Ty)|aO (a b:Ty)|one (a:Ty)|arr (n:Nat) (t:Ty)
def Ty.beq:Ty→Ty→Bool
 |.int k,.int k'=>decide (k=k')
 |.bool,.bool=>true
 |.str,.str=>true
 |.slice t,.slice u=>t.beq u
 |.aO a b,.aO c d=>a.beq c&&b.beq d
 |.one a,.one b=>a.beq b
 |.arr n a,.arr m b=>Nat.beq n m&&a.beq b
 |_,_=>false
theorem Ty.uv:∀{t u:Ty},t.beq u=true→t=u
 |.int k,u,h=>by cases u<;>simp_all[Ty.beq]
 |.bool,u,h=>by cases u<;>simp_all[Ty.beq]
 |.str,u,h=>by cases u<;>simp_all[Ty.beq]
 |.slice t,u,h=>by cases u<;>simp_all[Ty.beq];exact Ty.uv h
 |.aO a b,u,h=>by cases u<;>simp_all[Ty.beq];exact⟨Ty.uv h.1,Ty.uv h.2⟩
 |.one a,u,h=>by cases u<;>simp_all[Ty.beq];exact Ty.uv h
 |.arr n a,u,h=>by cases u<;>simp_all[Ty.beq];exact Ty.uv h.2
abbrev ak:=List UInt8
@[reducible] def Ty.nw:Ty→Type
 |.int _=>Int | .bool=>Bool | .str=>ak | .slice t=>List t.nw | .aO a b=>a.nw×b.nw | .one a=>a.nw | .arr _ t=>List t.nw
inductive Kd where
 |int (k:IntKind)|bool|str
def Ks:Ty→Option (List Kd)
 |.int k=>some [.int k]
 |.bool=>some [.bool]
 |.str=>some [.str]
 |.aO a b=>(match Ks a,Ks b with|some x,some y=>some (x++y)|_,_=>none)
 |.one a=>Ks a
 |_=>none
def Ty.size:Ty→Nat
 |.aO a b=>a.size+b.size | .one a=>a.size | .arr n t=>n * t.size|_=>1
def Ty.agg:Ty→Bool
 |.aO _ _=>true | .one _=>true | .arr _ _=>true|_=>false
def vf(t u:Ty)(d:t.nw):Option u.nw:=
 if h:t.beq u=true then some (cast (bGa Ty.nw (Ty.uv h)) d) else none
theorem lC{t u:Ty}{d:t.nw}{x:u.nw}(h:vf t u d=some x):∃ e:t=u,x=e ▸ d:=by
 unfold vf at h;split at h
 ·rename_i hb
  have e:=Ty.uv hb;subst e;exact⟨rfl,(bta h).symm⟩
 ·cases h
abbrev fY:=List (Nat×Obj)
abbrev DB:=Nat→Option Obj
def RepL{α:Type}(R:List Value→α→fY→Prop):List Value→List α→fY→Prop
 |cs,[],H=>cs=[]∧H=[]
 |cs,x::l,H=>∃ c1 c2 H1 H2,cs=c1++c2∧H=H1++H2∧R c1 x H1∧RepL R c2 l H2
def kl(s:ak):Value:=.string ⟨s.toArray⟩
def BR{α:Type}(S:DB)(RL:List Value→List α→fY→Prop)(cs:List Value)(l:List α)(H:fY):Prop:=
 H=[]∧((l=[]∧∃ iL cap,cs=[.slice iL 0 cap])∨
  ∃ b cap arr elem fz pre cells rest,cs=[.slice (some ⟨b,pre.length,none⟩) l.length cap]∧S b=some (.cells arr elem fz)∧
   arr.toList=pre++(cells++rest)∧RL cells l []∧l.length≤cap)
def kf{α:Type}(RL:List Value→List α→fY→Prop)(sz:Nat)(cs:List Value)(l:List α)(H:fY):Prop:=
 (l=[]∧H=[]∧cs=[.slice none 0 0])∨
  ∃ b cap arr elem cells rest H',cs=[.slice (some ⟨b,0,none⟩) l.length cap]∧H=(b,Obj.cells arr elem (0,0))::H'∧
   arr.toList=cells++rest∧cap * sz≤arr.size∧l.length≤cap∧RL cells l H'
def fW(S:DB)(m:Bool):(t:Ty)→List Value→t.nw→fY→Prop
 |.int k,cs,d,H=>cs=[.int k d]∧H=[]
 |.bool,cs,d,H=>cs=[.bool d]∧H=[]
 |.str,cs,d,H=>cs=[kl d]∧H=[]
 |.slice t,cs,l,H=>if m=true then kf (RepL (fW S m t)) t.size cs l H else BR S (RepL (fW S m t)) cs l H
 |.aO a b,cs,d,H=>∃ c1 c2 H1 H2,cs=c1++c2∧H=H1++H2∧fW S m a c1 d.1 H1∧fW S m b c2 d.2 H2
 |.one a,cs,d,H=>fW S m a cs d H
 |.arr n t,cs,l,H=>RepL (fW S m t) cs l H∧l.length=n
section RepL
variable {α:Type} {R R':List Value→α→fY→Prop}
theorem RepL.imp(h:∀ c x H,R c x H→R' c x H):∀{cs:List Value} {l:List α} {H:fY},RepL R cs l H→RepL R' cs l H
 |_,[],_,hh=>hh
 |_,_::_,_,⟨c1,c2,H1,H2,e1,e2,r,rl⟩=>⟨c1,c2,H1,H2,e1,e2,h _ _ _ r,RepL.imp h rl⟩
theorem RepL.size{n:Nat}(hn:∀ c x H,R c x H→c.length=n):∀{cs:List Value} {l:List α} {H:fY},RepL R cs l H→cs.length=l.length * n
 |_,[],_,hh=>by rw[hh.1];simp
 |_,_::_,_,⟨c1,c2,H1,H2,e1,e2,r,rl⟩=>by have:=hn _ _ _ r;have:=RepL.size hn rl;rw[e1,ata,ara,bna];omega
theorem RepL.append:∀{cs cs':List Value} {l l':List α} {H H':fY},RepL R cs l H→RepL R cs' l' H'→RepL R (cs++cs') (l++l') (H++H')
 |_,cs',[],l',_,H',hh,hh'=>by obtain⟨rfl,rfl⟩:=hh;exact hh'
 |_,cs',_::_,l',_,H',⟨c1,c2,H1,H2,e1,e2,r,rl⟩,hh'=>
  ⟨c1,c2++cs',H1,H2++H',by rw[e1,a1a],by rw[e2,a1a],r,RepL.append rl hh'⟩
theorem RepL.at{n:Nat}(hn:∀ c x H,R c x H→c.length=n):∀{cs:List Value} {l:List α} {H:fY} {i:Nat} {x:α},RepL R cs l H→l[i]? = some x→
  ∃ pre c post Hp Hc Hq,cs=pre++(c++post)∧pre.length=i * n∧H=Hp++(Hc++Hq)∧R c x Hc∧
   ∀ c' x' Hc',R c' x' Hc'→RepL R (pre++(c'++post)) (l.set i x') (Hp++(Hc'++Hq))
 |_,[],_,i,x,_,hi=>by simp at hi
 |_,y::l,_,0,x,⟨c1,c2,H1,H2,e1,e2,r,rl⟩,hi=>by
  obtain rfl:y=x:=by simpa using hi
  exact⟨[],c1,c2,[],H1,H2,e1,by simp,e2,r,fun c' x' Hc' r'=>⟨c',c2,Hc',H2,rfl,rfl,r',rl⟩⟩
 |_,y::l,_,i+1,x,⟨c1,c2,H1,H2,e1,e2,r,rl⟩,hi=>by
  obtain⟨pre,c,post,Hp,Hc,Hq,f1,f2,f3,f4,f5⟩:=RepL.at hn rl (by simpa using hi)
  refine⟨c1++pre,c,post,H1++Hp,Hc,Hq,?_,?_,?_,f4,fun c' x' Hc' r'=>?_⟩
  ·rw[e1,f1,a1a]
  ·have:=hn _ _ _ r;rw[ata,f2,bna];omega
  ·rw[e2,f3,a1a]
  ·exact⟨c1,_,H1,_,by rw[a1a],by rw[a1a],r,f5 _ _ _ r'⟩
theorem RepL.split{n:Nat}(hn:∀ c x H,R c x H→c.length=n):∀{k:Nat} {cs:List Value} {l:List α} {H:fY},RepL R cs l H→k≤l.length→
  ∃ c1 c2 H1 H2,cs=c1++c2∧H=H1++H2∧c1.length=k * n∧RepL R c1 (l.take k) H1∧RepL R c2 (l.drop k) H2
 |0,cs,l,H,h,_=>⟨[],cs,[],H,rfl,rfl,by simp,⟨rfl,rfl⟩,h⟩
 |k+1,_,[],_,_,hk=>by simp at hk
 |k+1,_,y::l,_,⟨c1,c2,H1,H2,e1,e2,r,rl⟩,hk=>by
  obtain⟨d1,d2,K1,K2,f1,f2,f3,f4,f5⟩:=RepL.split hn rl (k:=k) (by simpa using hk)
  refine⟨c1++d1,d2,H1++K1,K2,by rw[e1,f1,a1a],by rw[e2,f2,a1a],?_,⟨c1,d1,H1,K1,rfl,rfl,r,f4⟩,f5⟩
  have:=hn _ _ _ r;rw[ata,f3,bna];omega
theorem RepL.ny(hR:∀ c x H,R c x H→H=[]):∀{cs:List Value} {l:List α} {H:fY},RepL R cs l H→H=[]
 |_,[],_,h=>h.2
 |_,_::_,_,⟨c1,c2,H1,H2,e1,e2,r,rl⟩=>by rw[e2,hR _ _ _ r,RepL.ny hR rl];rfl
theorem RepL.aex:∀{cs:List Value} {l:List α} {H:fY},RepL R cs l H→H=[]→RepL R cs l []
 |_,_,_,h,e=>e ▸ h
end RepL
theorem fW.size{S:DB}{m:Bool}:∀{t:Ty} {cs:List Value} {d:t.nw} {H:fY},fW S m t cs d H→cs.length=t.size
 |.int _,_,_,_,h=>by rw[h.1];rfl
 |.bool,_,_,_,h=>by rw[h.1];rfl
 |.str,_,_,_,h=>by rw[h.1];rfl
 |.slice t,cs,l,H,h=>by
  simp only[fW] at h;split at h
  ·rcases h with ⟨_,_,rfl⟩|⟨b,cap,arr,elem,cells,rest,H',rfl,_⟩<;>rfl
  ·rcases h with ⟨_,⟨_,iL,cap,rfl⟩|⟨b,cap,arr,elem,fz,pre,cells,rest,rfl,_⟩⟩<;>rfl
 |.aO a b,cs,d,H,h=>by obtain⟨c1,c2,H1,H2,rfl,rfl,h1,h2⟩:=h;have:=fW.size h1;have:=fW.size h2;simp only[Ty.size,ata];omega
 |.one a,cs,d,H,h=>by exact fW.size (t:=a) h
 |.arr n t,cs,l,H,h=>by have:=RepL.size (n:=t.size) (fun c x H hx=>fW.size hx) h.1;rw[this,h.2];rfl
theorem fW.mono{S S':DB}(hS:∀ b o,S b=some o→S' b=some o){m:Bool}:∀{t:Ty} {cs:List Value} {d:t.nw} {H:fY},fW S m t cs d H→fW S' m t cs d H
 |.int _,_,_,_,h=>h
 |.bool,_,_,_,h=>h
 |.str,_,_,_,h=>h
 |.slice t,cs,l,H,h=>by
  have ih:∀ c x H,fW S m t c x H→fW S' m t c x H:=fun c x H h=>fW.mono hS h;cases m with
  |true=>
   rcases h with h|⟨b,cap,arr,elem,cells,rest,H',e1,e2,e3,e4,e5,e6⟩
   ·exact .inl h
   ·exact .inr ⟨b,cap,arr,elem,cells,rest,H',e1,e2,e3,e4,e5,e6.imp ih⟩
  |false=>
   rcases h with ⟨hH,h|⟨b,cap,arr,elem,fz,pre,cells,rest,e1,e2,e3,e4,elc⟩⟩
   ·exact⟨hH,.inl h⟩
   ·exact⟨hH,.inr ⟨b,cap,arr,elem,fz,pre,cells,rest,e1,hS _ _ e2,e3,e4.imp ih,elc⟩⟩
 |.aO a b,cs,d,H,h=>by obtain⟨c1,c2,H1,H2,rfl,rfl,h1,h2⟩:=h;exact⟨c1,c2,H1,H2,rfl,rfl,h1.mono hS,h2.mono hS⟩
 |.one a,cs,d,H,h=>by exact fW.mono (t:=a) hS h
 |.arr n t,cs,l,H,h=>⟨RepL.imp (fun c x H hx=>fW.mono hS hx) h.1,h.2⟩
theorem fW.ny{S:DB}:∀{t:Ty} {cs:List Value} {d:t.nw} {H:fY},fW S false t cs d H→H=[]
 |.int _,_,_,_,h=>h.2
 |.bool,_,_,_,h=>h.2
 |.str,_,_,_,h=>h.2
 |.slice t,_,_,_,h=>h.1
 |.aO a b,_,_,_,h=>by obtain⟨c1,c2,H1,H2,rfl,rfl,h1,h2⟩:=h;rw[fW.ny h1,fW.ny h2];rfl
 |.one a,_,_,_,h=>by exact fW.ny (t:=a) h
 |.arr n t,cs,l,H,h=>RepL.ny (fun c x H hx=>fW.ny hx) h.1
theorem RepL.C6{α:Type}{R R':List Value→α→fY→Prop}{S':DB}(h:∀ c x H,(∀ p∈H,S' p.1=some p.2)→R c x H→R' c x []):
  ∀{cs:List Value} {l:List α} {H:fY},(∀ p∈H,S' p.1=some p.2)→RepL R cs l H→RepL R' cs l []
 |_,[],_,_,hh=>⟨hh.1,rfl⟩
 |_,_::_,_,hp,⟨c1,c2,H1,H2,e1,e2,r,rl⟩=>
  ⟨c1,c2,[],[],e1,rfl,h _ _ _ (fun p hm=>hp p (by rw[e2];exact axa _ hm)) r,
   RepL.C6 h (fun p hm=>hp p (by rw[e2];exact aoa _ hm)) rl⟩
theorem fW.C6{S S':DB}(hS:∀ b o,S b=some o→S' b=some o):∀{m:Bool} {t:Ty} {cs:List Value} {d:t.nw} {H:fY},
  (∀ p∈H,S' p.1=some p.2)→fW S m t cs d H→fW S' false t cs d []
 |_,.int _,_,_,_,_,h=>⟨h.1,rfl⟩
 |_,.bool,_,_,_,_,h=>⟨h.1,rfl⟩
 |_,.str,_,_,_,_,h=>⟨h.1,rfl⟩
 |m,.slice t,cs,l,H,hp,h=>by
  have ih:∀ c x H,(∀ p∈H,S' p.1=some p.2)→fW S m t c x H→fW S' false t c x []:=fun c x H hp h=>fW.C6 hS hp h;cases m with
  |true=>
   rcases h with ⟨rfl,rfl,rfl⟩|⟨b,cap,arr,elem,cells,rest,H',rfl,rfl,e3,e4,e5,e6⟩
   ·exact⟨rfl,.inl ⟨rfl,none,0,rfl⟩⟩
   ·exact⟨rfl,.inr ⟨b,cap,arr,elem,(0,0),[],cells,rest,rfl,hp (b,Obj.cells arr elem (0,0)) (aqa ..),e3,
    e6.C6 ih (fun p hm=>hp p (Q8 _ hm)),e5⟩⟩
  |false=>
   rcases h with ⟨rfl,h|⟨b,cap,arr,elem,fz,pre,cells,rest,e1,e2,e3,e4,elc⟩⟩
   ·exact⟨rfl,.inl h⟩
   ·exact⟨rfl,.inr ⟨b,cap,arr,elem,fz,pre,cells,rest,e1,hS _ _ e2,e3,e4.C6 ih (by simp),elc⟩⟩
 |m,.aO a b,cs,d,H,hp,h=>by obtain⟨c1,c2,H1,H2,rfl,rfl,h1,h2⟩:=h;exact⟨c1,c2,[],[],rfl,rfl,h1.C6 hS (fun p hm=>hp p (axa _ hm)),h2.C6 hS (fun p hm=>hp p (aoa _ hm))⟩
 |m,.one a,cs,d,H,hp,h=>by exact fW.C6 (t:=a) hS hp h
 |m,.arr n t,cs,l,H,hp,h=>⟨h.1.C6 (fun c x H hp hx=>fW.C6 hS hp hx) hp,h.2⟩
end Go.Fx
namespace Go.Fx
def bA{α:Type}(l:List α)(i:Int):Option α:=bif decide (0≤i) then l[i.toNat]? else none
def sub{α:Type}(l:List α)(i j:Int):Option (List α):=
 bif decide (0≤i)&&decide (i≤j)&&decide (j≤(l.length:Int)) then some ((l.take j.toNat).drop i.toNat) else none
def lA{α:Type}(l m:List α):Option (List α):=bif decide (l.length+m.length≤4294967296) then some (l++m) else none
def mkl{α:Type}(n:Int)(x:α):Option (List α):=bif decide (0≤n)&&decide (n≤4294967296) then some (List.replicate n.toNat x) else none
abbrev cm(x:Int):Int:=IntKind.i64.wrap x
def YO(op:BinOp)(k:IntKind)(x y:Int):Int:=
 k.wrap (match op with
  |.and=>(BitVec.ofInt k.bits x &&& BitVec.ofInt k.bits y).toNat
  |.or=>(BitVec.ofInt k.bits x ||| BitVec.ofInt k.bits y).toNat
  |.xor=>(BitVec.ofInt k.bits x ^^^ BitVec.ofInt k.bits y).toNat
  |_=>0)
inductive ag where
 |any|uZ|ur
 |eV (t:Ty) (d:t.nw)
 |nil|Kz
 |mA (a:Nat)
 |np (o off:Nat)
 |DT (a sz i off:Nat)
 |PK (t:Ty) (d:t.nw) (off:Nat)
 |fn (f:FuncId)
 |ga (t:Ty) (l:List t.nw)
 |Fb (a v sz i off:Nat)|nse (a v sz i off sz2 j TU:Nat)|L9 (a k n:Nat)
inductive ab where
 |one (l:ag)|agg (ls:List ag)|Lg (vs:List (Bool×List ag))|Ak (t:TypeId) (ls:List ag)
inductive Md where
 |dB|bK|Dp (i o:Nat)|mp|afj (i off:Nat)|arr
structure jG where
 t:Ty
 md:Md
 sh:Bool
 l:List t.nw
def jG.bK(A:jG):Bool:=match A.md with | .dB=>false|_=>true
def jG.pd(A:jG):Bool:=match A.md with | .dB=>true | .bK=>true|_=>false
def jG.Kv(x:Nat)(A:jG):Bool:=match A.md with | .Dp _ o=>Nat.beq o x|_=>false
def jG.nest(A:jG):Bool:=match A.md with | .bK=>true | .afj _ _=>true|_=>false
def jG.Vd(A:jG):Bool:=match A.md with | .mp=>true | .arr=>true|_=>false
structure St where
 n:Nat
 et:List (Nat×ab)
 cg:List (Nat×List ag)
 cM:List (Nat×jG)
 jh:List (Nat×ab)
 cD:List (Nat×Nat×ag)
 fK:List (Nat×jG)
 pin:List Nat
 ER:List (Nat×Nat)
def eU:Nat→List Nat→Bool
 |_,[]=>false
 |x,y::r=>Nat.beq x y||eU x r
def look{α:Type}:List (Nat×α)→Nat→Option α
 |[],_=>none
 |(k,v)::r,i=>bif Nat.beq k i then some v else look r i
def dV:List (Nat×Nat×ag)→Nat→Nat→Option ag
 |[],_,_=>none
 |(o,j,l)::r,o',j'=>bif Nat.beq o o'&&Nat.beq j j' then some l else dV r o' j'
def F7{α:Type}:List (Nat×α)→Nat→List (Nat×α)
 |[],_=>[]
 |(k,v)::r,i=>bif Nat.beq k i then F7 r i else(k,v)::F7 r i
def St.ib(st:St)(i:Nat):Option ab:=(match look st.et i with|some v=>some v|none=>look st.jh i)
def St.dL(st:St)(o:Nat):Option (List ag):=look st.cg o
def St.dA(st:St)(a:Nat):Nat:=(match look st.ER a with|some v=>v|none=>0)
def St.arr(st:St)(a:Nat):Option jG:=(match look st.cM a with|some v=>some v|none=>look st.fK a)
def St.res(st:St)(o j:Nat):ag→ag
 |.ur=>(match dV st.cD o j with|some l=>l|none=>.any)
 |l=>l
def St.jV(st:St)(o:Nat):Nat→List ag→List ag
 |_,[]=>[]
 |j,l::r=>st.res o j l::St.jV st o (j+1) r
def St.jX(st:St)(i:Nat)(v:ab):St:={st with et:=(i,v)::st.et}
def St.qk(st:St)(o:Nat)(ls:List ag):St:={st with cg:=(o,ls)::st.cg}
def St.gE(st:St)(a:Nat)(A:jG):St:={st with cM:=(a,A)::st.cM}
def ag.cZ(k:Bool)(x:Nat):ag→Bool
 |.mA a=>k&&Nat.beq a x
 |.DT a _ _ _=>k&&Nat.beq a x
 |.Fb a _ _ _ _=>k&&Nat.beq a x
 |.nse a _ _ _ _ _ _ _=>k&&Nat.beq a x
 |.L9 a _ _=>k&&Nat.beq a x
 |.np o _=>!k&&Nat.beq o x
 |_=>false
def ab.cZ(k:Bool)(x:Nat):ab→Bool
 |.one l=>l.cZ k x
 |.agg ls=>ls.any (ag.cZ k x)
 |.Lg vs=>vs.any fun p=>p.2.any (ag.cZ k x)
 |.Ak _ ls=>ls.any (ag.cZ k x)
def St.cZ(st:St)(k:Bool)(x:Nat):Bool:=
 st.et.any (fun p=>p.2.cZ k x)||st.jh.any (fun p=>p.2.cZ k x)||st.cg.any (fun p=>p.2.any (ag.cZ k x))||st.cD.any (fun p=>p.2.2.cZ k x) ||
  (!k&&(st.cM.any (fun p=>p.2.Kv x)||st.fK.any (fun p=>p.2.Kv x)))
def ab.bN:ab→ag
 |.one l=>l
 |_=>.any
def jO:(t:Ty)→t.nw→List ag
 |.int k,d=>[.eV (.int k) d]
 |.bool,d=>[.eV .bool d]
 |.str,d=>[.eV .str d]
 |.slice t,d=>[.eV (.slice t) d]
 |.aO a b,d=>jO a d.1++jO b d.2
 |.one a,d=>jO a d
 |.arr _ t,l=>l.flatMap (jO t)
def ag.wh(st:St)(t:Ty):ag→Option t.nw
 |.eV u d=>vf u t d
 |.nil=>(match t with | .slice _=>some []|_=>none)
 |.mA a=>(match st.arr a with|some A=>(if A.sh then vf (.slice A.t) t A.l else none)|none=>none)
 |_=>none
def Qj{α:Type}(f:List ag→Option (α×List ag)):Nat→List ag→Option (List α×List ag)
 |0,ls=>some ([],ls)
 |n+1,ls=>(match f ls with
  |some (x,r)=>(match Qj f n r with|some (xs,r')=>some (x::xs,r')|none=>none)
  |none=>none)
def o8(st:St):(t:Ty)→List ag→Option (t.nw×List ag)
 |.int k,ls=>(match ls with|[]=>none|l::r=>(l.wh st (.int k)).map fun d=>(d,r))
 |.bool,ls=>(match ls with|[]=>none|l::r=>(l.wh st .bool).map fun d=>(d,r))
 |.str,ls=>(match ls with|[]=>none|l::r=>(l.wh st .str).map fun d=>(d,r))
 |.slice t,ls=>(match ls with|[]=>none|l::r=>(l.wh st (.slice t)).map fun d=>(d,r))
 |.aO a b,ls=>(match o8 st a ls with
  |some (x,r)=>(match o8 st b r with|some (y,r')=>some ((x,y),r')|none=>none)
  |none=>none)
 |.one a,ls=>o8 st a ls
 |.arr n t,ls=>Qj (o8 st t) n ls
def ab.wh(st:St)(t:Ty):ab→Option t.nw
 |.one l=>l.wh st t
 |.agg ls=>(bif t.agg then(match o8 st t ls with|some (d,[])=>some d|_=>none) else none)
 |_=>none
def ag.cell:ag→Bool
 |.any=>false
 |.uZ=>false
 |.ur=>false
 |.eV t _=>!t.agg
 |_=>true
def ag.py:ag→Bool
 |.ur=>true
 |_=>false
def ab.pH:ab→Option (List ag)
 |.one (.eV (.aO a b) d)=>some (jO (.aO a b) d)
 |.one (.eV (.one a) d)=>some (jO (.one a) d)
 |.one (.eV (.arr n a) d)=>some (jO (.arr n a) d)
 |.one l=>(bif l.cell then some [l] else none)
 |.agg ls=>some ls
 |_=>none
def St.yT(st:St):ag→Option St
 |.mA a=>(match look st.cM a with
  |some A=>(bif A.sh then some st else bif A.pd then some (st.gE a {A with sh:=true}) else none)
  |none=>(match look st.fK a with|some A=>(bif A.sh then some st else none)|none=>none))
 |_=>some st
def St.uK(st:St):List ag→Option St
 |[]=>some st
 |l::r=>(match st.yT l with|some st'=>st'.uK r|none=>none)
def ab.qn(st:St):ab→Option St
 |.one l=>st.yT l
 |.agg ls=>st.uK ls
 |.Lg _=>none
 |.Ak _ ls=>st.uK ls
def Mo:Value→ab
 |.int k n=>.one (.eV (.int k) n)
 |.bool b=>.one (.eV .bool b)
 |.string s=>.one (.eV .str s.data.toList)
 |.slice none 0 0=>.one .nil
 |.pointer none=>.one .Kz
 |_=>.one .any
def vH:Value→ag
 |.int k n=>.eV (.int k) n
 |.bool b=>.eV .bool b
 |.string s=>.eV .str s.data.toList
 |.slice none 0 0=>.nil
 |.pointer none=>.Kz
 |_=>.any
def Ty.yK:Ty→Bool
 |.int _=>true | .bool=>true | .str=>true | .slice _=>false | .aO a b=>a.yK&&b.yK | .one a=>a.yK | .arr _ t=>t.yK
def Ty.rE:Ty→Bool
 |.arr _ _=>false | .aO a b=>a.rE&&b.rE | .one a=>a.rE|_=>true
def RX(t:Ty):Md:=bif t.yK then .dB else .bK
def Md.lj:Md→Md→Bool
 |.dB,.dB=>true
 |.bK,.bK=>true
 |.mp,.mp=>true
 |.arr,.arr=>true
 |_,_=>false
def kW:List Nat→List (Nat×jG)→List (Nat×jG)
 |[],l=>l
 |a::r,l=>kW r (F7 l a)
def nX:List Nat→Bool
 |[]=>true
 |x::r=>!eU x r&&nX r
def LY(a v off:Nat):Nat:=1000000000000000000+a * 1000000+v * 1000+off
def obN(a v:Nat):Nat:=2000000000000000000+a * 1000+v
def HC(nm:Nat→Nat):(t:Ty)→t.nw→Nat→List ag
 |.int k,d,_=>[.eV (.int k) d]
 |.bool,d,_=>[.eV .bool d]
 |.str,d,_=>[.eV .str d]
 |.slice _,_,off=>[.mA (nm off)]
 |.aO a b,d,off=>HC nm a d.1 off++HC nm b d.2 (off+a.size)
 |.one a,d,off=>HC nm a d off
 |.arr _ _,_,_=>[]
def zf(nm:Nat→Nat):(t:Ty)→t.nw→Nat→List (Nat×jG)
 |.slice u,d,off=>[(nm off,⟨u,RX u,false,d⟩)]
 |.aO a b,d,off=>zf nm a d.1 off++zf nm b d.2 (off+a.size)
 |.one a,d,off=>zf nm a d off
 |_,_,_=>[]
def U5(a v sz i:Nat):(t:Ty)→t.nw→Nat→List ag
 |.int k,d,_=>[.eV (.int k) d]
 |.bool,d,_=>[.eV .bool d]
 |.str,d,_=>[.eV .str d]
 |.slice _,_,off=>[.Fb a v sz i off]
 |.aO t u,d,off=>U5 a v sz i t d.1 off++U5 a v sz i u d.2 (off+t.size)
 |.one t,d,off=>U5 a v sz i t d off
 |.arr _ _,_,_=>[]
def C7:(t:Ty)→t.nw→Nat→Option Int
 |.slice _,d,0=>some (d.length:Int)
 |.aO a b,d,off=>bif Nat.blt off a.size then C7 a d.1 off else C7 b d.2 (off - a.size)
 |.one a,d,off=>C7 a d off
 |_,_,_=>none
def Ub(st:St)(u:Ty):ag→Option (List u.nw×List Nat)
 |.nil=>some ([],[])
 |.mA a=>(match look st.cM a with
  |some A=>(bif A.sh||!A.md.lj (RX u)||eU a st.pin ||(look st.fK a).isSome then none else(match vf (.slice A.t) (.slice u) A.l with|some l=>some (l,[a])|none=>none))
  |none=>none)
 |_=>none
def HE(st:St):(t:Ty)→List ag→Option (t.nw×List ag×List Nat)
 |.int k,ls=>(match ls with|[]=>none|l::r=>(l.wh st (.int k)).map fun d=>(d,r,[]))
 |.bool,ls=>(match ls with|[]=>none|l::r=>(l.wh st .bool).map fun d=>(d,r,[]))
 |.str,ls=>(match ls with|[]=>none|l::r=>(l.wh st .str).map fun d=>(d,r,[]))
 |.slice u,ls=>(match ls with|[]=>none|l::r=>(Ub st u l).map fun p=>(p.1,r,p.2))
 |.aO a b,ls=>(match HE st a ls with
  |some (x,r,c)=>(match HE st b r with|some (y,r',c')=>some ((x,y),r',c++c')|none=>none)
  |none=>none)
 |.one a,ls=>HE st a ls
 |.arr _ _,_=>none
def qs(a v sz:Nat):ag→ag
 |.Fb a' v' sz' i' off=>bif Nat.beq a' a&&Nat.beq v' v&&Nat.beq sz' sz&&Nat.blt off sz then .mA (LY a v off) else .Fb a' v' sz' i' off
 |l=>l
def wF(a v sz i:Nat):List ag→Bool
 |[]=>true
 |.Fb a' v' sz' i' off::r=>bif Nat.beq a' a&&Nat.beq v' v&&Nat.beq sz' sz&&Nat.blt off sz then Nat.beq i' i&&wF a v sz i r else wF a v sz i r
 |_::r=>wF a v sz i r
def UE(a v sz i:Nat):List (Nat×List ag)→Bool
 |[]=>true
 |p::r=>wF a v sz i p.2&&UE a v sz i r
def pF{α:Type}:List (Nat×α)→List Nat→List (Nat×α)
 |[],_=>[]
 |p::r,L6=>bif eU p.1 L6 then pF r L6 else p::pF r (p.1::L6)
section nest
variable {R:Type}
def FU(st:St)(a i o:Nat)(K:St→Option R):Option R:=
 match look st.cM a with
 |some A=>(match A.md with
  |.bK=>(bif A.sh ||(st.dL o).isSome||st.cZ false o||!A.t.rE then none else
   (bA A.l (i:Int)).bind fun x=>
    (bif nX ((zf (LY a (st.dA a)) A.t x 0).map (·.1))&&(zf (LY a (st.dA a)) A.t x 0).all (fun p=>(st.arr p.1).isNone&&!st.cZ true p.1) then
     K {st with cM:=(a,{A with md:=.Dp i o})::(zf (LY a (st.dA a)) A.t x 0++st.cM),cg:=(o,HC (LY a (st.dA a)) A.t x 0)::st.cg} else none))
  |_=>none)
 |none=>none
def BF(st:St)(a sz i:Nat)(K:St→Option R):Option R:=
 bif UE a (st.dA a) sz i (pF st.cg []) then K {st with cg:=(pF st.cg []).map fun p=>(p.1,p.2.map (qs a (st.dA a) sz))} else none
def A0(st:St)(a o:Nat)(K:St→Option R):Option R:=
 match look st.cM a,st.dL o with
 |some A,some ls=>(match A.md with
  |.Dp i o'=>(bif Nat.beq o o'&&!A.sh then(match HE st A.t ls with
   |some (x,[],c)=>(bif nX c&&!eU a c then
    K {st with cM:=(a,⟨A.t,.bK,false,A.l.set i x⟩)::kW (a::c) st.cM,cg:=F7 st.cg o,ER:=(a,st.dA a+1)::st.ER} else none)
   |_=>none) else none)
  |_=>none)
 |_,_=>none
end nest
inductive TD where
 |int (k:IntKind)|bool|str|slice (e:TypeId)|struct (fs:List (Nat×TypeId))|np (e:TypeId)|arr (n:Nat) (e:TypeId)|mp (k v:TypeId)|aac
structure TI where
 size:Nat
 bytes:Nat
 ty:Option Ty
 iz:TD
 zero:List Value
inductive pO where
 |o (ob off n:Nat)|a (ar:Nat)|k (ob:Nat)|all
structure iX where
 run:{R:Type}→Nat→List ab→St→(ab→St→Option R)→(ab→St→Option R)→Option R
 LH:List ab→St→List pO
structure lm where
 run:{R:Type}→St→(Exit→St→Option R)→(ab→St→Option R)→Option R
structure GA where
 t:Ty
 l:List t.nw
structure sb where
 gt:Nat→Option GA
 ia:Nat→Option TI
 BA:Nat→Option iX
 od:Nat→Option lm
 aaa:Nat→Nat
def ev(E:sb)(st:St):Operand→ab
 |.tmp t=>(match st.ib t with|some v=>v|none=>.one .any)
 |.const v=>Mo v
 |.func f=>.one (.fn f)
 |.global g=>(match E.gt g with|some D=>.one (.ga D.t D.l)|none=>.one .any)
def oH{R:Type}(dst:Option Tmp)(v:ab)(st:St)(K:St→Option R):Option R:=
 match dst with
 |none=>K st
 |some d=>bif (look st.jh d).isSome||Nat.ble st.n d then none else K (st.jX d v)
def qo(l:List ag)(off n:Nat):Option (List ag):=bif Nat.ble (off+n) l.length then some ((l.drop off).take n) else none
def mo{α:Type}(l:List α)(off:Nat)(v:List α):List α:=l.take off++(v++l.drop (off+v.length))
def Ex(agg:Bool)(ls:List ag):ab:=bif agg then .agg ls else(match ls with|[l]=>.one l|_=>.one .any)
def TD.agg:TD→Bool
 |.struct _=>true
 |.arr _ _=>true
 |_=>false
def Kw:List Kd→List ag→Bool
 |[],[]=>true
 |.int k::r,.eV (.int k') _::s=>decide (k=k')&&Kw r s
 |.bool::r,.eV .bool _::s=>Kw r s
 |.str::r,.eV .str _::s=>Kw r s
 |_,_=>false
def abd:ag→ag→Option Bool
 |.eV (.int _) a,.eV (.int _) b=>some (a==b)
 |.eV .bool a,.eV .bool b=>some (a==b)
 |.eV .str a,.eV .str b=>some (a==b)
 |_,_=>none
def RD:List ag→List ag→Option Bool
 |[x],[y]=>abd x y
 |x::r,y::s=>(match abd x y,RD r s with|some a,some b=>some (a&&b)|_,_=>none)
 |_,_=>none
section exec
variable (E:sb) {R:Type}
def yM(T:TypeId)(x:ab)(st:St)(K:ab→St→Option R):Option R:=
 match E.ia T with
 |none=>none
 |some ti=>
  match x.bN with
  |.np o off=>(match st.dL o with
   |some ls=>(match qo (st.jV o 0 ls) off ti.size with|some c=>K (Ex ti.iz.agg c) st|none=>none)
   |none=>none)
  |.PK t d off=>(match qo (jO t d) off ti.size with|some c=>K (Ex ti.iz.agg c) st|none=>none)
  |.ga t l=>(match ti.iz with
   |.arr n _=>(bif Nat.beq l.length n&&Nat.beq ti.size (n * t.size) then K (.one (.eV (.arr n t) l)) st else none)
   |_=>none)
  |.DT a sz i off=>(match st.arr a with
   |some A=>(bif A.sh||!Nat.beq sz A.t.size then none else(match A.md with
    |.dB=>(bA A.l (i:Int)).bind fun x=>match qo (jO A.t x) off ti.size with|some c=>K (Ex ti.iz.agg c) st|none=>none
    |.bK=>(bif A.t.rE then(bA A.l (i:Int)).bind fun x=>match qo (U5 a (st.dA a) A.t.size i A.t x 0) off ti.size with|some c=>K (Ex ti.iz.agg c) st|none=>none else none)
    |_=>none))
   |none=>none)
  |.L9 a k _=>(match st.arr a with
   |some A=>(bif !A.sh&&Md.lj A.md .arr&&Nat.beq A.t.size 1&&!A.t.agg&&Nat.beq ti.size 1&&!ti.iz.agg then(bA A.l (k:Int)).bind fun x=>K (.one (.eV A.t x)) st else none)
   |none=>none)
  |_=>none
def xd(T:TypeId)(x v:ab)(st:St)(K:St→Option R):Option R:=
 match E.ia T,v.pH with
 |some ti,some vs=>
  bif Nat.beq vs.length ti.size&&vs.all ag.cell then
   (match x.bN with
   |.np o off=>(match st.dL o with
    |some ls=>(match qo ls off ti.size with
     |some c=>(bif c.any ag.py then none else K (st.qk o (mo ls off vs)))
     |none=>none)
    |none=>none)
   |.DT a sz i off=>(match st.uK vs with
    |none=>none
    |some st'=>(match look st'.cM a with
     |some A=>(bif A.bK||A.sh||!Nat.beq sz A.t.size then none else
      (bA A.l (i:Int)).bind fun x=>(bif Nat.ble (off+ti.size) A.t.size then(match o8 st' A.t (mo (jO A.t x) off vs) with
       |some (x',[])=>K (st'.gE a {A with l:=A.l.set i x' })
       |_=>none) else none))
     |none=>none))
   |_=>none)
  else none
 |_,_=>none
def nL(T:TypeId)(x:ab)(f:Nat)(st:St)(K:ab→St→Option R):Option R:=
 match E.ia T with
 |some {iz:=.struct fs,.. }=>(match fs[f]? with
  |some (Y7,ft)=>(match E.ia ft with
   |some fi=>(bif Nat.beq fi.size 0 then none else match x.bN with
    |.np o off=>K (.one (.np o (off+Y7))) st
    |.PK t d off=>K (.one (.PK t d (off+Y7))) st
    |.DT a sz i off=>K (.one (.DT a sz i (off+Y7))) st
    |_=>none)
   |none=>none)
  |none=>none)
 |_=>none
def wZ(T:TypeId)(x:ab)(f:Nat)(st:St)(K:ab→St→Option R):Option R:=
 match E.ia T,x.pH with
 |some {iz:=.struct fs,.. },some ls=>(match fs[f]? with
  |some (Y7,ft)=>(match E.ia ft with
   |some fi=>(match qo ls Y7 fi.size with|some c=>K (Ex fi.iz.agg c) st|none=>none)
   |none=>none)
  |none=>none)
 |_,_=>none
def ab.isAgg:ab→Bool
 |.agg _=>true
 |.one (.eV (.aO _ _) _)=>true
 |.one (.eV (.one _) _)=>true
 |.one (.eV (.arr _ _) _)=>true
 |_=>false
def ab.FO:ab→Option (IntKind×Int)
 |.one (.eV (.int k) d)=>some (k,d)
 |_=>none
def ab.F4:ab→Option Bool
 |.one (.eV .bool d)=>some d
 |_=>none
def ab.OB:ab→Option ak
 |.one (.eV .str d)=>some d
 |_=>none
def mn(T:TypeId)(x i:ab)(st:St)(K:ab→St→Option R):Option R:=
 match E.ia T,i.FO with
 |some {iz:=.slice e,.. },some (_,n)=>(match E.ia e with
  |some ei=>(match x.bN with
   |.eV (.slice t) l=>(bif Nat.beq ei.size t.size then(bA l n).bind fun d=>K (.one (.PK t d 0)) st else none)
   |.mA a=>(match st.arr a with
    |some A=>(bif Nat.beq ei.size A.t.size&&!A.Vd then(bA A.l n).bind fun d=>(bif A.sh then K (.one (.PK A.t d 0)) st else K (.one (.DT a A.t.size n.toNat 0)) st) else none)
    |none=>none)
   |_=>none)
  |none=>none)
 |some {iz:=.arr m e,.. },some (_,n)=>(match E.ia e with
  |some ei=>(match x.bN with
   |.mA a=>(match st.arr a with
    |some A=>(bif !A.sh&&Md.lj A.md .arr then(bif decide (0≤n)&&decide (n<(m:Int)) then K (.one (.L9 a (n.toNat * ei.size) ei.size)) st else none) else none)
    |none=>none)
   |.L9 a k _=>(bif decide (0≤n)&&decide (n<(m:Int)) then K (.one (.L9 a (k+n.toNat * ei.size) ei.size)) st else none)
   |_=>none)
  |none=>none)
 |_,_=>none
def xa(T:TypeId)(x i:ab)(st:St)(K:ab→St→Option R):Option R:=
 match E.ia T with
 |some {iz:=.str,.. }=>(match x.OB,i.FO with
  |some s,some (_,n)=>(bA s n).bind fun b=>K (.one (.eV (.int .u8) (b.toNat:Int))) st
  |_,_=>none)
 |some {iz:=.arr m e,.. }=>(match x,i.FO,E.ia e with
  |.one (.eV (.arr m' t) l),some (_,n),some ei=>(bif Nat.beq m m'&&Nat.beq ei.size t.size&&(bif t.agg then ei.iz.agg else !ei.iz.agg) then(bA l n).bind fun d=>K (.one (.eV t d)) st else none)
  |_,_,_=>none)
 |_=>none
def m9(d:Int):Option ab→Option Int
 |none=>some d
 |some v=>v.FO.map (·.2)
def tI(T:TypeId)(dst:Nat)(x:ab)(lo hi mx:Option ab)(st:St)(K:ab→St→Option R):Option R:=
 match E.ia T,mx with
 |some {iz:=.str,.. },none=>(match x.OB with
  |some s=>(match m9 0 lo,m9 (s.length:Int) hi with
   |some i,some j=>(sub s i j).bind fun r=>K (.one (.eV .str r)) st
   |_,_=>none)
  |none=>none)
 |some {iz:=.slice e,.. },none=>(match E.ia e with
  |some ei=>(match x.bN with
   |.eV (.slice t) l=>(bif Nat.beq ei.size t.size then(match m9 0 lo,m9 (l.length:Int) hi with
    |some i,some j=>(sub l i j).bind fun r=>K (.one (.eV (.slice t) r)) st
    |_,_=>none) else none)
   |.mA a=>(match st.arr a with
    |some A=>(bif Nat.beq ei.size A.t.size then
     (bif A.sh then(match m9 0 lo,m9 (A.l.length:Int) hi with
      |some i,some j=>(sub A.l i j).bind fun r=>K (.one (.eV (.slice A.t) r)) st
      |_,_=>none)
     else(match lo,hi with
      |none,some h=>(match h.FO with
       |some (_,j)=>(bif A.bK ||(look st.cM a).isNone ||(look st.fK a).isSome ||(st.arr dst).isSome||st.cZ true dst||eU a st.pin then none else(sub A.l 0 j).bind fun r=>
        K (.one (.mA dst)) {st with cM:=(dst,{A with l:=r})::F7 st.cM a})
       |none=>none)
      |_,_=>none)) else none)
    |none=>none)
   |_=>none)
  |none=>none)
 |_,_=>none
def K5(op:BinOp)(T:TypeId)(x y:ab)(K:ab→Option R):Option R:=
 match x,y with
 |.one (.eV (.int k) a),.one (.eV (.int k') b)=>
  (match op with
  |.shl=>bif decide (b<0) then none else K (.one (.eV (.int k) (k.wrap (a * 2 ^ (min b.toNat k.bits)))))
  |.shr=>bif decide (b<0) then none else K (.one (.eV (.int k) (a.fdiv (2 ^ (min b.toNat k.bits)))))
  |_=>bif !decide (k=k') then none else
   (match op with
   |.add=>K (.one (.eV (.int k) (k.wrap (a+b))))
   |.sub=>K (.one (.eV (.int k) (k.wrap (a - b))))
   |.mul=>K (.one (.eV (.int k) (k.wrap (a * b))))
   |.quo=>bif decide (b=0) then none else K (.one (.eV (.int k) (k.wrap (a.tdiv b))))
   |.rem=>bif decide (b=0) then none else K (.one (.eV (.int k) (a.tmod b)))
   |.and=>K (.one (.eV (.int k) (YO .and k a b)))
   |.or=>K (.one (.eV (.int k) (YO .or k a b)))
   |.xor=>K (.one (.eV (.int k) (YO .xor k a b)))
   |.eql=>K (.one (.eV .bool (a==b)))
   |.neq=>K (.one (.eV .bool (a != b)))
   |.lss=>K (.one (.eV .bool (decide (a<b))))
   |.leq=>K (.one (.eV .bool (decide (a≤b))))
   |.gtr=>K (.one (.eV .bool (decide (a > b))))
   |.geq=>K (.one (.eV .bool (decide (a≥b))))
   |_=>none))
 |.one (.eV .str a),.one (.eV .str b)=>
  (match op with
  |.add=>(lA a b).bind fun c=>K (.one (.eV .str c))
  |.eql=>K (.one (.eV .bool (a==b)))
  |.neq=>K (.one (.eV .bool (!(a==b))))
  |_=>none)
 |.one (.eV .bool a),.one (.eV .bool b)=>
  (match E.ia T,op with
  |some {iz:=.bool,.. },.eql=>K (.one (.eV .bool (a==b)))
  |some {iz:=.bool,.. },.neq=>K (.one (.eV .bool (!(a==b))))
  |_,_=>none)
 |x,y=>(match E.ia T,x.pH,y.pH with
  |some ti,some ls,some ms=>(match ti.ty.bind Ks with
   |some ks=>(bif ti.iz.agg&&x.isAgg&&y.isAgg&&Kw ks ls&&Kw ks ms then(match op,RD ls ms with
    |.eql,some e=>K (.one (.eV .bool e))
    |.neq,some e=>K (.one (.eV .bool (!e)))
    |_,_=>none) else none)
   |none=>none)
  |_,_,_=>none)
def T8(op:UnOp)(x:ab)(K:ab→Option R):Option R:=
 match op,x with
 |.neg,.one (.eV (.int k) a)=>K (.one (.eV (.int k) (k.wrap (0 - a))))
 |.not,.one (.eV .bool b)=>K (.one (.eV .bool (!b)))
 |_,_=>none
def pE(S D:TypeId)(x:ab)(st:St)(K:ab→St→Option R):Option R:=
 match E.ia S,E.ia D with
 |some si,some di=>(match si.iz,di.iz,x with
  |_,.int k,.one (.eV (.int _) n)=>K (.one (.eV (.int k) (k.wrap n))) st
  |.str,.str,.one (.eV .str s)=>K (.one (.eV .str s)) st
  |.slice e,.str,.one l=>(match E.ia e,l with
   |some {iz:=.int .u8,.. },.eV (.slice (.int .u8)) l=>K (.one (.eV .str (l.map fun n=>UInt8.ofNat n.toNat))) st
   |some {iz:=.int .u8,.. },.mA a=>(match st.arr a with
    |some A=>(bif A.sh||A.pd then(match vf (.slice A.t) (.slice (.int .u8)) A.l with
     |some l=>K (.one (.eV .str (l.map fun n=>UInt8.ofNat n.toNat))) st
     |none=>none) else none)
    |none=>none)
   |_,_=>none)
  |_,_,_=>none)
 |_,_=>none
def ut(fs:List (Nat×TypeId))(zs:List ag):List (Nat×ab)→Option (List ag)
 |[]=>some zs
 |(i,v)::r=>(match fs[i]?,v.pH with
  |some (off,t),some ls=>(match E.ia t with
   |some ti=>(bif Nat.beq ls.length ti.size&&Nat.ble (off+ls.length) zs.length then ut fs (mo zs off ls) r else none)
   |none=>none)
  |_,_=>none)
def wY(T:TypeId)(hZ:List (Nat×ab))(st:St)(K:ab→St→Option R):Option R:=
 match E.ia T with
 |some ti=>(match ti.iz with
  |.struct fs=>(bif fs.all fun p=>(E.ia p.2).isSome then(match ut E fs (ti.zero.map vH) hZ with|some ls=>K (.agg ls) st|none=>none) else none)
  |_=>none)
 |none=>none
def mQ(t:Ty):Nat→List (Nat×ab)→St→Option (List t.nw×St)
 |_,[],st=>some ([],st)
 |i,(j,v)::r,st=>bif Nat.beq i j then(match v.qn st with
  |some st'=>(match v.wh st' t with
   |some d=>(match mQ t (i+1) r st' with|some (l,ag8)=>some (d::l,ag8)|none=>none)
   |none=>none)
  |none=>none) else none
def sb.KT(dst:Nat):Bool:=Nat.beq (E.aaa dst) 9999
def tO(t:Ty):Nat→List (Nat×ab)→St→Option (List t.nw×List Nat)
 |_,[],_=>some ([],[])
 |i,(j,v)::r,st=>bif Nat.beq i j then(match v.pH with
  |some ls=>(match HE st t ls with
   |some (d,[],c)=>(match tO t (i+1) r st with|some (l,c')=>some (d::l,c++c')|none=>none)
   |_=>none)
  |none=>none) else none
def kN(T:TypeId)(dst len:Nat)(hZ:List (Nat×ab))(st:St)(K:ab→St→Option R):Option R:=
 match E.ia T with
 |some {iz:=.slice e,.. }=>(match E.ia e with
  |some ei=>(match ei.ty with
   |some t=>(bif Nat.beq len hZ.length&&Nat.beq ei.size t.size&&Nat.ble (len * ei.size) 16777216 then
    (match tO t 0 hZ st,st.arr dst with
    |some (l,c),none=>(bif st.cZ true dst||!nX c then none else K (.one (.mA dst)) {st with cM:=(dst,⟨t,.bK,false,l⟩)::kW c st.cM})
    |_,_=>none) else none)
   |none=>none)
  |none=>none)
 |_=>none
def mi(T:TypeId)(dst len:Nat)(hZ:List (Nat×ab))(st:St)(K:ab→St→Option R):Option R:=
 match E.ia T with
 |some {iz:=.slice e,.. }=>(match E.ia e with
  |some ei=>(match ei.ty with
   |some t=>(bif Nat.beq len hZ.length&&Nat.beq ei.size t.size&&Nat.ble (len * ei.size) 16777216 then
    (match mQ t 0 hZ st with
    |some (l,st')=>(match st'.arr dst with
     |none=>(bif st'.cZ true dst then none else K (.one (.mA dst)) (st'.gE dst ⟨t,.dB,false,l⟩))
     |some _=>none)
    |none=>none) else none)
   |none=>none)
  |none=>none)
 |_=>none
def pJ:(t:Ty)→t.nw
 |.int _=>0 | .bool=>false | .str=>[] | .slice _=>[] | .aO a b=>(pJ a,pJ b) | .one a=>pJ a | .arr n t=>List.replicate n (pJ t)
def Na(f:List Value→Option (List Value)):Nat→List Value→Option (List Value)
 |0,l=>some l
 |n+1,l=>(match f l with|some r=>Na f n r|none=>none)
def sY:(t:Ty)→List Value→Option (List Value)
 |.int k,.int k' n::r=>bif decide (k=k')&&decide (n=0) then some r else none
 |.bool,.bool false::r=>some r
 |.str,.string s::r=>(match s.data.toList with|[]=>some r|_=>none)
 |.slice _,.slice none 0 0::r=>some r
 |.aO a b,l=>(match sY a l with|some r=>sY b r|none=>none)
 |.one a,l=>sY a l
 |.arr n t,l=>Na (sY t) n l
 |_,_=>none
def nM(T:TypeId)(dst:Nat)(len cap:ab)(st:St)(K:ab→St→Option R):Option R:=
 match E.ia T,len.FO,cap.FO with
 |some {iz:=.slice e,.. },some (.i64,n),some (.i64,c)=>(match E.ia e with
  |some ei=>(match ei.ty,st.arr dst with
   |some t,none=>(bif Nat.beq ei.size t.size&&Nat.ble ei.bytes 16384&&!st.cZ true dst&&(match sY t ei.zero with|some []=>true|_=>false) then
    (mkl c (pJ t)).bind fun z=>(sub z 0 n).bind fun l=>K (.one (.mA dst)) (st.gE dst ⟨t,bif E.KT dst then .bK else .dB,false,l⟩) else none)
   |_,_=>none)
  |none=>none)
 |_,_,_=>none
def Gi(T:TypeId)(o:Nat)(ls:List ag)(st:St)(K:ab→St→Option R):Option R:=
 match E.ia T,st.dL o with
 |some ti,none=>(bif Nat.beq ls.length ti.size&&!ls.any ag.py&&!st.cZ false o&&!ls.any (ag.cZ false o) then K (.one (.np o 0)) (st.qk o ls) else none)
 |_,_=>none
def ZH{α:Type}:Option (List α)→Bool
 |some []=>true
 |_=>false
def rF(T:TypeId)(dst:Nat)(st:St)(K:ab→St→Option R):Option R:=
 match E.ia T,st.arr dst with
 |some ti,none=>(match ti.iz with
  |.arr _ e=>(match (E.ia e).bind fun ei=>(match ei.iz with | .arr _ e'=>(E.ia e').bind (·.ty)|_=>ei.ty) with
   |some t=>(bif Nat.beq t.size 1&&!t.agg&&!st.cZ true dst&&ZH (Na (sY t) ti.size ti.zero) then
    K (.one (.mA dst)) (st.gE dst ⟨t,.arr,false,List.replicate ti.size (pJ t)⟩) else none)
   |none=>none)
  |_=>none)
 |_,_=>none
def lenOf(st:St):ag→Option Int
 |.eV .str s=>some (s.length:Int)
 |.eV (.slice _) l=>some (l.length:Int)
 |.nil=>some 0
 |.mA a=>(match st.arr a with|some A=>(bif A.Vd then none else some (A.l.length:Int))|none=>none)
 |_=>none
def rG(T:TypeId)(dst:Nat)(s x:ab)(st:St)(K:ab→St→Option R):Option R:=
 match E.ia T with
 |some {iz:=.slice e,.. }=>(match E.ia e with
  |some ei=>(match ei.ty with
   |none=>none
   |some t=>(bif Nat.beq ei.size t.size&&Nat.ble ei.bytes 16384 then
    (match x.qn st with
    |none=>none
    |some wb=>(match x.wh wb (.slice t),wb.arr dst with
     |some m,none=>(bif wb.cZ true dst then none else match s.bN with
      |.nil=>(lA ([]:List t.nw) m).bind fun r=>K (.one (.mA dst)) (wb.gE dst ⟨t,.dB,false,r⟩)
      |.mA a=>(match look wb.cM a with
       |some A=>(bif A.sh||A.bK ||(look wb.fK a).isSome||eU a wb.pin then none else
        (match vf (.slice A.t) (.slice t) A.l with
        |some l=>(lA l m).bind fun r=>K (.one (.mA dst)) {wb with cM:=(dst,⟨t,.dB,false,r⟩)::F7 wb.cM a}
        |none=>none))
       |none=>none)
      |_=>none)
     |_,_=>none)) else none))
  |none=>none)
 |_=>none
def qG(T:TypeId)(dst:Nat)(s:ab)(b:Nat)(st:St)(K:ab→St→Option R):Option R:=
 match E.ia T with
 |some {iz:=.slice e,.. }=>(match E.ia e with
  |some ei=>(match ei.ty,look st.cM b,st.arr dst with
   |some t,some B,none=>(bif Nat.beq ei.size t.size&&Nat.ble ei.bytes 16384&&!(B.sh||!Md.lj B.md .bK ||(look st.fK b).isSome||eU b st.pin||st.cZ true dst) then
    (match vf (.slice B.t) (.slice t) B.l with
    |some m=>(match s.bN with
     |.nil=>(lA ([]:List t.nw) m).bind fun r=>K (.one (.mA dst)) {st with cM:=(dst,⟨t,.bK,false,r⟩)::kW [b] st.cM}
     |.mA a=>(match look st.cM a with
      |some A=>(bif A.sh||!Md.lj A.md .bK ||(look st.fK a).isSome||eU a st.pin||Nat.beq a b then none else
       (match vf (.slice A.t) (.slice t) A.l with
       |some l=>(lA l m).bind fun r=>K (.one (.mA dst)) {st with cM:=(dst,⟨t,.bK,false,r⟩)::kW [a,b] st.cM}
       |none=>none))
      |none=>none)
     |_=>none)
    |none=>none) else none)
   |_,_,_=>none)
  |none=>none)
 |_=>none
def Sr(st:St)(a sz:Nat):Bool:=match look st.cM a with|some A=>Nat.beq sz A.t.size|none=>false
def YW(st:St)(x:ab):Option Nat:=
 match x.bN with
 |.mA b=>(match look st.cM b with|some B=>(bif !B.sh&&Md.lj B.md .bK then some b else none)|none=>none)
 |_=>none
def qH(T:TypeId)(dst:Nat)(s x:ab)(st:St)(K:ab→St→Option R):Option R:=
 match YW st x with
 |some b=>qG E T dst s b st K
 |none=>(match s.bN with
  |.Fb a v sz i off=>(bif Nat.beq v (st.dA a)&&Nat.blt off sz&&Sr st a sz then FU st a i (obN a v) fun s1=>BF s1 a sz i fun s2=>rG E T dst (.one (.mA (LY a v off))) x s2 K else none)
  |_=>rG E T dst s x st K)
def ag.N3(a:Nat):ag→Bool
 |.Fb a' _ _ _ _=>Nat.beq a' a
 |_=>false
def X6(st:St):List ab→List pO
 |v::_=>(match v.bN with
  |.Fb a v _ _ off=>.a (LY a v off)::(st.cg.filter fun p=>p.2.any (ag.N3 a)).map fun p=>.k p.1
  |_=>[])
 |[]=>[]
def tJ(T:TypeId)(a sz i off:Nat)(v:ab)(st:St)(K:St→Option R):Option R:=
 match E.ia T,v.pH,look st.cM a with
 |some ti,some vs,some A=>
  bif Nat.beq vs.length ti.size&&vs.all ag.cell&&Nat.beq sz A.t.size then
   (match A.md with
   |.bK=>FU st a i (obN a (st.dA a)) fun s1=>BF s1 a sz i fun s2=>
    (bif wF a (st.dA a) sz i vs then(match s2.dL (obN a (st.dA a)) with
     |some ls=>(match qo ls off ti.size with
      |some c=>(bif c.any ag.py then none else A0 (s2.qk (obN a (st.dA a)) (mo ls off (vs.map (qs a (st.dA a) sz)))) a (obN a (st.dA a)) K)
      |none=>none)
     |none=>none) else none)
   |.Dp j o=>(bif Nat.beq j i&&Nat.ble 10000 o then(match st.dL o with
     |some ls=>(match qo ls off ti.size with
      |some c=>(bif c.any ag.py then none else A0 (st.qk o (mo ls off vs)) a o K)
      |none=>none)
     |none=>none) else none)
   |_=>none)
  else none
 |_,_,_=>none
def WJ(st:St)(x:ab):Option (Nat×Nat×Nat×Nat):=
 match x.bN with
 |.DT a sz i off=>(match look st.cM a with
  |some A=>(bif A.sh then none else match A.md with | .bK=>some (a,sz,i,off) | .Dp _ _=>some (a,sz,i,off)|_=>none)
  |none=>none)
 |_=>none
def tK(T:TypeId)(a k:Nat)(v:ab)(st:St)(K:St→Option R):Option R:=
 match E.ia T,v.pH,look st.cM a with
 |some ti,some [l],some A=>
  bif Nat.beq ti.size 1&&l.cell&&!A.sh&&Md.lj A.md .arr&&Nat.beq A.t.size 1&&!A.t.agg&&A.t.yK then
   (match l.wh st A.t with
   |some d=>(bA A.l (k:Int)).bind fun _=>K (st.gE a ⟨A.t,.arr,false,A.l.set k d⟩)
   |none=>none)
  else none
 |_,_,_=>none
def ada(x:ab):Option (Nat×Nat):=match x.bN with | .L9 a k _=>some (a,k)|_=>none
def tL(T:TypeId)(x v:ab)(st:St)(K:St→Option R):Option R:=
 match WJ st x with
 |some (a,sz,i,off)=>tJ E T a sz i off v st K
 |none=>(match ada x with
  |some (a,k)=>tK E T a k v st K
  |none=>xd E T x v st K)
def wJ(k:IntKind)(f:Int→Int→Int)(a:Int):List ab→Option Int
 |[]=>some a
 |v::r=>(match v.FO with|some (_,b)=>wJ k f (f a b) r|none=>none)
def nB(b:Builtin)(dst:Nat)(argTypes:List TypeId)(vs:List ab)(st:St)(K:ab→St→Option R):Option R:=
 match b,vs with
 |.len,[v]=>(match (argTypes[0]?).bind E.ia with
  |some {iz:=.str,.. }=>(match v.OB with|some s=>K (.one (.eV (.int .i64) (s.length:Int))) st|none=>none)
  |some {iz:=.slice _,.. }=>(match v.bN with
   |.Fb a vr sz i off=>(match st.arr a with
    |some A=>(bif A.sh||!Md.lj A.md .bK||!Nat.beq vr (st.dA a)||!Nat.beq sz A.t.size||!A.t.rE then none else(bA A.l (i:Int)).bind fun x=>match C7 A.t x off with|some n=>K (.one (.eV (.int .i64) n)) st|none=>none)
    |none=>none)
   |_=>(match lenOf st v.bN,v.OB with|some n,none=>K (.one (.eV (.int .i64) n)) st|_,_=>none))
  |_=>none)
 |.append,[s,x]=>(match argTypes with
  |[t,u]=>(bif Nat.beq t u then qH E t dst s x st K else none)
  |_=>none)
 |.min,v::r=>(match v.FO with
  |some (k,a)=>(match wJ k (fun x y=>bif decide (y<x) then y else x) a r with|some n=>K (.one (.eV (.int k) n)) st|none=>none)
  |none=>none)
 |.max,v::r=>(match v.FO with
  |some (k,a)=>(match wJ k (fun x y=>bif decide (y > x) then y else x) a r with|some n=>K (.one (.eV (.int k) n)) st|none=>none)
  |none=>none)
 |_,_=>none
abbrev mpT:Ty:=.aO .str (.int .i64)
def qg:List (ak×Int)→ak→Int
 |[],_=>0
 |p::r,s=>bif decide (p.1=s) then p.2 else qg r s
def qF:List (ak×Int)→ak→Int→List (ak×Int)
 |[],s,v=>[(s,v)]
 |p::r,s,v=>bif decide (p.1=s) then(s,v)::r else p::qF r s v
def K3(E:sb)(T:TypeId):Bool:=match E.ia T with|some {iz:=.mp _ _,.. }=>true|_=>false
def qI(T:TypeId)(dst:Nat)(st:St)(K:ab→St→Option R):Option R:=
 match st.arr dst with
 |none=>(bif K3 E T&&!st.cZ true dst then K (.one (.mA dst)) (st.gE dst ⟨mpT,.mp,false,[]⟩) else none)
 |some _=>none
def tH(T:TypeId)(x k:ab)(st:St)(K:ab→St→Option R):Option R:=
 match x.bN,k.OB with
 |.mA a,some s=>(match st.arr a with
  |some A=>(bif K3 E T&&!A.sh&&Md.lj A.md .mp then(match vf (.slice A.t) (.slice mpT) A.l with
   |some l=>K (.one (.eV (.int .i64) (qg l s))) st
   |none=>none) else none)
  |none=>none)
 |_,_=>none
def nN(T:TypeId)(x k v:ab)(st:St)(K:ab→St→Option R):Option R:=
 match x.bN,k.OB,v.FO with
 |.mA a,some s,some (.i64,n)=>(match look st.cM a with
  |some A=>(bif K3 E T&&!A.sh&&Md.lj A.md .mp then(match vf (.slice A.t) (.slice mpT) A.l with
   |some l=>K (.one .uZ) (st.gE a ⟨mpT,.mp,false,qF l s n⟩)
   |none=>none) else none)
  |none=>none)
 |_,_,_=>none
def IF:Option Tmp→Nat
 |some d=>d
 |none=>0
def lY(o:Oper)(st:St)(K:ab→St→Option R)(KP:ab→St→Option R):Option R:=
 match o.op with
 |.move x=>K (ev E st x) st
 |.assign x=>K (ev E st x) st
 |.pick c a b=>(match (ev E st c).F4 with|some c=>bif c then K (ev E st a) st else K (ev E st b) st|none=>none)
 |.nilCheck x=>(match (ev E st x).bN with
  |.np _ _=>K (ev E st x) st
  |.PK _ _ _=>K (ev E st x) st
  |.DT _ _ _ _=>K (ev E st x) st
  |_=>none)
 |.alloc T=>bif E.KT (IF o.dst) then rF E T (IF o.dst) st K else(match E.ia T with|some ti=>Gi E T (E.aaa (IF o.dst)) (ti.zero.map vH) st K|none=>none)
 |.box T x=>(match (ev E st x).pH with|some ls=>Gi E T (E.aaa (IF o.dst)) ls st K|none=>none)
 |.build T hZ=>wY E T (hZ.toList.map fun p=>(p.1,ev E st p.2)) st K
 |.buildSlice T len hZ=>bif E.KT (IF o.dst) then kN E T (IF o.dst) len (hZ.toList.map fun p=>(p.1,ev E st p.2)) st K else mi E T (IF o.dst) len (hZ.toList.map fun p=>(p.1,ev E st p.2)) st K
 |.load T x=>yM E T (ev E st x) st K
 |.store T x v=>tL E T (ev E st x) (ev E st v) st fun st'=>K (.one .uZ) st'
 |.binOp op T x y _=>K5 E op T (ev E st x) (ev E st y) fun v=>K v st
 |.unOp op _ x=>T8 op (ev E st x) fun v=>K v st
 |.convert S D x=>pE E S D (ev E st x) st K
 |.makeSlice T l c=>nM E T (IF o.dst) (ev E st l) (ev E st c) st K
 |.slice T x lo hi mx=>tI E T (IF o.dst) (ev E st x) (lo.map (ev E st)) (hi.map (ev E st)) (mx.map (ev E st)) st K
 |.fieldAddr T x f=>nL E T (ev E st x) f st K
 |.field T x f=>bif (ev E st x).isAgg then wZ E T (ev E st x) f st K else none
 |.indexAddr T x i=>mn E T (ev E st x) (ev E st i) st K
 |.index T x i=>xa E T (ev E st x) (ev E st i) st K
 |.extract x n=>(match ev E st x with | .Lg vs=>(match vs[n]? with|some p=>K (Ex p.1 p.2) st|none=>none)|_=>none)
 |.call c=>(match c.callee with
  |.builtin b=>nB E b (IF o.dst) c.argTypes.toList (c.args.toList.map (ev E st)) st K
  |.value (.func f)=>(match E.BA f with|some s=>s.run (IF o.dst) (c.args.toList.map (ev E st)) st K KP|none=>none)
  |_=>none)
 |.makeInterface T x=>(match E.ia T with
  |some ti=>(match ti.iz,(ev E st x).pH with
   |.aac,_=>none
   |_,some ls=>K (.Ak T ls) st
   |_,none=>none)
  |none=>none)
 |.panic x=>(match ev E st x with | .Ak t ls=>KP (.Ak t ls) st|_=>none)
 |.makeMap T none=>qI E T (IF o.dst) st K
 |.lookup T x k false=>tH E T (ev E st x) (ev E st k) st K
 |.mapUpdate T x k v=>nN E T (ev E st x) (ev E st k) (ev E st v) st K
 |_=>none
end exec
def p7(all:List Oper)(j:Nat):Option Nat:=(all[j]?).bind (·.dst)
def eb(e:Edge):Bool:=match e.ground with | .textOnly _=>false | .gcOnly _=>false|_=>true
def Yn:List Nat→List Nat→List Nat
 |[],m=>m
 |x::r,m=>bif eU x m then Yn r m else Yn r (x::m)
def iK:List Oper→List (List Nat)→List (List Nat)
 |[],acc=>acc
 |o::r,acc=>iK r (acc++[o.after.toList.foldl (fun m e=>bif eb e then Yn (e.on::acc.getD e.on []) m else m) []])
def uS:Op→Bool
 |.move _=>true | .assign _=>true | .pick _ _ _=>true | .nilCheck _=>true | .build _ _=>true | .load _ _=>true
 |.binOp _ _ _ _ _=>true | .unOp _ _ _=>true | .convert _ _ _=>true | .slice t _ lo hi mx=>Nat.beq t 9 ||(match lo,hi,mx with|none,some _,none=>false|_,_,_=>true) | .fieldAddr _ _ _=>true
 |.field _ _ _=>true | .indexAddr _ _ _=>true | .index _ _ _=>true | .extract _ _=>true | .makeInterface _ _=>true
 |.call c=>(match c.callee with
  |.builtin b=>(match b with | .len=>true | .min=>true | .max=>true|_=>false)
  |_=>false)
 |_=>false
def Sv:List Operand→List Nat
 |[]=>[]
 |.tmp t::r=>t::Sv r
 |_::r=>Sv r
def sJ(all:List Oper)(o:Oper):List Nat:=
 (match o.guard with|some (j,_)=>(match p7 all j with|some g=>[g]|none=>[])|none=>[])++Sv o.op.operands.toList
def Te(o:Oper)(l:List Nat):Bool:=match o.dst with|some d=>eU d l|none=>false
def pG(all:List Oper)(A:List (List Nat))(k:Nat)(o:Oper):Bool:=
 !uS o.op||all.zipIdx.any fun p=>Te o (sJ all p.1)&&!eU k (A.getD p.2 [])
def rdy(all:List Oper)(done:List Nat)(i:Nat):Bool:=
 !eU i done&&(match all[i]? with|some o=>o.after.toList.all fun e=>!eb e||eU e.on done|none=>false)
def Lf(all:List Oper)(A:List (List Nat))(k:Nat):Bool:=match all[k]? with|some o=>!pG all A k o|none=>false
def iP(all:List Oper)(A:List (List Nat)):Nat→List Nat→List (List Nat)
 |0,_=>[[]]
 |n+1,done=>(match (List.range all.length).filter (rdy all done) with
  |[]=>[[]]
  |i::r=>(match (i::r).find? (Lf all A) with
   |some k=>(iP all A n (k::done)).map (k::·)
   |none=>(i::r).flatMap fun k=>(iP all A n (k::done)).map (k::·)))
def RC:List Oper→Bool
 |[]=>true
 |o::r=>!(match o.dst with|some d=>r.any fun p=>(match p.dst with|some e=>Nat.beq d e|none=>false)|none=>false)&&RC r
def af9(all:List Oper)(A:List (List Nat)):Bool:=
 all.zipIdx.all fun p=>all.zipIdx.all fun q=>Nat.beq p.2 q.2||!Te q.1 (sJ all p.1)||eU q.2 (A.getD p.2 [])||eU p.2 (A.getD q.2 [])
def Z4(all:List Oper):Bool:=all.all fun o=>match o.op with | .select _ _=>false|_=>true
def DS(all:List Oper)(A:List (List Nat)):Bool:=
 RC all&&af9 all A&&Z4 all&&all.zipIdx.all (fun p=>!Te p.1 (sJ all p.1)&&p.1.after.toList.all fun e=>!eb e||Nat.blt e.on p.2)
def U4:pO→pO→Bool
 |.o a i n,.o b j m=>!Nat.beq a b||Nat.ble (i+n) j||Nat.ble (j+m) i
 |.a x,.a y=>!Nat.beq x y
 |.o a _ _,.k b=>!Nat.beq a b
 |.k a,.o b _ _=>!Nat.beq a b
 |.k a,.k b=>!Nat.beq a b
 |.all,_=>false
 |_,.all=>false
 |_,_=>true
def fH:List ag→List pO
 |[]=>[]
 |.mA a::r=>.a a::fH r
 |.Fb a _ _ _ _::r=>.a a::fH r
 |_::r=>fH r
def ab.te:ab→List pO
 |.one l=>fH [l]
 |.agg ls=>fH ls
 |.Ak _ ls=>fH ls
 |.Lg _=>[]
def nr:List ab→List pO
 |[]=>[]
 |v::r=>v.te++nr r
section draw
variable (E:sb) {R:Type}
def xh(T:TypeId):Nat:=match E.ia T with|some ti=>ti.size|none=>0
def vE(o:Oper)(st:St):List pO:=
 match o.op with
 |.load T x=>(match (ev E st x).bN with | .np ob off=>[.o ob off (xh E T)] | .DT a _ _ _=>[.a a] | .L9 a _ _=>[.a a]|_=>[])
 |.convert _ _ x=>fH [(ev E st x).bN]
 |.slice _ x _ _ _=>fH [(ev E st x).bN]
 |.indexAddr _ x _=>fH [(ev E st x).bN]
 |.call c=>nr (c.args.toList.map (ev E st))
 |_=>[]
def xV(o:Oper)(st:St):Bool:=
 match o.op with
 |.slice _ x _ _ _=>(match (ev E st x).bN with
  |.mA a=>(match st.arr a with|some A=>A.sh|none=>false)
  |_=>true)
 |_=>true
def tY(o:Oper)(st:St):List pO:=
 match o.op with
 |.store T x v=>(match WJ st (ev E st x) with
  |some _=>[.all]
  |none=>(match (ev E st x).bN with
   |.np ob off=>[.o ob off (xh E T)]
   |.DT a _ _ _=>.a a::(ev E st v).te
   |.L9 a _ _=>[.a a]
   |_=>[]))
 |.buildSlice _ _ ps=>nr (ps.toList.map fun p=>ev E st p.2)
 |.call c=>(match c.callee with
  |.builtin _=>nr (c.args.toList.map (ev E st))++X6 st (c.args.toList.map (ev E st))
  |.value (.func f)=>(match E.BA f with|some s=>s.LH (c.args.toList.map (ev E st)) st|none=>[])
  |_=>[])
 |.slice _ x _ _ _=>fH [(ev E st x).bN]
 |.mapUpdate _ x _ _=>fH [(ev E st x).bN]
 |_=>[]
def Iq(rs ws:List pO):Bool:=rs.all fun p=>ws.all fun q=>U4 p q
def Gq(all:List Oper)(A:List (List Nat))(i:Nat)(o:Oper)(log:List (Nat×List pO))(st:St)(K:List (Nat×List pO)→St→Option R)(KP:ab→St→Option R):Option R:=
 bif pG all A i o then
  (bif log.all (fun p=>eU p.1 (A.getD i [])||Iq p.2 (tY E o st)) then
   lY E o st (fun v st'=>oH o.dst v st' (K log)) KP else none)
 else(bif xV E o st then lY E o st (fun v st'=>oH o.dst v st' (K ((i,vE E o st)::log))) (fun _ _=>none) else none)
def W4(all:List Oper)(A:List (List Nat))(i:Nat)(log:List (Nat×List pO))(st:St)(K:List (Nat×List pO)→St→Option R)(KP:ab→St→Option R):Option R:=
 match all[i]? with
 |none=>none
 |some o=>(match o.guard with
  |none=>Gq E all A i o log st K KP
  |some (j,so)=>(match p7 all j with
   |none=>none
   |some g=>(match st.ib g with
    |some (.one (.eV .bool c))=>
     (bif c then
      (bif so then Gq E all A i o log (st.jX g (.one (.eV .bool true))) K KP
       else oH o.dst (.one .uZ) (st.jX g (.one (.eV .bool true))) (K log))
     else
      (bif so then oH o.dst (.one .uZ) (st.jX g (.one (.eV .bool false))) (K log)
       else Gq E all A i o log (st.jX g (.one (.eV .bool false))) K KP))
    |some (.one .uZ)=>oH o.dst (.one .uZ) st (K log)
    |_=>none)))
def HJ(all:List Oper)(A:List (List Nat)):List Nat→List (Nat×List pO)→St→(St→Option R)→(ab→St→Option R)→Option R
 |[],_,st,K,_=>K st
 |i::rest,log,st,K,KP=>W4 E all A i log st (fun lg s=>HJ all A rest lg s K KP) KP
def J6(ops:List Oper)(l:List Nat):Bool:=(List.range ops.length).all fun i=>eU i l
def VG(ops:List Oper)(st:St)(K:St→Option R)(KP:ab→St→Option R):Option R:=
 bif DS ops (iK ops []) then
  (match iP ops (iK ops []) ops.length [] with
  |[l]=>(bif J6 ops l then HJ E ops (iK ops []) l [] st K KP else none)
  |_=>none)
 else none
end draw
section run
variable (E:sb) {R:Type}
def pI(all:List Oper):List Oper→St→(St→Option R)→(ab→St→Option R)→Option R
 |[],st,K,_=>K st
 |o::rest,st,K,KP=>
  match o.guard with
  |none=>lY E o st (fun v st'=>oH o.dst v st' fun s=>pI all rest s K KP) KP
  |some (j,so)=>(match p7 all j with
   |none=>none
   |some g=>(match st.ib g with
    |some (.one (.eV .bool c))=>
     (bif c then
      (bif so then lY E o (st.jX g (.one (.eV .bool true))) (fun v st'=>oH o.dst v st' fun s=>pI all rest s K KP) KP
       else oH o.dst (.one .uZ) (st.jX g (.one (.eV .bool true))) fun s=>pI all rest s K KP)
     else
      (bif so then oH o.dst (.one .uZ) (st.jX g (.one (.eV .bool false))) fun s=>pI all rest s K KP
       else lY E o (st.jX g (.one (.eV .bool false))) (fun v st'=>oH o.dst v st' fun s=>pI all rest s K KP) KP))
    |some (.one .uZ)=>oH o.dst (.one .uZ) st fun s=>pI all rest s K KP
    |_=>none))
noncomputable def sm(c:Code):St→(Exit→St→Option R)→(ab→St→Option R)→Option R:=
 Code.rec (motive:=fun _=>St→(Exit→St→Option R)→(ab→St→Option R)→Option R)
  (fun st K _=>K .normal st)
  (fun id ops draw st K KP=>bif draw then(match E.od (id+1000000) with|some L=>L.run st K KP|none=>VG E ops.toList st (fun s=>K .normal s) KP) else pI E ops.toList ops.toList st (fun s=>K .normal s) KP)
  (fun _ _ ra rb st K KP=>ra st (fun e s=>match e with | .normal=>rb s K KP|e=>K e s) KP)
  (fun c _ _ rt re st K KP=>match (ev E st c).F4 with|some b=>bif b then rt st K KP else re st K KP|none=>none)
  (fun id _ rb st K KP=>match E.od id with
   |some L=>L.run st K KP
   |none=>rb st (fun e s=>match e with | .exit i=>(bif Nat.beq i id then K .normal s else K (.exit i) s)|e=>K e s) KP)
  (fun _ _ _ _ _=>none)
  (fun _ _ _ _ _ _ _ _ _=>none)
  (fun id st K _=>K (.exit id) st)
  (fun _ _ _ _ _=>none)
  (fun _ _ _ _=>none)
  (fun _ _ _ _=>none)
  (fun st K _=>K .ret st)
  (fun _ _ _ _=>none) c
end run
end Go.Fx
namespace Go.Fx
def All2{α β:Type}(R:α→β→Prop):List α→List β→Prop
 |[],[]=>True
 |x::xs,y::ys=>R x y∧All2 R xs ys
 |_,_=>False
section All2
variable {α β:Type} {R R':α→β→Prop}
theorem All2.length:∀{xs:List α} {ys:List β},All2 R xs ys→xs.length=ys.length
 |[],[],_=>rfl
 |_::_,_::_,h=>by simp[All2.length h.2]
 |[],_::_,h=>h.elim
 |_::_,[],h=>h.elim
theorem All2.imp(f:∀ x y,R x y→R' x y):∀{xs:List α} {ys:List β},All2 R xs ys→All2 R' xs ys
 |[],[],_=>trivial
 |_::_,_::_,h=>⟨f _ _ h.1,All2.imp f h.2⟩
 |[],_::_,h=>h.elim
 |_::_,[],h=>h.elim
theorem All2.uz:∀{xs:List α} {ys:List β},(∀ x y,x∈xs→R x y→R' x y)→All2 R xs ys→All2 R' xs ys
 |[],[],_,_=>trivial
 |_::_,_::_,f,h=>⟨f _ _ (by simp) h.1,All2.uz (fun x y hx=>f x y (by simp[hx])) h.2⟩
 |[],_::_,_,h=>h.elim
 |_::_,[],_,h=>h.elim
theorem All2.append:∀{xs xs':List α} {ys ys':List β},All2 R xs ys→All2 R xs' ys'→All2 R (xs++xs') (ys++ys')
 |[],_,[],_,_,h=>h
 |_::_,_,_::_,_,h,h'=>⟨h.1,All2.append h.2 h'⟩
 |[],_,_::_,_,h,_=>h.elim
 |_::_,_,[],_,h,_=>h.elim
theorem All2.split:∀{xs xs':List α} {ys:List β},All2 R (xs++xs') ys→∃ y1 y2,ys=y1++y2∧All2 R xs y1∧All2 R xs' y2
 |[],_,ys,h=>⟨[],ys,rfl,trivial,h⟩
 |x::xs,xs',y::ys,h=>by obtain⟨y1,y2,rfl,h1,h2⟩:=All2.split (xs:=xs) h.2;exact⟨y::y1,y2,rfl,⟨h.1,h1⟩,h2⟩
 |_::_,_,[],h=>h.elim
theorem All2.take:∀(n:Nat) {xs:List α} {ys:List β},All2 R xs ys→All2 R (xs.take n) (ys.take n)
 |0,_,_,_=>by simp[All2]
 |n+1,[],[],_=>trivial
 |n+1,_::_,_::_,h=>⟨h.1,All2.take n h.2⟩
 |n+1,[],_::_,h=>h.elim
 |n+1,_::_,[],h=>h.elim
theorem All2.drop:∀(n:Nat) {xs:List α} {ys:List β},All2 R xs ys→All2 R (xs.drop n) (ys.drop n)
 |0,_,_,h=>h
 |n+1,[],[],_=>trivial
 |n+1,_::_,_::_,h=>All2.drop n h.2
 |n+1,[],_::_,h=>h.elim
 |n+1,_::_,[],h=>h.elim
theorem All2.wh:∀{i:Nat} {xs:List α} {ys:List β} {x:α},All2 R xs ys→xs[i]? = some x→∃ y,ys[i]? = some y∧R x y
 |0,_::_,_::_,_,h,e=>by cases e;exact⟨_,rfl,h.1⟩
 |i+1,_::_,_::_,_,h,e=>by simpa using All2.wh (i:=i) h.2 (by simpa using e)
 |_,[],_,_,_,e=>by simp at e
 |_,_::_,[],_,h,_=>h.elim
end All2
structure Gh where
 S:DB
 φ:Nat→Nat
 pre:Nat→List Value
 post:Nat→List Value
 ψ:Nat→Value
 HA:Nat→fY
 vn:Nat→Nat
 HV:Nat→Nat→List Value
 ds:List Deferred:=[]
def u9(G:Gh)(a v sz i off:Nat)(u:Value):Prop:=
 v≤G.vn a∧(∃ x n c,u=.slice x n c)∧(∃ b len cap,G.ψ a=.slice (some ⟨b,0,none⟩) len cap∧i<len)∧(G.HV a v)[i * sz+off]? = some u
theorem u9.Au{G G':Gh}{a v sz i off:Nat}{u:Value}(h:u9 G a v sz i off u)(h1:G'.ψ a=G.ψ a)(h2:G.vn a≤G'.vn a)(h3:∀ v,v≤G.vn a→G'.HV a v=G.HV a v):u9 G' a v sz i off u:=
 ⟨bFa h.1 h2,h.2.1,by rw[h1];exact h.2.2.1,by rw[h3 v h.1];exact h.2.2.2⟩
def kp:fY→List Value
 |(_,.cells arr _ _)::_=>arr.toList
 |_=>[]
def aT(G:Gh):ag→Value→Prop
 |.any,_=>True
 |.ur,_=>True
 |.uZ,v=>v=undef
 |.eV t d,v=>∃ cs,(if t.agg=true then v=.agg cs.toArray else cs=[v])∧fW G.S false t cs d []
 |.nil,v=>v=.slice none 0 0
 |.Kz,v=>v=.pointer none
 |.mA a,v=>v=G.ψ a
 |.np o off,v=>v=.pointer (some ⟨G.φ o,(G.pre o).length+off,none⟩)
 |.DT a sz i off,v=>∃ b len cap,G.ψ a=.slice (some ⟨b,0,none⟩) len cap∧i<len∧v=.pointer (some ⟨b,i * sz+off,none⟩)
 |.PK t d off,v=>∃ b arr elem fz pre cs post,G.S b=some (.cells arr elem fz)∧arr.toList=pre++(cs++post)∧fW G.S false t cs d []∧
  v=.pointer (some ⟨b,pre.length+off,none⟩)
 |.fn f,v=>v=.func (.func f) #[] #[]
 |.Fb a vr sz i off,v=>u9 G a vr sz i off v
 |.nse a vr sz i off sz2 j TU,v=>∃ b2 Ku LF,u9 G a vr sz i off (.slice (some ⟨b2,0,none⟩) Ku LF)∧j<Ku∧v=.pointer (some ⟨b2,j * sz2+TU,none⟩)
 |.L9 a k n,v=>∃ b,G.ψ a=.pointer (some ⟨b,0,none⟩)∧v=.pointer (some ⟨b,k,none⟩)
 |.ga t l,v=>∃ b arr elem fz cells rest,G.S b=some (.cells arr elem fz)∧arr.toList=cells++rest∧RepL (fW G.S false t) cells l []∧v=.pointer (some ⟨b,0,none⟩)
def aP(G:Gh):ab→Value→Prop
 |.one l,v=>aT G l v
 |.agg ls,v=>∃ cs:List Value,v=.agg cs.toArray∧All2 (aT G) ls cs
 |.Lg vs,v=>∃ us:List Value,v=.tuple us.toArray∧All2 (fun(p:Bool×List ag) u=>
  if p.1=true then ∃ cs:List Value,u=.agg cs.toArray∧All2 (aT G) p.2 cs else ∃ l,p.2=[l]∧aT G l u) vs us
 |.Ak t ls,v=>∃ u cs,v=.iface t u∧u.cells.toList=cs∧All2 (aT G) ls cs
def hY(G:Gh)(st:St)(o:Nat):Nat→List ag→List Value→Prop:=fun j ls vs=>All2 (aT G) (st.jV o j ls) vs
structure mz where
 S0:DB
 Ya:Nat→Prop
 w0:World
 pin:Nat→Option (Nat×List Value×List Value)
 pl:∀ o p,pin o=some p→o<10000
 bv:Nat→Nat→Option Value
 bl:∀ o j u,bv o j=some u→o<10000
 aa5:Nat→Option Value
 ds:List Deferred:=[]
def eR(G:Gh)(st:St):Bool×Nat→Nat→Prop
 |(false,o),b=>(∃ ls,st.dL o=some ls)∧b=G.φ o
 |(true,a),b=>(∃ A,st.arr a=some A∧A.sh=false)∧∃ p∈G.HA a,p.1=b
def YC{α:Type}(RL:List Value→List α→fY→Prop)(sz:Nat)(v:Value)(l:List α)(H:fY)(i b:Nat)(pre post:List Value):Prop:=
 ∃ cap Hp Hq rest Jm,v=.slice (some ⟨b,0,none⟩) l.length cap∧H=Hp++Hq∧post=Jm++rest∧cap * sz≤pre.length+sz+post.length∧
  l.length≤cap∧i<l.length∧pre.length=i * sz∧RL pre (l.take i) Hp∧RL Jm (l.drop (i+1)) Hq
def aa1{α:Type}(RL:List Value→List α→fY→Prop)(v:Value)(l:List α)(H:fY):Prop:=
 ∃ r es xU,v=.map (some r)∧H=[(r,Obj.map es xU)]∧RL (es.toList.flatMap fun e=>[e.key,e.val]) l []
def YB{α:Type}(RL:List Value→List α→fY→Prop)(sz:Nat)(v:Value)(l:List α)(H:fY)(i off:Nat):Prop:=
 ∃ b cap arr elem cells rest H',v=.slice (some ⟨b,0,none⟩) l.length cap∧H=(b,Obj.cells arr elem (0,0))::H'∧arr.toList=cells++rest∧cap * sz≤arr.size∧l.length≤cap∧
  i<l.length∧off<sz∧cells.length=l.length * sz∧RL (cells.set (i * sz+off) (.slice none 0 0)) l H'
def VY{α:Type}(RL:List Value→List α→fY→Prop)(v:Value)(l:List α)(H:fY):Prop:=
 ∃ b arr elem,v=.pointer (some ⟨b,0,none⟩)∧H=[(b,Obj.cells arr elem (0,0))]∧RL arr.toList l []
def oL(G:Gh)(a:Nat)(A:jG):Prop:=
 if A.sh=true then BR G.S (RepL (fW G.S false A.t)) [G.ψ a] A.l []
 else match A.md with
  |.dB=>kf (RepL (fW G.S false A.t)) A.t.size [G.ψ a] A.l (G.HA a)
  |.bK=>kf (RepL (fW G.S true A.t)) A.t.size [G.ψ a] A.l (G.HA a)
  |.Dp i o=>YC (RepL (fW G.S true A.t)) A.t.size (G.ψ a) A.l (G.HA a) i (G.φ o) (G.pre o) (G.post o)
  |.mp=>aa1 (RepL (fW G.S false A.t)) (G.ψ a) A.l (G.HA a)
  |.afj i off=>YB (RepL (fW G.S true A.t)) A.t.size (G.ψ a) A.l (G.HA a) i off
  |.arr=>VY (RepL (fW G.S false A.t)) (G.ψ a) A.l (G.HA a)
def SlV(v:Value):Prop:=(∃ b n c,v=.slice b n c)∨(∃ r,v=.map r)∨∃ p,v=.pointer p
structure ay(X:mz)(st:St)(G:Gh)(w:World):Prop where
 sl:∀ a,SlV (G.ψ a)
 sh:∀ b o,G.S b=some o→w.heap[b]? = some o
 ob:∀ o ls,st.dL o=some ls→∃ arr elem mid,w.heap[G.φ o]? = some (.cells arr elem (0,0))∧arr.toList=G.pre o++(mid++G.post o)∧hY G st o 0 ls mid
 ar:∀ a A,st.arr a=some A→oL G a A
 ah:∀ a A,st.arr a=some A→A.sh=false→∀ p∈G.HA a,w.heap[p.1]? = some p.2
 nd:∀ a A,st.arr a=some A→A.sh=false→((G.HA a).map (·.1)).Nodup
 pX:∀ x y b,eR G st x b→eR G st y b→x=y
 dS:∀ x b,eR G st x b→G.S b=none
 sZ:∀ x b,eR G st x b→X.Ya b∨X.w0.heap.size≤b
 s0:∀ b o,X.S0 b=some o→G.S b=some o
 sn:∀ b o,G.S b=some o→X.S0 b=some o∨X.Ya b∨X.w0.heap.size≤b
 fr:∀ b,b<X.w0.heap.size→¬ X.Ya b→w.heap[b]? = X.w0.heap[b]?
 sz:X.w0.heap.size≤w.heap.size
 os:w.os=X.w0.os
 tp:w.tape=X.w0.tape
 out:w.output=X.w0.output
 pin:∀ o p,X.pin o=some p→(∃ ls,st.dL o=some ls)∧p=(G.φ o,G.pre o,G.post o)
 bv:∀ o j u,X.bv o j=some u→(∃ lf,dV st.cD o j=some lf)∧(∃ ls,st.dL o=some ls∧ls[j]? = some .ur)∧
  ∃ arr elem,w.heap[G.φ o]? = some (.cells arr elem (0,0))∧arr.toList[(G.pre o).length+j]? = some u
 hv:∀ a,G.vn a=st.dA a
 hh:∀ a A,st.arr a=some A→A.sh=false→A.nest=true→G.HV a (G.vn a)=kp (G.HA a)
 ds:G.ds=X.ds
 ap:∀ a u,X.aa5 a=some u→eU a st.pin=true∧(∃ A,st.arr a=some A)∧G.ψ a=u
def bM(G:Gh)(st:St)(a:Act):Prop:=
 a.defers=G.ds∧a.tmps.size=st.n∧∀ i v,st.ib i=some v→aP G v (a.tmps.getD i undef)
section look
variable {α:Type}
theorem uE{k i:Nat}(h:k≠i):Nat.beq k i=false:=by
 cases hb:Nat.beq k i with
 |false=>rfl
 |true=>exact absurd (Q5 hb) h
theorem au(k:Nat)(v:α)(l:List (Nat×α))(i:Nat):look ((k,v)::l) i=if k=i then some v else look l i:=by
 simp only[look];by_cases h:k=i
 ·subst h;simp
 ·simp[uE h,h]
theorem qe(l:List (Nat×α))(a i:Nat):look (F7 l a) i=if a=i then none else look l i:=by
 induction l with
 |nil=>simp[look,F7]
 |cons p l ih=>
  obtain⟨k,v⟩:=p;by_cases h:k=a
  ·subst h
   have:Nat.beq k k=true:=by simp
   simp only[F7,this,Q9,ih,au];split<;>rfl
  ·have:=uE h
   simp only[F7,this,ana,au,ih];by_cases h2:k=i
   ·subst h2;simp[bxa h]
   ·simp[h2]
theorem dY{l:List (Nat×α)}{i:Nat}{v:α}(h:look l i=some v):(i,v)∈l:=by
 induction l with
 |nil=>simp[look] at h
 |cons p l ih=>
  obtain⟨k,u⟩:=p;rw[au] at h;split at h
  ·rename_i e;subst e;cases h;simp
  ·exact Q8 _ (ih h)
theorem Kx:∀{l:List (Nat×Nat×ag)} {o j:Nat} {v:ag},dV l o j=some v→(o,j,v)∈l
 |[],_,_,_,h=>by cases h
 |(o',j',v')::r,o,j,v,h=>by
  simp only[dV] at h;cases hb:(Nat.beq o' o&&Nat.beq j' j) with
  |true=>simp only[hb,Q9,OF] at h;simp only[Q4] at hb;rw[Q5 hb.1,Q5 hb.2,h];simp
  |false=>simp only[hb,ana] at h;exact Q8 _ (Kx h)
end look
section St
variable {st:St}
theorem qj(i:Nat)(v:ab)(j:Nat):(st.jX i v).ib j=if i=j then some v else st.ib j:=by simp only[St.ib,St.jX,au];by_cases h:i=j<;>simp[h]
@[simp] theorem ad7(i:Nat)(v:ab)(o:Nat):(st.jX i v).dL o=st.dL o:=rfl
@[simp] theorem ade(i:Nat)(v:ab)(a:Nat):(st.jX i v).arr a=st.arr a:=rfl
@[simp] theorem aeg(i:Nat)(v:ab)(o j:Nat)(l:ag):(st.jX i v).res o j l=st.res o j l:=by cases l<;>rfl
theorem kG(o:Nat)(ls:List ag)(q:Nat):(st.qk o ls).dL q=if o=q then some ls else st.dL q:=by simp only[St.dL,St.qk,au]
@[simp] theorem aec(o:Nat)(ls:List ag)(i:Nat):(st.qk o ls).ib i=st.ib i:=rfl
@[simp] theorem adc(o:Nat)(ls:List ag)(a:Nat):(st.qk o ls).arr a=st.arr a:=rfl
@[simp] theorem aef(q:Nat)(ls:List ag)(o j:Nat)(l:ag):(st.qk q ls).res o j l=st.res o j l:=by cases l<;>rfl
theorem dG(a:Nat)(A:jG)(b:Nat):(st.gE a A).arr b=if a=b then some A else st.arr b:=by simp only[St.arr,St.gE,au];by_cases h:a=b<;>simp[h]
@[simp] theorem aeb(a:Nat)(A:jG)(i:Nat):(st.gE a A).ib i=st.ib i:=rfl
@[simp] theorem ad6(a:Nat)(A:jG)(o:Nat):(st.gE a A).dL o=st.dL o:=rfl
@[simp] theorem aee(a:Nat)(A:jG)(o j:Nat)(l:ag):(st.gE a A).res o j l=st.res o j l:=by cases l<;>rfl
end St
theorem jW{st st':St}{o:Nat}(h:∀ j l,st'.res o j l=st.res o j l):∀(j:Nat) (ls:List ag),st'.jV o j ls=st.jV o j ls
 |_,[]=>rfl
 |j,l::r=>by simp[St.jV,h,jW h (j+1) r]
theorem iJ(st:St)(o:Nat):∀(j:Nat) (ls:List ag),(st.jV o j ls).length=ls.length
 |_,[]=>rfl
 |j,l::r=>by simp[St.jV,iJ st o (j+1) r]
theorem EC(st:St)(o:Nat):∀(j:Nat) (l m:List ag),st.jV o j (l++m)=st.jV o j l++st.jV o (j+l.length) m
 |_,[],m=>by simp[St.jV]
 |j,x::l,m=>by simp only[a2a,St.jV,ara];rw[EC st o (j+1) l m,show j+1+l.length=j+(l.length+1) by omega]
structure Gh.Le(G G':Gh)(k:Bool)(x:Nat):Prop where
 S:∀ b o,G.S b=some o→G'.S b=some o
 φ:∀ o,(k=false→o≠x)→G'.φ o=G.φ o
 pre:∀ o,(k=false→o≠x)→G'.pre o=G.pre o
 post:∀ o,(k=false→o≠x)→G'.post o=G.post o
 ψ:∀ a,(k=true→a≠x)→G'.ψ a=G.ψ a
 vn:∀ a,G'.vn a=G.vn a
 HV:∀ a,(k=true→a≠x)→G'.HV a=G.HV a
 ds:G'.ds=G.ds:=by rfl
theorem aT.le{G G':Gh}{k:Bool}{x:Nat}(h:G.Le G' k x){l:ag}{v:Value}(hm:l.cZ k x=false)(r:aT G l v):aT G' l v:=by
 cases l with
 |any=>trivial
 |ur=>trivial
 |uZ=>exact r
 |eV t d=>obtain⟨cs,e,hr⟩:=r;exact⟨cs,e,hr.mono h.S⟩
 |nil=>exact r
 |Kz=>exact r
 |mA a=>
  have:G'.ψ a=G.ψ a:=h.ψ a (fun hk e=>by subst hk e;simp[ag.cZ] at hm)
  simp only[aT,this];exact r
 |np o off=>
  have gT:k=false→o≠x:=fun hk e=>by subst hk e;simp[ag.cZ] at hm
  simp only[aT,h.φ o gT,h.pre o gT];exact r
 |DT a sz i off=>
  have:G'.ψ a=G.ψ a:=h.ψ a (fun hk e=>by subst hk e;simp[ag.cZ] at hm)
  simp only[aT,this];exact r
 |Fb a vr sz i off=>
  have gT:k=true→a≠x:=fun hk e=>by subst hk e;simp[ag.cZ] at hm
  exact u9.Au r (h.ψ a gT) (by rw[h.vn];exact ava _) (fun v _=>by rw[h.HV a gT])
 |nse a vr sz i off sz2 j TU=>
  have gT:k=true→a≠x:=fun hk e=>by subst hk e;simp[ag.cZ] at hm
  obtain⟨b2,Ku,LF,h1,h2⟩:=r;exact⟨b2,Ku,LF,h1.Au (h.ψ a gT) (by rw[h.vn];exact ava _) (fun v _=>by rw[h.HV a gT]),h2⟩
 |L9 a kk n=>
  have:G'.ψ a=G.ψ a:=h.ψ a (fun hk e=>by subst hk e;simp[ag.cZ] at hm)
  simp only[aT,this];exact r
 |PK t d off=>obtain⟨b,arr,elem,fz,pre,cs,post,h1,h2,h3,h4⟩:=r;exact⟨b,arr,elem,fz,pre,cs,post,h.S _ _ h1,h2,h3.mono h.S,h4⟩
 |fn f=>exact r
 |ga t l=>obtain⟨b,arr,elem,fz,cs,rest,h1,h2,h3,h4⟩:=r;exact⟨b,arr,elem,fz,cs,rest,h.S _ _ h1,h2,h3.imp fun _ _ _ h'=>h'.mono h.S,h4⟩
theorem BT{G G':Gh}{k:Bool}{x:Nat}(h:G.Le G' k x){ls:List ag}{vs:List Value}(hm:ls.any (ag.cZ k x)=false)(r:All2 (aT G) ls vs):All2 (aT G') ls vs:=
 r.uz fun l v hl hr=>hr.le h (by
  have:=aOa.1 hm l hl;simpa using this)
theorem aP.le{G G':Gh}{k:Bool}{x:Nat}(h:G.Le G' k x){a:ab}{v:Value}(hm:a.cZ k x=false)(r:aP G a v):aP G' a v:=by
 cases a with
 |one l=>exact aT.le h hm r
 |agg ls=>obtain⟨cs,e,hr⟩:=r;exact⟨cs,e,BT h hm hr⟩
 |Lg vs=>
  obtain⟨us,e,hr⟩:=r;refine⟨us,e,hr.uz fun p u hp NG=>?_⟩;have hm':p.2.any (ag.cZ k x)=false:=by have:=aOa.1 hm p hp;simpa using this
  split at NG
  ·rename_i hc;simp only[hc,aua];obtain⟨cs,e,hr⟩:=NG;exact⟨cs,e,BT h hm' hr⟩
  ·rename_i hc
   obtain⟨l,e,hr⟩:=NG;simp only[bva] at hc;simp only[hc,asa,aca];exact⟨l,e,hr.le h (by rw[e] at hm';simpa using hm')⟩
 |Ak t ls=>obtain⟨u,cs,e1,e2,hr⟩:=r;exact⟨u,cs,e1,e2,BT h hm hr⟩
theorem kf.imp{α:Type}{RL RL':List Value→List α→fY→Prop}{sz:Nat}{cs:List Value}{l:List α}{H:fY}(f:∀ c H,RL c l H→RL' c l H)(h:kf RL sz cs l H):kf RL' sz cs l H:=by
 rcases h with h|⟨b,cap,arr,elem,cells,rest,H',e1,e2,e3,e4,e5,e6⟩
 ·exact .inl h
 ·exact .inr ⟨b,cap,arr,elem,cells,rest,H',e1,e2,e3,e4,e5,f _ _ e6⟩
theorem BR.imp{α:Type}{S S':DB}{RL RL':List Value→List α→fY→Prop}{cs:List Value}{l:List α}{H:fY}(hS:∀ b o,S b=some o→S' b=some o)(f:∀ c H,RL c l H→RL' c l H)(h:BR S RL cs l H):BR S' RL' cs l H:=by
 rcases h with ⟨e,h1|⟨b,cap,arr,elem,fz,pre,cells,rest,q1,q2,q3,q4,q5⟩⟩
 ·exact⟨e,.inl h1⟩
 ·exact⟨e,.inr ⟨b,cap,arr,elem,fz,pre,cells,rest,q1,hS _ _ q2,q3,f _ _ q4,q5⟩⟩
theorem RepL.El{S S':DB}(hS:∀ b o,S b=some o→S' b=some o){m:Bool}{t:Ty}{cs:List Value}{l:List t.nw}{H:fY}(h:RepL (fW S m t) cs l H):RepL (fW S' m t) cs l H:=h.imp fun _ _ _ h=>h.mono hS
theorem oL.mono{G G':Gh}{a a':Nat}{A:jG}(hS:∀ b o,G.S b=some o→G'.S b=some o)(hψ:G'.ψ a' = G.ψ a)(hH:G'.HA a' = G.HA a)
  (hl:∀ i o,A.md=.Dp i o→G'.φ o=G.φ o∧G'.pre o=G.pre o∧G'.post o=G.post o) (h:oL G a A):oL G' a' A:=by
 unfold oL at h ⊢;rw[hψ,hH];split
 ·rename_i hs
  simp only[hs,aua] at h;exact h.imp hS fun c H h=>h.El hS
 ·rename_i hs
  simp only[hs,aca,asa] at h;split
  ·rename_i hm;simp only[hm] at h;exact h.imp fun c H h=>h.El hS
  ·rename_i hm;simp only[hm] at h;exact h.imp fun c H h=>h.El hS
  ·rename_i i o hm
   simp only[hm] at h;obtain⟨e1,e2,e3⟩:=hl i o hm;rw[e1,e2,e3];obtain⟨cap,Hp,Hq,rest,Jm,q1,q2,q3,q4,q5,q6,q7,q8,q9⟩:=h;exact⟨cap,Hp,Hq,rest,Jm,q1,q2,q3,q4,q5,q6,q7,q8.El hS,q9.El hS⟩
  ·rename_i hm
   simp only[hm] at h;obtain⟨r,es,xU,e1,e2,e3⟩:=h;exact⟨r,es,xU,e1,e2,e3.El hS⟩
  ·rename_i i off hm
   simp only[hm] at h;obtain⟨b,cap,arr,elem,cells,rest,H',q1,q2,q3,q4,q5,q6,q7,q8,q9⟩:=h;exact⟨b,cap,arr,elem,cells,rest,H',q1,q2,q3,q4,q5,q6,q7,q8,q9.El hS⟩
  ·rename_i hm
   simp only[hm] at h;obtain⟨b,arr,elem,e1,e2,e3⟩:=h;exact⟨b,arr,elem,e1,e2,e3.El hS⟩
theorem gR{G:Gh}{a:Nat}{A:jG}(hs:A.sh=false)(hw:A.pd=true):oL G a A↔kf (RepL (fW G.S A.bK A.t)) A.t.size [G.ψ a] A.l (G.HA a):=by obtain⟨At,md,sh,Al⟩:=A;simp only at hs;subst hs;cases md<;>simp[jG.pd] at hw<;>rfl
theorem KR{G:Gh}{a:Nat}{t:Ty}{l:List t.nw}:oL G a ⟨t,.dB,false,l⟩↔kf (RepL (fW G.S false t)) t.size [G.ψ a] l (G.HA a):=Iff.rfl
theorem xm{G:Gh}{a:Nat}{A:jG}(hs:A.sh=true):oL G a A↔BR G.S (RepL (fW G.S false A.t)) [G.ψ a] A.l []:=by unfold oL;rw[a4a hs]
theorem Md.wI{m m':Md}(h:m.lj m' = true):m=m':=by cases m<;>cases m'<;>simp_all[Md.lj]
theorem GT{G:Gh}{a:Nat}{A:jG}(hs:A.sh=false)(hm:A.md=.arr)(h:oL G a A):VY (RepL (fW G.S false A.t)) (G.ψ a) A.l (G.HA a):=by unfold oL at h;simpa[hs,hm] using h
theorem EY{A:jG}(h:A.bK=false):A.md=.dB:=by obtain⟨At,md,sh,Al⟩:=A;cases md<;>simp[jG.bK] at h;rfl
theorem DV{A:jG}(h:A.bK=false):A.pd=true:=by have:=EY h;simp[jG.pd,this]
theorem It{G:Gh}{a:Nat}{A:jG}(hs:A.sh=false)(hm:A.Vd=false)(h:oL G a A):(A.l=[]∧G.ψ a=.slice none 0 0)∨∃ b cap,G.ψ a=.slice (some ⟨b,0,none⟩) A.l.length cap:=by
 have pd:∀{RL:List Value→List A.t.nw→fY→Prop} {sz:Nat} {H:fY},kf RL sz [G.ψ a] A.l H→(A.l=[]∧G.ψ a=.slice none 0 0)∨∃ b cap,G.ψ a=.slice (some ⟨b,0,none⟩) A.l.length cap:=fun {RL sz H} h=>by
  rcases h with ⟨e1,e2,e3⟩|⟨b,cap,arr,elem,cells,rest,H',e1,_⟩
  ·simp only[aHa,a7a] at e3;exact .inl ⟨e1,e3⟩
  ·simp only[aHa,a7a] at e1;exact .inr ⟨b,cap,e1⟩
 unfold oL at h;rw[aza (by simp[hs])] at h
 split at h
 ·exact pd h
 ·exact pd h
 ·obtain⟨cap,Hp,Hq,rest,Jm,e,_⟩:=h;exact .inr ⟨_,cap,e⟩
 ·rename_i e;simp[jG.Vd,e] at hm
 ·obtain⟨b,cap,arr,elem,cells,rest,H',e,_⟩:=h;exact .inr ⟨b,cap,e⟩
 ·rename_i e;simp[jG.Vd,e] at hm
end Go.Fx
namespace Go.Fx
structure Gh.ME(G G':Gh):Prop where
 S:∀ b o,G.S b=some o→G'.S b=some o
 φ:G'.φ=G.φ
 pre:G'.pre=G.pre
 post:G'.post=G.post
 ψ:G'.ψ=G.ψ
 HA:G'.HA=G.HA
 vn:G'.vn=G.vn
 HV:G'.HV=G.HV
 ds:G'.ds=G.ds
theorem Gh.ME.refl(G:Gh):G.ME G:=⟨fun _ _ h=>h,rfl,rfl,rfl,rfl,rfl,rfl,rfl,rfl⟩
theorem Gh.ME.trans{G G' G'':Gh}(h:G.ME G')(k:G'.ME G''):G.ME G'':=
 ⟨fun b o e=>k.S b o (h.S b o e),k.φ.trans h.φ,k.pre.trans h.pre,k.post.trans h.post,k.ψ.trans h.ψ,k.HA.trans h.HA,k.vn.trans h.vn,k.HV.trans h.HV,k.ds.trans h.ds⟩
theorem aT.sub{G G':Gh}(h:G.ME G'){l:ag}{v:Value}(r:aT G l v):aT G' l v:=by
 cases l with
 |any=>trivial
 |ur=>trivial
 |uZ=>exact r
 |eV t d=>obtain⟨cs,e,hr⟩:=r;exact⟨cs,e,hr.mono h.S⟩
 |nil=>exact r
 |Kz=>exact r
 |mA a=>simp only[aT,h.ψ];exact r
 |np o off=>simp only[aT,h.φ,h.pre];exact r
 |DT a sz i off=>simp only[aT,h.ψ];exact r
 |PK t d off=>obtain⟨b,arr,elem,fz,pre,cs,post,h1,h2,h3,h4⟩:=r;exact⟨b,arr,elem,fz,pre,cs,post,h.S _ _ h1,h2,h3.mono h.S,h4⟩
 |fn f=>exact r
 |Fb a vr sz i off=>exact u9.Au r (by rw[h.ψ]) (by rw[h.vn];exact ava _) (fun v _=>by rw[h.HV])
 |nse a vr sz i off sz2 j TU=>obtain⟨b2,Ku,LF,h1,h2⟩:=r;exact⟨b2,Ku,LF,h1.Au (by rw[h.ψ]) (by rw[h.vn];exact ava _) (fun v _=>by rw[h.HV]),h2⟩
 |L9 a kk n=>simp only[aT,h.ψ];exact r
 |ga t l=>obtain⟨b,arr,elem,fz,cs,rest,h1,h2,h3,h4⟩:=r;exact⟨b,arr,elem,fz,cs,rest,h.S _ _ h1,h2,h3.imp fun _ _ _ h'=>h'.mono h.S,h4⟩
theorem aP.sub{G G':Gh}(h:G.ME G'){a:ab}{v:Value}(r:aP G a v):aP G' a v:=by
 cases a with
 |one l=>exact aT.sub h r
 |agg ls=>obtain⟨cs,e,hr⟩:=r;exact⟨cs,e,hr.imp fun _ _=>aT.sub h⟩
 |Lg vs=>
  obtain⟨us,e,hr⟩:=r;refine⟨us,e,hr.imp fun p u NG=>?_⟩;split at NG
  ·rename_i hc;simp only[hc,aua];obtain⟨cs,e,hr⟩:=NG;exact⟨cs,e,hr.imp fun _ _=>aT.sub h⟩
  ·rename_i hc
   obtain⟨l,e,hr⟩:=NG;simp only[bva] at hc;simp only[hc,asa,aca];exact⟨l,e,hr.sub h⟩
 |Ak t ls=>obtain⟨u,cs,e1,e2,hr⟩:=r;exact⟨u,cs,e1,e2,hr.imp fun _ _=>aT.sub h⟩
theorem bM.sub{G G':Gh}(h:G.ME G'){st st':St}(hn:st'.n=st.n)(wM:∀ i,st'.ib i=st.ib i){a:Act}(r:bM G st a):bM G' st' a:=
 ⟨r.1.trans h.ds.symm,r.2.1.trans hn.symm,fun i v hv=>(r.2.2 i v (by rw[←wM i];exact hv)).sub h⟩
structure qS(st st':St):Prop where
 n:st'.n=st.n
 ib:∀ i,st'.ib i=st.ib i
 dL:∀ o,st'.dL o=st.dL o
 res:∀ o j l,st'.res o j l=st.res o j l
 bl:st'.cD=st.cD
 pn:st'.pin=st.pin
 vr:st'.ER=st.ER
theorem qS.refl(st:St):qS st st:=⟨rfl,fun _=>rfl,fun _=>rfl,fun _ _ _=>rfl,rfl,rfl,rfl⟩
theorem qS.trans{a b c:St}(h:qS a b)(k:qS b c):qS a c:=
 ⟨k.n.trans h.n,fun i=>(k.ib i).trans (h.ib i),fun o=>(k.dL o).trans (h.dL o),fun o j l=>(k.res o j l).trans (h.res o j l),k.bl.trans h.bl,k.pn.trans h.pn,k.vr.trans h.vr⟩
theorem Vq{H:fY}(hn:(H.map (·.1)).Nodup){p:Nat×Obj}(hp:p∈H):H.find? (fun q=>q.1==p.1)=some p:=by
 induction H with
 |nil=>cases hp
 |cons q H ih=>
  simp only[aFa,a0a] at hn;rcases aka.1 hp with rfl|hp
  ·simp
  ·have gT:q.1≠p.1:=fun e=>hn.1 (by rw[e];exact aGa hp)
   simp[gT,ih hn.2 hp]
theorem QN{X:mz}{st st':St}{G:Gh}{w:World}{l:ag}(h:st.yT l=some st')(hm:ay X st G w):
  ∃ G',ay X st' G' w∧G.ME G'∧qS st st':=by
 have aet:st' = st→∃ G',ay X st' G' w∧G.ME G'∧qS st st':=fun e=>by subst e;exact⟨G,hm,.refl G,.refl _⟩
 cases l with
 |mA a=>
  simp only[St.yT] at h;cases hA:look st.cM a with
  |none=>
   simp only[hA] at h;cases hB:look st.fK a with
   |none=>simp[hB] at h
   |some A=>cases hs:A.sh<;>simp[hB,hs] at h;exact aet h.symm
  |some A=>
   simp only[hA] at h;cases hs:A.sh with
   |true=>simp[hs] at h;exact aet h.symm
   |false=>
    cases hw:A.pd with
    |false=>simp[hs,hw] at h
    |true=>
    simp only[hs,hw,ana,Q9,OF] at h;subst h;have oW:st.arr a=some A:=by simp[St.arr,hA]
    have jr:∀ p∈G.HA a,eR G st (true,a) p.1:=fun p hp=>⟨⟨A,oW,hs⟩,p,hp,rfl⟩;have IU:=hm.nd a A oW hs;let S':DB:=fun b=>match (G.HA a).find? (fun q=>q.1==b) with|some p=>some p.2|none=>G.S b
    have hS':∀ p∈G.HA a,S' p.1=some p.2:=fun p hp=>by simp only[S',Vq IU hp]
    have hSS:∀ b o,G.S b=some o→S' b=some o:=fun b o hb=>by
     simp only[S'];cases hf:(G.HA a).find? (fun q=>q.1==b) with
     |none=>exact hb
     |some p=>
      have hp:=bVa hf;have hpb:p.1=b:=by simpa using cua hf
      have:=hm.dS _ _ (jr p hp);rw[hpb,hb] at this;cases this
    have hSc:∀ b o,S' b=some o→G.S b=some o∨(b,o)∈G.HA a:=fun b o hb=>by
     simp only[S'] at hb;cases hf:(G.HA a).find? (fun q=>q.1==b) with
     |none=>rw[hf] at hb;exact .inl hb
     |some p=>
      rw[hf] at hb;have hp:=bVa hf;have hpb:p.1=b:=by simpa using cua hf
      cases hb;subst hpb;exact .inr hp
    have p9:G.ME {G with S:=S' }:=⟨hSS,rfl,rfl,rfl,rfl,rfl,rfl,rfl,rfl⟩
    have nH:∀ x b,eR {G with S:=S' } (st.gE a {A with sh:=true}) x b→eR G st x b∧x≠(true,a):=fun x b hx=>by
     obtain⟨k,n⟩:=x;cases k with
     |false=>exact⟨hx,by simp⟩
     |true=>
      obtain⟨⟨B,hB,Kh⟩,hp⟩:=hx;rw[dG] at hB;by_cases e:a=n
      ·simp only[e,aua,OF] at hB;rw[←hB] at Kh;cases Kh
      ·simp only[e,aca] at hB
       exact⟨⟨⟨B,hB,Kh⟩,hp⟩,by simp;exact fun h=>e h.symm⟩
    refine⟨{G with S:=S' },?_,p9,⟨rfl,fun _=>rfl,fun _=>rfl,fun o j l=>by simp,rfl,rfl,rfl⟩⟩
    refine {sl:=hm.sl,sh:=?_,ob:=?_,ar:=?_,ah:=?_,nd:=?_,pX:=?_,dS:=?_,sZ:=?_,s0:=?_,sn:=?_,fr:=hm.fr,sz:=hm.sz,os:=hm.os,tp:=hm.tp,out:=hm.out,pin:=hm.pin,bv:=hm.bv,ap:=fun q u h=>(by obtain⟨h1,⟨B,h2⟩,h3⟩:=hm.ap q u h;exact⟨h1,(by rw[dG];split<;>exact⟨_,by first|rfl|exact h2⟩),h3⟩),hv:=hm.hv,ds:=hm.ds,hh:=fun q B hB B6 hn=>(by
     rw[dG] at hB;by_cases e:a=q
     ·simp only[e,aua,OF] at hB;rw[←hB] at B6;cases B6
     ·simp only[e,aca] at hB;exact hm.hh q B hB B6 hn)}
    ·intro b o hb
     rcases hSc b o hb with h|h
     ·exact hm.sh b o h
     ·exact hm.ah a A oW hs _ h
    ·intro o ls ho
     obtain⟨arr,elem,mid,h1,h2,h3⟩:=hm.ob o ls ho;refine⟨arr,elem,mid,h1,h2,?_⟩;unfold hY at h3 ⊢;rw[jW (st:=st) (fun j l=>by simp)]
     exact h3.imp fun _ _=>aT.sub p9
    ·intro b B hB
     rw[dG] at hB;by_cases e:a=b
     ·subst e
      simp only[aua,OF] at hB;subst hB;have h0:=hm.ar a A oW
      replace h0:=(gR hs hw).1 h0
      refine(xm rfl).2 ?_;rcases h0 with ⟨h1,h2,h3⟩|⟨b,cap,arr,elem,cells,rest,H',e1,e2,e3,e4,e5,e6⟩
      ·exact⟨rfl,.inl ⟨h1,none,0,h3⟩⟩
      ·refine⟨rfl,.inr ⟨b,cap,arr,elem,(0,0),[],cells,rest,e1,hS' (b,Obj.cells arr elem (0,0)) (by rw[e2];simp),e3,?_,e5⟩⟩
       exact e6.C6 (S':=S') (fun c x H hp hr=>fW.C6 hSS hp hr) (fun p hp=>hS' p (by rw[e2];simp[hp]))
     ·simp only[e,aca] at hB
      exact(hm.ar b B hB).mono hSS rfl rfl (fun _ _ _=>⟨rfl,rfl,rfl⟩)
    ·intro b B hB Kh
     rw[dG] at hB;by_cases e:a=b
     ·simp only[e,aua,OF] at hB;rw[←hB] at Kh;cases Kh
     ·simp only[e,aca] at hB;exact hm.ah b B hB Kh
    ·intro b B hB Kh
     rw[dG] at hB;by_cases e:a=b
     ·simp only[e,aua,OF] at hB;rw[←hB] at Kh;cases Kh
     ·simp only[e,aca] at hB;exact hm.nd b B hB Kh
    ·exact fun x y b hx hy=>hm.pX x y b (nH x b hx).1 (nH y b hy).1
    ·intro x b hx
     obtain⟨h1,h2⟩:=nH x b hx;cases hS:S' b with
     |none=>exact hS
     |some o=>
      rcases hSc b o hS with h|h
      ·rw[hm.dS x b h1] at h;cases h
      ·exact absurd (hm.pX x (true,a) b h1 (jr (b,o) h)) h2
    ·exact fun x b hx=>hm.sZ x b (nH x b hx).1
    ·exact fun b o hb=>hSS b o (hm.s0 b o hb)
    ·intro b o hb
     rcases hSc b o hb with h|h
     ·exact hm.sn b o h
     ·exact .inr (hm.sZ _ _ (jr (b,o) h))
 |_=>simp only[St.yT,OF] at h;exact aet h.symm
theorem Fg{X:mz}{w:World}:∀{ls:List ag} {st st':St} {G:Gh},st.uK ls=some st'→ay X st G w→
  ∃ G',ay X st' G' w∧G.ME G'∧qS st st'
 |[],st,st',G,h,hm=>by simp only[St.uK,OF] at h;subst h;exact⟨G,hm,.refl G,.refl _⟩
 |l::ls,st,st',G,h,hm=>by
  simp only[St.uK] at h;cases h1:st.yT l with
  |none=>simp[h1] at h
  |some wb=>simp only[h1] at h;obtain⟨G1,m1,s1,k1⟩:=QN h1 hm;obtain⟨G2,m2,s2,k2⟩:=Fg h m1;exact⟨G2,m2,s1.trans s2,k1.trans k2⟩
theorem Fh{X:mz}{w:World}{v:ab}{st st':St}{G:Gh}(h:v.qn st=some st')(hm:ay X st G w):
  ∃ G',ay X st' G' w∧G.ME G'∧qS st st':=by
 cases v with
 |one l=>exact QN h hm
 |agg ls=>exact Fg h hm
 |Lg vs=>cases h
 |Ak t ls=>exact Fg h hm
end Go.Fx
namespace Go.Fx
def KdV:Kd→Value→Prop
 |.int k,v=>∃ n,v=.int k n
 |.bool,v=>∃ b,v=.bool b
 |.str,v=>∃ s,v=.string s
def DR:Value→Value→Bool
 |.int _ a,.int _ b=>a==b
 |.bool a,.bool b=>a==b
 |.string a,.string b=>a==b
 |_,_=>false
def vd:List Value→List Value→Bool
 |x::r,y::s=>DR x y&&vd r s
 |_,_=>true
def Xz(P:Program)(f:TypeId→Option (List Kd)):List Field→Option (List Kd)
 |[]=>some []
 |fl::r=>(match f fl.type,Xz P f r with
  |some ks,some l=>(bif fl.name != "_" && Nat.beq (P.cellsOf fl.type) ks.length&&Nat.blt 0 ks.length then some (ks++l) else none)
  |_,_=>none)
def X7(P:Program):List Field→Nat→Bool
 |[],_=>true
 |fl::r,o=>Nat.beq fl.offset o&&X7 P r (o+P.cellsOf fl.type)
def CY(P:Program):Nat→TypeId→Option (List Kd)
 |0,_=>none
 |m+1,t=>(match P.underlying t with
  |some .bool=>some [.bool]
  |some (.int k)=>some [.int k]
  |some .string=>some [.str]
  |some (.struct fs)=>(bif !P.stoodInHeld t&&X7 P fs.toList 0 then Xz P (CY P m) fs.toList else none)
  |_=>none)
def IsV(P:Program)(t:TypeId)(xs:List Value)(x:Value):Prop:=
 match P.underlying t with
 |some (.struct _)=>x=.agg xs.toArray
 |_=>xs=[x]
section
variable {P:Program} (w:World)
theorem WT{m:Nat}{e:TypeId}{ks:List Kd}(h:CY P m e=some ks)(hc:P.cellsOf e=ks.length){xs:Array Value}{off:Nat}(hl:off+ks.length≤xs.size):
  ∃ a,(part e xs off).run P w=.ok a w∧IsV P e ((xs.toList.drop off).take ks.length) a:=by
 cases m with
 |zero=>cases h
 |succ m=>
  simp only[CY] at h;have As:∀{d:TypeDesc},P.underlying e=some d→ks.length=1→(∀ fs,d≠.struct fs)→(isAgg e).run P w=.ok false w→∃ a,(part e xs off).run P w=.ok a w∧IsV P e ((xs.toList.drop off).take ks.length) a:=fun {d} hu h1 hs hg=>by
   have bq:off<xs.size:=by omega
   refine⟨xs[off],?_,?_⟩
   ·simp[part,hg,bq]
   ·unfold IsV
    rw[hu];cases d<;>first|exact absurd rfl (hs _)|(simp only[];rw[h1];apply bHa;intro i;cases i with
     |zero=>simp[bq]
     |succ i=>simp;omega)
  split at h
  ·rename_i hu;cases h;exact As hu rfl (fun fs e=>by cases e) (by simp[isAgg,aCa hu])
  ·rename_i k hu;cases h;exact As hu rfl (fun fs e=>by cases e) (by simp[isAgg,aCa hu])
  ·rename_i hu;cases h;exact As hu rfl (fun fs e=>by cases e) (by simp[isAgg,aCa hu])
  ·rename_i fs hu
   obtain⟨i,hi⟩:=info_of_underlying hu;refine⟨.agg (xs.extract off (off+P.cellsOf e)),by simp[part,isAgg,aCa hu,run_sizeOf w hi],?_⟩
   unfold IsV;rw[hu];simp only[];rw[hc]
   congr 1
   apply Array.toList_inj.1;rw[Array.toList_extract];simp[List.extract]
  ·cases h
theorem Io:∀{xs ys xs' ys':List Value},xs.length=ys.length→vd (xs++xs') (ys++ys')=(vd xs ys&&vd xs' ys')
 |[],[],_,_,_=>by simp[vd]
 |x::r,y::s,xs',ys',h=>by simp only[a2a,vd,Io (xs:=r) (ys:=s) (by simpa using h),Bool.and_assoc]
 |[],_::_,_,_,h=>by simp at h
 |_::_,[],_,_,h=>by simp at h
def VZ(P:Program)(m:Nat):Prop:=∀(t:TypeId) (ks:List Kd),CY P m t=some ks→∀(d:Nat) (w:World) (x y:Value) (xs ys:List Value),All2 KdV ks xs→All2 KdV ks ys→IsV P t xs x→IsV P t ys y→
 (Op.equalIn (d+m) t x y).run P w=.ok (vd xs ys) w
theorem JO{α β:Type}{R:α→β→Prop}:∀{ks ls:List α} {xs:List β},All2 R (ks++ls) xs→All2 R ks (xs.take ks.length)∧All2 R ls (xs.drop ks.length)
 |[],ls,xs,h=>⟨by simp[All2],by simpa using h⟩
 |k::ks,ls,x::xs,h=>by obtain⟨h1,h2⟩:=h;obtain⟨h3,h4⟩:=JO (ks:=ks) h2;exact⟨⟨h1,by simpa using h3⟩,by simpa using h4⟩
 |k::ks,ls,[],h=>h.elim
theorem P9{m d:Nat}(ih:VZ P m)(xs ys:Array Value):∀{fs:List Field} {off:Nat} {ks:List Kd},Xz P (CY P m) fs=some ks→X7 P fs off=true→All2 KdV ks (xs.toList.drop off)→All2 KdV ks (ys.toList.drop off)→
  (Op.eqFields (d+m) xs ys fs).run P w=.ok (vd (xs.toList.drop off) (ys.toList.drop off)) w
 |[],off,ks,h,_,hx,hy=>by
  cases h;have e1:xs.toList.drop off=[]:=by cases hq:xs.toList.drop off with
   |nil=>rfl
   |cons a r=>rw[hq] at hx;exact hx.elim
  rw[e1];simp[Op.eqFields,vd]
 |f::r,off,ks,h,ho,hx,hy=>by
  simp only[Xz] at h;split at h
  ·rename_i k1 k2 h1 h2
   cases hb:(f.name != "_" && Nat.beq (P.cellsOf f.type) k1.length&&Nat.blt 0 k1.length) with
   |false=>rw[hb] at h;cases h
   |true=>
    rw[hb] at h;cases h;simp only[Q4,aYa] at hb;obtain⟨⟨hn,hc⟩,vQ⟩:=hb;have vQ:0<k1.length:=by simpa[b1a] using vQ
    have hc:=Q5 hc;simp only[X7,Q4] at ho;obtain⟨ho1,ho2⟩:=ho;have ho1:=Q5 ho1;obtain⟨x1,x2⟩:=JO hx;obtain⟨y1,y2⟩:=JO hy;rw[cAa] at x2 y2;have lx:off+k1.length≤xs.size:=by have:=All2.length hx;simp at this;omega
    have ly:off+k1.length≤ys.size:=by have:=All2.length hy;simp at this;omega
    obtain⟨a,p1,v1⟩:=WT w h1 hc (xs:=xs) (off:=off) lx;obtain⟨b,p2,v2⟩:=WT w h1 hc (xs:=ys) (off:=off) ly;have he:=ih f.type k1 h1 d w a b _ _ x1 y1 v1 v2;rw[hc] at ho2;have ht:=P9 (d:=d) ih xs ys (fs:=r) (off:=off+k1.length) h2 ho2 x2 y2;have e3:xs.toList.drop off=(xs.toList.drop off).take k1.length++xs.toList.drop (off+k1.length):=by rw[←cAa,b4a]
    have e4:ys.toList.drop off=(ys.toList.drop off).take k1.length++ys.toList.drop (off+k1.length):=by rw[←cAa,b4a]
    have hl:((xs.toList.drop off).take k1.length).length=((ys.toList.drop off).take k1.length).length:=by rw[←All2.length x1,←All2.length y1]
    rw[e3,e4,Io hl];simp only[Op.eqFields,hn,ne_eq,not_false_eq_true,aua,aKa,ho1,p1,p2,he,aDa];cases vd ((xs.toList.drop off).take k1.length) ((ys.toList.drop off).take k1.length) with
    |false=>simp
    |true=>simpa using ht
  ·cases h
theorem Wg:∀ m,VZ P m
 |0=>fun t ks h=>by cases h
 |m+1=>fun t ks h d w x y xs ys hx hy vx vy=>by
  simp only[CY] at h;unfold IsV at vx vy;split at h
  ·rename_i hu
   cases h;rw[hu] at vx vy;simp only at vx vy;subst vx vy;obtain⟨⟨a,rfl⟩,_⟩:=hx;obtain⟨⟨b,rfl⟩,_⟩:=hy;rw[←bDa,Op.equalIn];simp[aCa hu,vd,DR]
  ·rename_i k hu
   cases h;rw[hu] at vx vy;simp only at vx vy;subst vx vy;obtain⟨⟨a,rfl⟩,_⟩:=hx;obtain⟨⟨b,rfl⟩,_⟩:=hy;rw[←bDa,Op.equalIn];simp[aCa hu,vd,DR]
  ·rename_i hu
   cases h;rw[hu] at vx vy;simp only at vx vy;subst vx vy;obtain⟨⟨a,rfl⟩,_⟩:=hx;obtain⟨⟨b,rfl⟩,_⟩:=hy;rw[←bDa,Op.equalIn];simp[aCa hu,vd,DR]
  ·rename_i fs hu
   cases hb:(!P.stoodInHeld t&&X7 P fs.toList 0) with
   |false=>rw[hb] at h;cases h
   |true=>
    rw[hb] at h;simp only[Q4,aLa] at hb;simp only[Q9] at h;rw[hu] at vx vy;simp only at vx vy;subst vx vy;have hfs:P.fieldsOf t=fs:=by simp[Program.fieldsOf,hu]
    rw[←bDa,run_equalIn_struct w (d+m) t _ _ (by rw[hfs];exact hu) hb.1,hfs]
    have:=P9 w (d:=d) (Wg m) xs.toArray ys.toArray h hb.2 (by simpa using hx) (by simpa using hy)
    simpa using this
  ·cases h
theorem Tr:∀{m:Nat} {t:TypeId} {ks:List Kd},CY P m t=some ks→∀ d,P.eqGuardType (d+m) t=false
 |0,t,ks,h,d=>by cases h
 |m+1,t,ks,h,d=>by
  simp only[CY] at h;rw[←bDa,Program.eqGuardType];split at h
  ·rename_i hu;simp[hu]
  ·rename_i k hu;simp[hu]
  ·rename_i hu;simp[hu]
  ·rename_i fs hu
   simp only[hu];cases hb:(!P.stoodInHeld t&&X7 P fs.toList 0) with
   |false=>rw[hb] at h;cases h
   |true=>
    rw[hb] at h;simp only[Q9] at h;have key:∀{l:List Field} {ks:List Kd},Xz P (CY P m) l=some ks→∀ f∈l,P.eqGuardType (d+m) f.type=false:=by
     intro l;induction l with
     |nil=>intro ks _ f hf;cases hf
     |cons f r ih=>
      intro ks h g hg;simp only[Xz] at h;split at h
      ·rename_i k1 k2 h1 h2
       rcases aka.1 hg with rfl|hg
       ·exact Tr h1 d
       ·exact ih h2 g hg
      ·cases h
    rw[Array.any_eq_false'];intro f hf;simp[key h f (Array.mem_toList_iff.2 hf)]
  ·cases h
end
end Go.Fx
namespace Go.Fx
def y8:TD→TypeDesc→Prop
 |.int k,.int k'=>k=k'
 |.bool,.bool=>True
 |.str,.string=>True
 |.slice e,.slice e'=>e=e'
 |.struct fs,.struct nV=>fs=nV.toList.map fun f=>(f.offset,f.type)
 |.np e,.pointer e'=>e=e'
 |.arr n e,.array n' e'=>n=n'∧e=e'
 |.mp k v,.map k' v'=>k=k'∧v=v'
 |.aac,d=>d.isRow=false∧(match d with | .int _ | .string | .slice _=>False|_=>True)
 |_,_=>False
def zZ(P:Program)(t:TypeId)(ti:TI):Prop:=
 ∃ i d z,P.info? t=some i∧P.underlying t=some d∧i.size=ti.size∧i.bytes=ti.bytes∧i.zero=some z∧z.cells.toList=ti.zero∧y8 ti.iz d∧
  (ti.iz.agg=false→ti.size=1)∧ti.zero.length=ti.size∧(∀ ks,ti.iz.agg=true→ti.ty.bind Ks=some ks→CY P 6 t=some ks)∧
  ∀ k v,ti.iz=.mp k v→P.underlying k=some .string∧P.underlying v=some (.int .i64)∧∃ j,P.info? v=some j∧j.zero=some (.int .i64 0)
def iq(P:Program)(ia:Nat→Option TI):Prop:=∀ t ti,ia t=some ti→zZ P t ti
theorem y8.row{x:TD}{d:TypeDesc}(h:y8 x d):d.isRow=x.agg:=by cases x<;>cases d<;>simp_all[y8,TypeDesc.isRow,TD.agg]
theorem Wk{α:Type}{G:Gh}{R:List Value→α→fY→Prop}{f:α→List ag}(hf:∀ c x,R c x []→All2 (aT G) (f x) c):∀{l:List α} {cs:List Value} {H:fY},H=[]→RepL R cs l H→All2 (aT G) (l.flatMap f) cs
 |[],cs,H,_,h=>by rw[h.1];trivial
 |x::l,cs,H,hH,⟨c1,c2,H1,H2,e1,e2,r,rl⟩=>by obtain⟨rfl,rfl⟩:=bPa.1 (hH ▸ e2.symm:H1++H2=[]);rw[e1,bJa];exact(hf _ _ r).append (Wk hf rfl rl)
theorem lE{G:Gh}:∀{t:Ty} {d:t.nw} {cs:List Value},fW G.S false t cs d []→All2 (aT G) (jO t d) cs
 |.int k,d,cs,h=>by rw[h.1];exact⟨⟨_,by simp[Ty.agg],rfl,rfl⟩,trivial⟩
 |.bool,d,cs,h=>by rw[h.1];exact⟨⟨_,by simp[Ty.agg],rfl,rfl⟩,trivial⟩
 |.str,d,cs,h=>by rw[h.1];exact⟨⟨_,by simp[Ty.agg],rfl,rfl⟩,trivial⟩
 |.slice t,d,cs,h=>by
  have hs:=fW.size h
  match cs,hs,h with
  |[v],_,h=>exact⟨⟨[v],by simp[Ty.agg],h⟩,trivial⟩
 |.aO a b,d,cs,h=>by obtain⟨c1,c2,H1,H2,rfl,hH,h1,h2⟩:=h;obtain⟨rfl,rfl⟩:=bPa.1 hH.symm;exact(lE h1).append (lE h2)
 |.one a,d,cs,h=>by exact lE (t:=a) h
 |.arr n t,d,cs,h=>Wk (fun c x hx=>lE (t:=t) hx) rfl h.1
theorem Zc{X:mz}{st:St}{G:Gh}{w:World}(hm:ay X st G w){t:Ty}{l:ag}{d:t.nw}{v:Value}(h:l.wh st t=some d)(r:aT G l v):aT G (.eV t d) v:=by
 cases l with
 |eV u e=>obtain⟨rfl,rfl⟩:=lC h;exact r
 |nil=>
  cases t with
  |slice t=>simp only[ag.wh,OF] at h;subst h;simp only[aT] at r;subst r;exact⟨_,by simp[Ty.agg],rfl,.inl ⟨rfl,none,0,rfl⟩⟩
  |_=>simp[ag.wh] at h
 |mA a=>
  simp only[ag.wh] at h;cases hA:st.arr a with
  |none=>simp[hA] at h
  |some A=>
   cases hs:A.sh with
   |false=>simp[hA,hs] at h
   |true=>
    simp only[hA,hs,aua] at h;obtain⟨e,hd⟩:=lC h;subst e;subst hd;have:=hm.ar a A hA
    replace this:=(xm hs).1 this
    simp only[aT] at r;subst r;exact⟨[G.ψ a],by simp[Ty.agg],this⟩
 |_=>simp[ag.wh] at h
theorem Nt{X:mz}{st:St}{G:Gh}{w:World}(hm:ay X st G w){t:Ty}(ht:t.agg=false){l:ag}{d:t.nw}{v:Value}(h:l.wh st t=some d)(r:aT G l v):
  fW G.S false t [v] d []:=by
 obtain⟨cs,e,hr⟩:=Zc hm h r;simp only[ht,asa,aca] at e;subst e;exact hr
theorem NN{X:mz}{st:St}{G:Gh}{w:World}(hm:ay X st G w):∀{t:Ty} {ls r:List ag} {d:t.nw} {vs:List Value},o8 st t ls=some (d,r)→All2 (aT G) ls vs→
  ∃ c1 c2,vs=c1++c2∧fW G.S false t c1 d []∧All2 (aT G) r c2:=by
 have bN:∀{t:Ty},t.agg=false→∀{ls r:List ag} {d:t.nw} {vs:List Value},
   (match ls with|[]=>none|l::r=>(l.wh st t).map fun d=>(d,r))=some (d,r)→All2 (aT G) ls vs→
   ∃ c1 c2,vs=c1++c2∧fW G.S false t c1 d []∧All2 (aT G) r c2:=by
  intro t ht ls r d vs h a
  match ls,vs,h,a with
  |l::ls,v::vs,h,a=>simp only[aIa,aia] at h;obtain⟨d',hd,rfl,rfl⟩:=h;exact⟨[v],vs,rfl,Nt hm ht hd a.1,a.2⟩
  |[],_,h,_=>simp at h
 intro t;induction t with
 |int k=>exact fun h a=>bN rfl h a
 |bool=>exact fun h a=>bN rfl h a
 |str=>exact fun h a=>bN rfl h a
 |slice t _=>exact fun h a=>bN rfl h a
 |aO a b NM ihb=>
  intro ls r d vs h al;simp only[o8] at h;cases h1:o8 st a ls with
  |none=>simp[h1] at h
  |some p=>
   obtain⟨x,r1⟩:=p;simp only[h1] at h;cases h2:o8 st b r1 with
   |none=>simp[h2] at h
   |some q=>obtain⟨y,r2⟩:=q;simp only[h2,OF,aia] at h;obtain⟨rfl,rfl⟩:=h;obtain⟨c1,c2,rfl,g1,a1⟩:=NM h1 al;obtain⟨c3,c4,rfl,g2,a2⟩:=ihb h2 a1;exact⟨c1++c3,c4,by simp,⟨c1,c3,[],[],rfl,rfl,g1,g2⟩,a2⟩
 |one a NM=>intro ls r d vs h al;exact NM h al
 |arr n t ih=>
  intro ls r d vs h al;have key:∀(n:Nat) {ls r:List ag} {d:List t.nw} {vs:List Value},Qj (o8 st t) n ls=some (d,r)→All2 (aT G) ls vs→
    ∃ c1 c2,vs=c1++c2∧(RepL (fW G.S false t) c1 d []∧d.length=n)∧All2 (aT G) r c2:=by
   intro n;induction n with
   |zero=>intro ls r d vs h al;simp only[Qj,OF,aia] at h;obtain⟨rfl,rfl⟩:=h;exact⟨[],vs,rfl,⟨⟨rfl,rfl⟩,rfl⟩,al⟩
   |succ n ihn=>
    intro ls r d vs h al;simp only[Qj] at h;cases h1:o8 st t ls with
    |none=>simp[h1] at h
    |some p=>
     obtain⟨x,r1⟩:=p;simp only[h1] at h;cases h2:Qj (o8 st t) n r1 with
     |none=>simp[h2] at h
     |some q=>obtain⟨y,r2⟩:=q;simp only[h2,OF,aia] at h;obtain⟨rfl,rfl⟩:=h;obtain⟨c1,c2,rfl,g1,a1⟩:=ih h1 al;obtain⟨c3,c4,rfl,⟨g2,g3⟩,a2⟩:=ihn h2 a1;exact⟨c1++c3,c4,by simp,⟨⟨c1,c3,[],[],rfl,rfl,g1,g2⟩,by simp[g3]⟩,a2⟩
  exact key n h al
theorem DG{X:mz}{st:St}{G:Gh}{w:World}(hm:ay X st G w){t:Ty}{v:ab}{d:t.nw}{x:Value}(h:v.wh st t=some d)(r:aP G v x):aT G (.eV t d) x:=by
 cases v with
 |one l=>exact Zc hm h r
 |agg ls=>
  simp only[ab.wh] at h;cases ht:t.agg with
  |false=>simp[ht] at h
  |true=>
   simp only[ht,Q9] at h;cases hi:o8 st t ls with
   |none=>simp[hi] at h
   |some p=>
    obtain⟨e,r'⟩:=p;cases r' with
    |cons=>simp[hi] at h
    |nil=>
     simp only[hi,OF] at h;subst h;obtain⟨cs,rfl,ha⟩:=r;obtain⟨c1,c2,rfl,g1,a1⟩:=NN hm hi ha;cases c2 with
     |cons=>exact a1.elim
     |nil=>exact⟨c1,by simp[ht],g1⟩
 |Lg vs=>simp[ab.wh] at h
 |Ak t' ls=>simp[ab.wh] at h
theorem S4{X:mz}{st:St}{G:Gh}{w:World}(hm:ay X st G w){l:ag}{v:Value}(hc:l.cell=true)(r:aT G l v):v.oneCell' = true∧v.cells = #[v]:=by
 cases l with
 |any=>cases hc
 |ur=>cases hc
 |uZ=>cases hc
 |eV t d=>
  obtain⟨cs,e,hr⟩:=r;simp only[ag.cell,aLa] at hc;simp only[hc,asa,aca] at e;subst e;cases t with
  |int k=>cases hr.1;exact⟨rfl,rfl⟩
  |bool=>cases hr.1;exact⟨rfl,rfl⟩
  |str=>cases hr.1;exact⟨rfl,rfl⟩
  |slice t=>rcases hr with ⟨_,⟨_,iL,cap,h⟩|⟨b,cap,arr,elem,fz,pre,cells,rest,h,_⟩⟩<;>cases h<;>exact⟨rfl,rfl⟩
  |aO a b=>cases hc
  |one a=>cases hc
  |arr n a=>cases hc
 |nil=>cases r;exact⟨rfl,rfl⟩
 |Kz=>cases r;exact⟨rfl,rfl⟩
 |mA a=>rcases hm.sl a with ⟨b,n,c,h⟩|⟨q,h⟩|⟨q,h⟩<;>(simp only[aT] at r;rw[r,h];exact⟨rfl,rfl⟩)
 |np o off=>cases r;exact⟨rfl,rfl⟩
 |DT a sz i off=>obtain⟨b,len,cap,h1,h2,rfl⟩:=r;exact⟨rfl,rfl⟩
 |PK t d off=>obtain⟨b,arr,elem,fz,pre,cs,post,h1,h2,h3,rfl⟩:=r;exact⟨rfl,rfl⟩
 |fn f=>cases r;exact⟨rfl,rfl⟩
 |Fb a v sz i off=>obtain⟨_,⟨x,n,c,rfl⟩,_⟩:=r;exact⟨rfl,rfl⟩
 |nse a v sz i off sz2 j TU=>obtain⟨b2,Ku,LF,_,_,rfl⟩:=r;exact⟨rfl,rfl⟩
 |L9 a k n=>obtain⟨b,_,rfl⟩:=r;exact⟨rfl,rfl⟩
 |ga t l=>obtain⟨b,arr,elem,fz,cs,rest,h1,h2,h3,rfl⟩:=r;exact⟨rfl,rfl⟩
theorem mv{X:mz}{st:St}{G:Gh}{w:World}(hm:ay X st G w){v:ab}{ls:List ag}{x:Value}(h:v.pH=some ls)(r:aP G v x):All2 (aT G) ls x.cells.toList:=by
 have key:∀ l:ag,v=.one l→l.cell=true→ls=[l]→All2 (aT G) ls x.cells.toList:=fun l hv hc hl=>by subst hv hl;rw[(S4 hm hc r).2];exact⟨r,trivial⟩
 have dt:∀(t:Ty) (d:t.nw),v=.one (.eV t d)→t.agg=true→ls=jO t d→All2 (aT G) ls x.cells.toList:=fun t d hv ht hl=>by subst hv hl;obtain⟨cs,e,hr⟩:=r;simp only[ht,aua] at e;subst e;exact lE hr
 unfold ab.pH at h;split at h
 ·simp only[OF] at h;exact dt _ _ rfl rfl h.symm
 ·simp only[OF] at h;exact dt _ _ rfl rfl h.symm
 ·simp only[OF] at h;exact dt _ _ rfl rfl h.symm
 ·rename_i l _ _ _
  cases hc:l.cell<;>simp[hc] at h;exact key l rfl hc h.symm
 ·simp only[OF] at h;subst h
  obtain⟨cs,rfl,ha⟩:=r;exact ha
 ·cases h
theorem EK{α β:Type}{R:α→β→Prop}{ls:List α}{vs:List β}{off n:Nat}{c:List α}(a:All2 R ls vs)(h:(bif Nat.ble (off+n) ls.length then some ((ls.drop off).take n) else none)=some c):
  ∃ pre mid post,vs=pre++(mid++post)∧pre.length=off∧mid.length=n∧All2 R c mid:=by
 cases hb:Nat.ble (off+n) ls.length with
 |false=>simp[hb] at h
 |true=>
  have B4:off+n≤ls.length:=aUa hb;simp only[hb,Q9,OF] at h;subst h;have hl:=a.length;refine⟨vs.take off,(vs.drop off).take n,(vs.drop off).drop n,?_,by simp;omega,by simp;omega,(a.drop off).take n⟩
  rw[b4a,b4a]
theorem aai{G:Gh}{c:List ag}{mid:List Value}(a:All2 (aT G) c mid):aP G (Ex true c) (.agg mid.toArray):=⟨mid,rfl,a⟩
theorem Yc{G:Gh}{c:List ag}{v:Value}(a:All2 (aT G) c [v]):aP G (Ex false c) v:=by
 match c,a with
 |[l],a=>exact a.1
def Yg(agg:Bool)(mid:List Value):Value:=if agg then .agg mid.toArray else mid.headD undef
theorem uF{G:Gh}{g:Bool}{c:List ag}{mid:List Value}(hg:g=false→mid.length=1)(a:All2 (aT G) c mid):aP G (Ex g c) (Yg g mid):=by
 cases g with
 |true=>exact aai a
 |false=>
  match mid,hg rfl with
  |[v],_=>exact Yc a
theorem uJ{P:Program}{w:World}{t:TypeId}{ti:TI}(hT:zZ P t ti){b o:Nat}{mid:List Value}(hl:mid.length=ti.size)(hc:w.rangeAt b o mid):
  (Instr.loadAt t (.pointer (some ⟨b,o,none⟩))).run P w=.ok (Yg ti.iz.agg mid) w:=by
 obtain⟨i,d,z,h1,h2,h3,h4,h5,h6,h7,h8,h9⟩:=hT;have afs:=h7.row;cases hg:ti.iz.agg with
 |true=>exact run_loadAt_mid w b o t mid d hc h2 (afs.trans hg) (by rw[h1,hl,←h3];rfl)
 |false=>
  have h1':=h8 hg;rw[h1'] at hl
  match mid,hl,hc with
  |[v],_,hc=>
   have sC:=hc 0 v rfl;have adx:(isAgg t).run P w=.ok false w:=by unfold isAgg;rw[aKa,aCa h2 w];rw[hg] at afs;cases d<;>simp_all[TypeDesc.isRow]
   simp only[cra] at sC;simp[Instr.loadAt,Instr.sureAddr,loadVar,adx,sC,Yg]
theorem nY{w:World}{b o:Nat}{arr:Array Value}{elem:TypeId}{fz:Nat×Nat}{pre mid post:List Value}(h:w.heap[b]? = some (.cells arr elem fz))(ha:arr.toList=pre++(mid++post))(ho:pre.length=o):w.rangeAt b o mid:=by intro j v hj;have bq:j<mid.length:=(aja.1 hj).1;simp only[World.cell?,h,Option.isSome_none,asa,aca];rw[←bsa,ha,←ho,aPa (by omega),bca,aRa bq,hj]
theorem Mc{G:Gh}{a v sz i:Nat}(hb:∃ b len cap,G.ψ a=.slice (some ⟨b,0,none⟩) len cap∧i<len)(hv:v≤G.vn a):∀{t:Ty} {d:t.nw} {cs:List Value} {H:fY} {off:Nat},t.rE=true→fW G.S true t cs d H→
  (∀ j u,cs[j]? = some u→(G.HV a v)[i * sz+(off+j)]? = some u)→All2 (aT G) (U5 a v sz i t d off) cs
 |.int k,d,cs,H,off,_,h,_=>by rw[h.1];exact⟨⟨_,by simp[Ty.agg],rfl,rfl⟩,trivial⟩
 |.bool,d,cs,H,off,_,h,_=>by rw[h.1];exact⟨⟨_,by simp[Ty.agg],rfl,rfl⟩,trivial⟩
 |.str,d,cs,H,off,_,h,_=>by rw[h.1];exact⟨⟨_,by simp[Ty.agg],rfl,rfl⟩,trivial⟩
 |.slice t,d,cs,H,off,_,h,hc=>by
  obtain⟨x,n,c,rfl⟩:∃ x n c,cs=[.slice x n c]:=by rcases h with ⟨_,_,e⟩|⟨b,cap,arr,elem,cells,rest,H',e,_⟩<;>exact⟨_,_,_,e⟩
  exact⟨⟨hv,⟨x,n,c,rfl⟩,hb,hc 0 _ rfl⟩,trivial⟩
 |.aO t u,d,cs,H,off,hn,h,hc=>by
  simp only[Ty.rE,Q4] at hn;obtain⟨c1,c2,H1,H2,rfl,rfl,h1,h2⟩:=h;have hl:=fW.size h1;refine(Mc hb hv hn.1 h1 fun j u hj=>hc j u (by rw[aRa (aja.1 hj).1];exact hj)).append
   (Mc hb hv hn.2 h2 fun j u hj=>?_)
  have:=hc (t.size+j) u (by rw[aPa (by omega),hl,bca];exact hj)
  rw[bDa];exact this
 |.one t,d,cs,H,off,hn,h,hc=>by exact Mc (t:=t) hb hv hn h hc
 |.arr _ _,d,cs,H,off,hn,_,_=>by cases hn
section ops
variable {P:Program} {E:sb} (hE:iq P E.ia) {X:mz} {st:St} {G:Gh} {w:World} {R:Type} {r:R}
include hE
theorem KC{T:TypeId}{x:ab}{vx:Value}{K:ab→St→Option R}(h:yM E T x st K=some r)(hm:ay X st G w)(hx:aP G x vx):
  ∃ av v,(Instr.loadAt T vx).run P w=.ok v w∧aP G av v∧K av st=some r:=by
 unfold yM at h;cases hT:E.ia T with
 |none=>simp[hT] at h
 |some ti=>
  simp only[hT] at h;have hti:=hE T ti hT;have h1:ti.iz.agg=false→ti.size=1:=by obtain⟨_,_,_,_,_,_,_,_,_,_,h8,_⟩:=hti;exact h8
  cases x with
  |agg ls=>simp[ab.bN] at h
  |Lg ls=>simp[ab.bN] at h
  |Ak t ls=>simp[ab.bN] at h
  |one l=>
   simp only[ab.bN] at h;cases l with
   |np o off=>
    simp only at h;cases ho:st.dL o with
    |none=>simp[ho] at h
    |some ls=>
     simp only[ho] at h;cases hs:qo (st.jV o 0 ls) off ti.size with
     |none=>simp[hs] at h
     |some c=>simp only[hs] at h;obtain⟨arr,elem,mid,e1,e2,e3⟩:=hm.ob o ls ho;obtain⟨p1,m,q1,rfl,f2,f3,f4⟩:=EK e3 hs;cases hx;refine⟨_,_,uJ hti f3 (nY (pre:=G.pre o++p1) (post:=q1++G.post o) e1 (by rw[e2];simp) (by simp[f2])),uF (fun hg=>by rw[f3,h1 hg]) f4,h⟩
   |PK t d off=>
    simp only at h;cases hs:qo (jO t d) off ti.size with
    |none=>simp[hs] at h
    |some c=>simp only[hs] at h;obtain⟨b,arr,elem,fz,pre,cs,post,e1,e2,e3,rfl⟩:=hx;obtain⟨p1,m,q1,rfl,f2,f3,f4⟩:=EK (lE e3) hs;refine⟨_,_,uJ hti f3 (nY (pre:=pre++p1) (post:=q1++post) (hm.sh _ _ e1) (by rw[e2];simp) (by simp[f2])),uF (fun hg=>by rw[f3,h1 hg]) f4,h⟩
   |ga t l=>
    simp only at h;split at h
    ·rename_i n e hd
     cases hb:(Nat.beq l.length n&&Nat.beq ti.size (n * t.size)) with
     |false=>simp[hb] at h
     |true=>
      simp only[hb,Q9] at h;simp only[Q4] at hb;have e1:=Q5 hb.1;have e2:=Q5 hb.2;obtain⟨b,arr,elem,fz,cs,rest,g1,g2,g3,rfl⟩:=hx;have hl:cs.length=ti.size:=by rw[RepL.size (n:=t.size) (fun c x H h=>fW.size h) g3,e1,e2]
      have hag:ti.iz.agg=true:=by rw[hd];rfl
      refine⟨_,_,uJ hti hl (nY (pre:=[]) (post:=rest) (hm.sh _ _ g1) (by rw[g2];rfl) rfl),?_,h⟩
      rw[hag];exact⟨cs,rfl,g3,e1⟩
    ·cases h
   |DT a sz i off=>
    simp only at h;cases hA:st.arr a with
    |none=>simp[hA] at h
    |some A=>
     simp only[hA] at h;cases hb:(A.sh||!Nat.beq sz A.t.size) with
     |true=>simp[hb] at h
     |false=>
      simp only[hb,ana] at h;simp only[aEa,bla] at hb;obtain⟨dq,mF⟩:=hb;have mF:sz=A.t.size:=Q5 mF;obtain⟨b,len,cap,g1,g2,rfl⟩:=hx;have sy:=hm.ar a A hA;split at h
      ·rename_i ux
       obtain⟨d,hd1,h⟩:=awa.1 h;cases hs:qo (jO A.t d) off ti.size with
       |none=>simp[hs] at h
       |some c=>
        simp only[hs] at h;have hd:A.bK=false:=by simp[jG.bK,ux]
        replace sy:=(gR dq (DV hd)).1 sy
        rw[hd] at sy;have hi:A.l[i]? = some d:=by simpa[bA] using hd1
        rcases sy with ⟨e1,e2,e3⟩|⟨b',cap',arr,elem,cells,rest,H',e1,e2,e3,e4,e5,e6⟩
        ·rw[e1] at hi;simp at hi
        ·simp only[aHa,a7a] at e1
         rw[e1] at g1;cases g1;have sR:=hm.ah a A hA dq (b,Obj.cells arr elem (0,0)) (by rw[e2];simp)
         obtain⟨pre,cc,post,Hp,Hc,Hq,k1,k2,k3,k4,k5⟩:=RepL.at (fun c x H hr=>fW.size hr) e6 hi;have k4':fW G.S false A.t cc d []:=by have e:=fW.ny k4;rw[e] at k4;exact k4
         obtain⟨p1,m,q1,rfl,f2,f3,f4⟩:=EK (lE k4') hs;refine⟨_,_,uJ hti f3 (nY (pre:=pre++p1) (post:=q1++(post++rest)) sR (by rw[e3,k1];simp) (by simp[k2,f2,mF])),uF (fun hg=>by rw[f3,h1 hg]) f4,h⟩
      ·rename_i ux
       cases hna:A.t.rE with
       |false=>simp[hna] at h
       |true=>
        simp only[hna,Q9] at h;obtain⟨d,hd1,h⟩:=awa.1 h;cases hs:qo (U5 a (st.dA a) A.t.size i A.t d 0) off ti.size with
        |none=>simp[hs] at h
        |some c=>
         simp only[hs] at h
         replace sy:=(gR dq (show A.pd=true by simp[jG.pd,ux])).1 sy
         rw[show A.bK=true by simp[jG.bK,ux]] at sy
         have hi:A.l[i]? = some d:=by simpa[bA] using hd1
         rcases sy with ⟨e1,e2,e3⟩|⟨b',cap',arr,elem,cells,rest,H',e1,e2,e3,e4,e5,e6⟩
         ·rw[e1] at hi;simp at hi
         ·simp only[aHa,a7a] at e1
          have g1':=g1;rw[e1] at g1;cases g1;have sR:=hm.ah a A hA dq (b,Obj.cells arr elem (0,0)) (by rw[e2];simp)
          have hhd:=hm.hh a A hA dq (by simp[jG.nest,ux])
          rw[e2] at hhd;obtain⟨pre,cc,post,Hp,Hc,Hq,k1,k2,k3,k4,k5⟩:=RepL.at (fun c x H hr=>fW.size hr) e6 hi;have hx2:All2 (aT G) (U5 a (st.dA a) A.t.size i A.t d 0) cc:=Mc ⟨b,_,cap,g1',g2⟩ (by rw[hm.hv];exact ava _) hna k4 fun j u hj=>by rw[←hm.hv,hhd];simp only[kp];have hjl:=(aja.1 hj).1;rw[e3,k1,aTa,←k2,a1a,aPa (by omega),bca,a1a,aRa hjl];exact hj
          obtain⟨p1,m,q1,rfl,f2,f3,f4⟩:=EK hx2 hs;refine⟨_,_,uJ hti f3 (nY (pre:=pre++p1) (post:=q1++(post++rest)) sR (by rw[e3,k1];simp) (by simp[k2,f2,mF])),uF (fun hg=>by rw[f3,h1 hg]) f4,h⟩
      ·cases h
   |L9 a k n=>
    simp only at h;cases hA:st.arr a with
    |none=>simp[hA] at h
    |some A=>
     simp only[hA] at h;cases hb:(!A.sh&&Md.lj A.md .arr&&Nat.beq A.t.size 1&&!A.t.agg&&Nat.beq ti.size 1&&!ti.iz.agg) with
     |false=>rw[hb] at h;cases h
     |true=>
      rw[hb,Q9] at h;simp only[Q4,aLa] at hb;obtain⟨⟨⟨⟨⟨dq,ux⟩,mF⟩,hag⟩,hts⟩,htg⟩:=hb;have mF:=Q5 mF;have hts:=Q5 hts;obtain⟨d,hd1,h⟩:=awa.1 h;obtain⟨b,g1,rfl⟩:=hx;obtain⟨b',arr,elem,e1,e2,e3⟩:=GT dq (Md.wI ux) (hm.ar a A hA);rw[g1] at e1;cases e1;have sR:=hm.ah a A hA dq (b,Obj.cells arr elem (0,0)) (by rw[e2];simp)
      have hi:A.l[k]? = some d:=by simpa[bA] using hd1
      obtain⟨pre,cc,post,Hp,Hc,Hq,k1,k2,k3,k4,k5⟩:=RepL.at (fun c x H hr=>fW.size hr) e3 hi;have k4':fW G.S false A.t cc d []:=by have e:=fW.ny k4;rw[e] at k4;exact k4
      have hx1:=lE (G:=G) k4';have agx:∀(t:Ty) (d:t.nw),t.agg=false→jO t d=[.eV t d]:=fun t d h=>by cases t<;>first|rfl|(simp[Ty.agg] at h)
      have hex:=agx A.t d hag;have mg:cc.length=ti.size:=by rw[fW.size k4,mF,hts]
      have hp:=uF (g:=ti.iz.agg) (fun _=>by rw[mg,hts]) hx1
      rw[htg,hex] at hp;refine⟨_,_,uJ hti mg (nY (pre:=pre) (post:=post) sR k1 (by rw[k2,mF,Nat.mul_one])),?_,h⟩
      rw[htg];exact hp
   |_=>simp at h
end ops
end Go.Fx
namespace Go.Fx
theorem zZ.struct{P:Program}{t:TypeId}{s b:Nat}{y:Option Ty}{fs:List (Nat×TypeId)}{z:List Value}(h:zZ P t ⟨s,b,y,.struct fs,z⟩){f off:Nat}{ft:TypeId}(hf:fs[f]? = some (off,ft)):
  ∃(nV:Array Field) (fld:Field),P.underlying t=some (.struct nV)∧nV[f]? = some fld∧fld.offset=off∧fld.type=ft:=by
 obtain⟨i,d,z',h1,h2,h3,h4,h5,h6,h7,h8,h9⟩:=h;cases d with
 |struct nV=>
  simp only[y8] at h7;subst h7;rw[bIa,bsa] at hf;cases hq:nV[f]? with
  |none=>simp[hq] at hf
  |some fld=>simp[hq] at hf;exact⟨nV,fld,h2,hq,hf.1,hf.2⟩
 |_=>simp[y8] at h7
theorem zZ.uZ{P:Program}{t:TypeId}{ti:TI}(h:zZ P t ti):∃ d,P.underlying t=some d∧y8 ti.iz d:=by obtain⟨i,d,z,h1,h2,h3,h4,h5,h6,h7,_⟩:=h;exact⟨d,h2,h7⟩
theorem zZ.slice{P:Program}{t:TypeId}{s b:Nat}{y:Option Ty}{e:TypeId}{z:List Value}(h:zZ P t ⟨s,b,y,.slice e,z⟩):P.underlying t=some (.slice e):=by obtain⟨d,h1,h2⟩:=h.uZ;cases d<;>simp_all[y8]
theorem zZ.str{P:Program}{t:TypeId}{s b:Nat}{y:Option Ty}{z:List Value}(h:zZ P t ⟨s,b,y,.str,z⟩):P.underlying t=some .string:=by obtain⟨d,h1,h2⟩:=h.uZ;cases d<;>simp_all[y8]
theorem zZ.arr{P:Program}{t:TypeId}{s b:Nat}{y:Option Ty}{n:Nat}{e:TypeId}{z:List Value}(h:zZ P t ⟨s,b,y,.arr n e,z⟩):P.underlying t=some (.array n e):=by obtain⟨d,h1,h2⟩:=h.uZ;cases d<;>simp_all[y8]
theorem zZ.size{P:Program}{t:TypeId}{ti:TI}(h:zZ P t ti)(w:World):(sizeOf t).run P w=.ok ti.size w:=by obtain⟨i,d,z,h1,h2,h3,_⟩:=h;simp[sizeOf,typeInfo,h1,h3]
theorem zZ.isAgg{P:Program}{t:TypeId}{ti:TI}(h:zZ P t ti)(w:World):(isAgg t).run P w=.ok ti.iz.agg w:=by obtain⟨d,h1,h2⟩:=h.uZ;have:=h2.row;unfold Go.isAgg;rw[aKa,aCa h1 w];cases d<;>simp_all[TypeDesc.isRow]
theorem qb{G:Gh}{v:ab}{k:IntKind}{n:Int}{x:Value}(h:v.FO = some (k,n))(r:aP G v x):x=.int k n:=by
 unfold ab.FO at h;split at h
 ·simp only[OF,aia] at h
  obtain⟨rfl,rfl⟩:=h;obtain⟨cs,e,hr⟩:=r;simp only[Ty.agg,asa,aca] at e;subst e;cases hr.1;rfl
 ·cases h
theorem vM{G:Gh}{v:ab}{n:Bool}{x:Value}(h:v.F4 = some n)(r:aP G v x):x=.bool n:=by
 unfold ab.F4 at h;split at h
 ·simp only[OF] at h;subst h
  obtain⟨cs,e,hr⟩:=r;simp only[Ty.agg,asa,aca] at e;subst e;cases hr.1;rfl
 ·cases h
theorem C8{G:Gh}{v:ab}{n:ak}{x:Value}(h:v.OB = some n)(r:aP G v x):x=kl n:=by
 unfold ab.OB at h;split at h
 ·simp only[OF] at h;subst h
  obtain⟨cs,e,hr⟩:=r;simp only[Ty.agg,asa,aca] at e;subst e;cases hr.1;rfl
 ·cases h
theorem kH{G:Gh}(k:IntKind)(n:Int):aP G (.one (.eV (.int k) n)) (.int k n):=⟨_,by simp[Ty.agg],rfl,rfl⟩
theorem ot{G:Gh}(b:Bool):aP G (.one (.eV .bool b)) (.bool b):=⟨_,by simp[Ty.agg],rfl,rfl⟩
theorem KH{G:Gh}(s:ak):aP G (.one (.eV .str s)) (kl s):=⟨_,by simp[Ty.agg],rfl,rfl⟩
theorem Xa(s:ak):(⟨s.toArray⟩:ByteArray).size=s.length:=by simp[ByteArray.size]
theorem IY{α:Type}{l:List α}{n:Int}{x:α}(h:bA l n=some x):0≤n∧l[n.toNat]? = some x∧n<(l.length:Int):=by
 unfold bA at h;by_cases h0:0≤n
 ·simp only[h0,cDa,Q9] at h
  have:=(aja.1 h).1;exact⟨h0,h,by omega⟩
 ·simp[h0] at h
theorem Jy{α:Type}{l:List α}{i j:Int}{x:List α}(h:sub l i j=some x):0≤i∧i≤j∧j≤(l.length:Int)∧x=(l.take j.toNat).drop i.toNat:=by unfold sub at h;by_cases h0:0≤i<;>by_cases h1:i≤j<;>by_cases h2:j≤(l.length:Int)<;>simp[h0,h1,h2] at h;exact⟨h0,h1,h2,h.symm⟩
theorem DD{α:Type}{l m r:List α}(h:lA l m=some r):l.length+m.length≤4294967296∧r=l++m:=by unfold lA at h;by_cases h0:l.length+m.length≤4294967296<;>simp[h0] at h;exact⟨h0,h.symm⟩
section ops
variable {P:Program} {E:sb} (hE:iq P E.ia) {X:mz} {st:St} {G:Gh} {w:World} {R:Type} {r:R}
include hE
theorem Eu{T:TypeId}{x:ab}{vx:Value}{f:Nat}{K:ab→St→Option R}(h:nL E T x f st K=some r)(hx:aP G x vx):
  ∃ av v,(Instr.fieldAt T vx f).run P w=.ok v w∧aP G av v∧K av st=some r:=by
 unfold nL at h;split at h
 ·rename_i s b y fs z hT
  cases hf:fs[f]? with
  |none=>simp[hf] at h
  |some p=>
   obtain⟨off,ft⟩:=p;simp only[hf] at h;cases hF:E.ia ft with
   |none=>simp[hF] at h
   |some fi=>
    simp only[hF] at h;cases hz:Nat.beq fi.size 0 with
    |true=>simp[hz] at h
    |false=>
     simp only[hz,ana] at h;have hz':fi.size≠0:=fun e=>by simp[e] at hz
     obtain⟨nV,fld,g1,g2,rfl,rfl⟩:=(hE T _ hT).struct hf;have mF:=(hE _ _ hF).size w;have it:∀ b o,(Instr.fieldAt T (.pointer (some ⟨b,o,none⟩)) f).run P w=.ok (.pointer (some ⟨b,o+fld.offset,none⟩)) w:=fun b o=>by simp[Instr.fieldAt,aCa g1,g2,Instr.sureAddr,fieldPlace,mF,hz',bQa]
     cases x with
     |agg ls=>simp[ab.bN] at h
     |Lg ls=>simp[ab.bN] at h
     |Ak t ls=>simp[ab.bN] at h
     |one l=>
      simp only[ab.bN] at h;cases l with
      |np o off=>cases hx;exact⟨_,_,it _ _,by simp[aP,aT,bDa],h⟩
      |PK t d off=>obtain⟨b,arr,elem,fz,pre,cs,post,e1,e2,e3,rfl⟩:=hx;exact⟨.one (.PK t d (off+fld.offset)),_,it _ _,⟨b,arr,elem,fz,pre,cs,post,e1,e2,e3,by simp[bDa]⟩,h⟩
      |DT a sz i off=>obtain⟨b,len,cap,g1,g2,rfl⟩:=hx;exact⟨.one (.DT a sz i (off+fld.offset)),_,it _ _,⟨b,len,cap,g1,g2,by simp[bDa]⟩,h⟩
      |_=>simp at h
 ·cases h
theorem Oc{T:TypeId}{x:ab}{vx:Value}{f:Nat}{K:ab→St→Option R}(h:wZ E T x f st K=some r)(hm:ay X st G w)(hx:aP G x vx)(adx:∃ cs,vx=.agg cs):
  ∃ av v,(Instr.field T vx f).run P w=.ok v w∧aP G av v∧K av st=some r:=by
 unfold wZ at h;split at h
 ·rename_i s b y fs z ls hT Pj
  cases hf:fs[f]? with
  |none=>simp[hf] at h
  |some p=>
   obtain⟨off,ft⟩:=p;simp only[hf] at h;cases hF:E.ia ft with
   |none=>simp[hF] at h
   |some fi=>
    simp only[hF] at h;cases hs:qo ls off fi.size with
    |none=>simp[hs] at h
    |some c=>
     simp only[hs] at h;obtain⟨nV,fld,g1,g2,rfl,rfl⟩:=(hE T _ hT).struct hf;obtain⟨cs,rfl⟩:=adx;have Ga:=mv hm Pj hx;simp only[Value.cells] at Ga;obtain⟨p1,m,q1,f1,f2,f3,f4⟩:=EK Ga hs;have hfi:=hE _ _ hF;have mF:=hfi.size w;have hag:=hfi.isAgg w;have h1:fi.iz.agg=false→fi.size=1:=by obtain⟨_,_,_,_,_,_,_,_,_,_,h8,_⟩:=hfi;exact h8
     refine⟨_,Yg fi.iz.agg m,?_,uF (fun hg=>by rw[f3,h1 hg]) f4,h⟩
     have Hn:cs=(p1++(m++q1)).toArray:=by rw[←f1]
     cases hg:fi.iz.agg with
     |true=>
      rw[hg] at hag;have:cs.extract fld.offset (fld.offset+fi.size)=m.toArray:=by apply cta;rw[Hn];simp[←f2,←f3]
      simp[Instr.field,aCa g1,g2,asAgg,part,hag,mF,this,Yg]
     |false=>
      rw[hg] at hag;rw[h1 hg] at f3
      match m,f3,Hn with
      |[u],_,Hn=>
       have:cs[fld.offset]? = some u:=by rw[Hn];simp[←f2]
       simp[Instr.field,aCa g1,g2,asAgg,part,hag,this,Yg]
 ·cases h
theorem Ew{T:TypeId}{x i:ab}{vx vi:Value}{K:ab→St→Option R}(h:mn E T x i st K=some r)(hm:ay X st G w)(hx:aP G x vx)(hi:aP G i vi):
  ∃ av v,(Instr.indexAt T vx vi).run P w=.ok v w∧aP G av v∧K av st=some r:=by
 unfold mn at h;split at h
 ·rename_i s b y e z k n hT hn
  cases Ag:E.ia e with
  |none=>simp[Ag] at h
  |some ei=>
   simp only[Ag] at h;have hu:=(hE T _ hT).slice;have mF:=(hE _ _ Ag).size w;cases qb hn hi;have it:∀(b o len cap:Nat),0≤n→n<(len:Int)→(Instr.indexAt T (.slice (some ⟨b,o,none⟩) len cap) (.int k n)).run P w=.ok (.pointer (some ⟨b,o+n.toNat * ei.size,none⟩)) w:=fun b o len cap h0 h1=>by simp[Instr.indexAt,asIntOf,aCa hu,h0,h1,mF,bQa]
   have qn:∀(t:Ty) (l:List t.nw) (d:t.nw),ei.size=t.size→bA l n=some d→BR G.S (RepL (fW G.S false t)) [vx] l []→
     ∃ v,(Instr.indexAt T vx (.int k n)).run P w=.ok v w∧aP G (.one (.PK t d 0)) v:=fun t l d hz hd dq=>by
    obtain⟨h0,hd',h1⟩:=IY hd;rcases dq with ⟨_,⟨rfl,_⟩|⟨b,cap,arr,elem,fz,pre,cells,rest,e1,e2,e3,e4,elc⟩⟩
    ·simp at hd'
    ·simp only[aHa,a7a] at e1
     subst e1;obtain⟨p,c,q,Hp,Hc,Hq,k1,k2,k3,k4,_⟩:=RepL.at (fun c x H hr=>fW.size hr) e4 hd';have k4':fW G.S false t c d []:=by have e:=fW.ny k4;rw[e] at k4;exact k4
     exact⟨_,it b pre.length l.length cap h0 h1,⟨b,arr,elem,fz,pre++p,c,q++rest,e2,by rw[e3,k1];simp,k4',by simp[k2,hz]⟩⟩
   cases x with
   |agg ls=>simp[ab.bN] at h
   |Lg ls=>simp[ab.bN] at h
   |Ak t ls=>simp[ab.bN] at h
   |one l=>
    simp only[ab.bN] at h;cases l with
    |eV t l=>
     cases t with
     |slice t=>
      simp only at h;cases hz:Nat.beq ei.size t.size with
      |false=>simp[hz] at h
      |true=>simp only[hz,Q9] at h;obtain⟨d,hd,h⟩:=awa.1 h;obtain⟨cs,e,hr⟩:=hx;simp only[Ty.agg,asa,aca] at e;subst e;obtain⟨v,h1,h2⟩:=qn t l d (Q5 hz) hd hr;exact⟨_,v,h1,h2,h⟩
     |_=>simp at h
    |mA a=>
     simp only at h;cases hA:st.arr a with
     |none=>simp[hA] at h
     |some A=>
      simp only[hA] at h;cases hz:Nat.beq ei.size A.t.size with
      |false=>simp[hz] at h
      |true=>
       cases hmp:A.Vd with
       |true=>simp[hz,hmp] at h
       |false=>
       simp only[hz,hmp,Bool.not_false,bwa,Q9] at h;obtain⟨d,hd,h⟩:=awa.1 h;have sy:=hm.ar a A hA;simp only[aP,aT] at hx;subst hx;cases hs:A.sh with
       |true=>
        simp only[hs,Q9] at h
        replace sy:=(xm hs).1 sy
        obtain⟨v,h1,h2⟩:=qn A.t A.l d (Q5 hz) hd sy;exact⟨_,v,h1,h2,h⟩
       |false=>
        simp only[hs,ana] at h;obtain⟨h0,hd',h1⟩:=IY hd;rcases It hs hmp sy with ⟨e1,_⟩|⟨b',cap',e1⟩
        ·rw[e1] at hd';simp at hd'
        ·rw[e1]
         refine⟨.one (.DT a A.t.size n.toNat 0),_,it b' 0 A.l.length cap' h0 h1,⟨b',A.l.length,cap',e1,by omega,?_⟩,h⟩
         simp[Q5 hz]
    |_=>simp at h
 ·rename_i s b y m e z k n hT hn
  cases Ag:E.ia e with
  |none=>simp[Ag] at h
  |some ei=>
   simp only[Ag] at h;have hu:=(hE T _ hT).arr;have mF:=(hE _ _ Ag).size w;cases qb hn hi;have sw:∀{b o:Nat},vx=.pointer (some ⟨b,o,none⟩)→(decide (0≤n)&&decide (n<(m:Int)))=true→(Instr.indexAt T vx (.int k n)).run P w=.ok (.pointer (some ⟨b,o+n.toNat * ei.size,none⟩)) w:=fun {b o} hv hc=>by simp only[Q4,bKa] at hc;rw[hv];simp[Instr.indexAt,asIntOf,aCa hu,hc.1,hc.2,mF,bQa,Instr.sureAddr]
   split at h
   ·rename_i a hl
    have hxe:x=.one (.mA a):=by cases x<;>simp[ab.bN] at hl;rw[hl]
    rw[hxe] at hx;split at h
    ·rename_i A hA
     cases Mg:(!A.sh&&Md.lj A.md .arr) with
     |false=>rw[Mg] at h;cases h
     |true=>
      rw[Mg,Q9] at h;cases xp:(decide (0≤n)&&decide (n<(m:Int))) with
      |false=>rw[xp] at h;cases h
      |true=>rw[xp,Q9] at h;simp only[Q4,aLa] at Mg;obtain⟨b,arr,elem,e1,e2,e3⟩:=GT Mg.1 (Md.wI Mg.2) (hm.ar a A hA);have hv:vx=.pointer (some ⟨b,0,none⟩):=Eq.trans (show vx=G.ψ a from hx) e1;exact⟨.one (.L9 a (n.toNat * ei.size) ei.size),_,sw hv xp,⟨b,e1,by rw[aTa]⟩,h⟩
    ·cases h
   ·rename_i a q w0 hl
    have hxe:x=.one (.L9 a q w0):=by cases x<;>simp[ab.bN] at hl;rw[hl];
    rw[hxe] at hx;obtain⟨b,e1,hv⟩:=hx;cases xp:(decide (0≤n)&&decide (n<(m:Int))) with
    |false=>rw[xp] at h;cases h
    |true=>rw[xp,Q9] at h;exact⟨.one (.L9 a (q+n.toNat * ei.size) ei.size),_,sw hv xp,⟨b,e1,rfl⟩,h⟩
   ·cases h
 ·cases h
theorem Od{T:TypeId}{x i:ab}{vx vi:Value}{K:ab→St→Option R}(h:xa E T x i st K=some r)(hx:aP G x vx)(hi:aP G i vi):
  ∃ av v,(Instr.index T vx vi).run P w=.ok v w∧aP G av v∧K av st=some r:=by
 unfold xa at h;split at h
 ·rename_i s b y z hT
  split at h
  ·rename_i s' k n hs hn
   obtain⟨c,hc,h⟩:=awa.1 h;cases qb hn hi;cases C8 hs hx;obtain⟨h0,hd',h1⟩:=IY hc;have hu:=(hE T _ hT).str;refine⟨_,_,?_,kH .u8 _,h⟩;have:(⟨s'.toArray⟩:ByteArray)[n.toNat]? = some c:=by
    have bq:n.toNat<s'.length:=(aja.1 hd').1;have Hr:n.toNat<(⟨s'.toArray⟩:ByteArray).size:=by simpa[ByteArray.size] using bq
    rw[getElem?_pos (c:=(⟨s'.toArray⟩:ByteArray)) (i:=n.toNat) Hr];have:=(aja.1 hd').2;simpa[ByteArray.getElem_eq_getElem_data] using this
   simp[Instr.index,asIntOf,aCa hu,kl,h0,this]
  ·cases h
 ·rename_i s b y m e z hT
  split at h
  ·rename_i m' t l k n ei hn Ag
   cases hc:(Nat.beq m m'&&Nat.beq ei.size t.size&&(bif t.agg then ei.iz.agg else !ei.iz.agg)) with
   |false=>simp[hc] at h
   |true=>
    simp only[hc,Q9] at h;simp only[Q4] at hc;obtain⟨⟨c1,c2⟩,c3⟩:=hc;obtain rfl:=Q5 c1;have c2:=Q5 c2;have c3:ei.iz.agg=t.agg:=by cases h1:t.agg<;>cases h2:ei.iz.agg<;>simp_all
    obtain⟨d,hd,h⟩:=awa.1 h;cases qb hn hi;obtain⟨h0,hd',h1⟩:=IY hd;obtain⟨cs,e1,hr,jI⟩:=hx;simp only[Ty.agg,aua] at e1;subst e1;have hu:=(hE T _ hT).arr;have Ag:=hE e ei Ag;have mF:=Ag.size w;have hag:=Ag.isAgg w;have Tx:ei.iz.agg=false→ei.size=1:=by obtain⟨_,_,_,_,_,_,_,_,_,_,h8,_⟩:=Ag;exact h8
    obtain⟨pre,c,post,Hp,Hc,Hq,k1,k2,k3,k4,_⟩:=RepL.at (fun c x H hr=>fW.size hr) hr hd';have k4:fW G.S false t c d []:=by have e:=fW.ny k4;rw[e] at k4;exact k4
    have mg:=fW.size k4;subst k1;rw[jI] at h1;cases hg:ei.iz.agg with
    |true=>
     rw[hg] at hag;refine⟨.one (.eV t d),.agg c.toArray,?_,(⟨c,by rw[←c3,hg];rfl,k4⟩:aT G (.eV t d) _),h⟩
     have:(pre++(c++post)).toArray.extract (n.toNat * ei.size) (n.toNat * ei.size+ei.size)=c.toArray:=by apply cta;rw[c2,←k2,←mg];simp
     simp only[Instr.index,asIntOf,aKa,aCa hu,aDa,a8a,h0,h1,aNa,aua,mF,part,hag,this]
    |false=>
     rw[hg] at hag;have e1:=Tx hg;have Mg:c.length=1:=by omega
     match c,Mg,k4 with
     |[u],_,k4=>
      refine⟨.one (.eV t d),u,?_,(⟨[u],by rw[←c3,hg];rfl,k4⟩:aT G (.eV t d) _),h⟩
      have hk:n.toNat=pre.length:=by rw[k2,←c2,e1];omega
      simp[Instr.index,asIntOf,aCa hu,h0,h1,part,hag,mF,e1,hk]
  ·cases h
 ·cases h
omit hE in
theorem adh{lo:Option ab}{vlo:Option Value}{d n:Int}(h:m9 d lo=some n)(hr:∀ a,lo=some a→∃ v,vlo=some v∧aP G a v)(hn:lo=none→vlo=none):
  (vlo=none∧n=d)∨∃ k,vlo=some (.int k n):=by
 cases lo with
 |none=>simp only[m9,OF] at h;exact .inl ⟨hn rfl,h.symm⟩
 |some a=>simp only[m9,aIa] at h;obtain⟨⟨k,m⟩,h1,h2⟩:=h;simp only at h2;subst h2;obtain⟨v,h3,h4⟩:=hr a rfl;exact .inr ⟨k,by rw[h3,qb h1 h4]⟩
end ops
end Go.Fx
namespace Go.Fx
theorem Uy(a b:ak):(⟨a.toArray⟩:ByteArray)++⟨b.toArray⟩=⟨(a++b).toArray⟩:=by apply ByteArray.ext;simp
theorem Xo{P:Program}{w:World}(op:BinOp)(T:TypeId)(x y:Operand)(k:IntKind)(a b:Int)(hs:op≠.shl)(B6:op≠.shr):
  ((do eqGuard op T x y (.int k a) (.int k b);binOp op T (.int k a) (.int k b)):Sem Value).run P w=(match op with
   |.add | .sub | .mul=>Op.intArith op k a b
   |.quo | .rem=>Op.intDiv op k a b
   |.and | .or | .xor | .andNot=>Op.intBits op k a b
   |_=>Op.intCmp op a b:Sem Value).run P w:=by
 cases op<;>first|exact absurd rfl hs|exact absurd rfl B6 | simp[eqGuard,binOp]
theorem Eb{G:Gh}{x:ab}{v:Value}(h:x.isAgg=true)(r:aP G x v):∃ cs,v=.agg cs:=by
 cases x with
 |agg ls=>obtain⟨cs,e,_⟩:=r;exact⟨_,e⟩
 |one l=>
  cases l with
  |eV t d=>cases t<;>simp[ab.isAgg] at h<;>(obtain⟨cs,e,_⟩:=r;simp only[Ty.agg,aua] at e;exact⟨_,e⟩)
  |_=>simp[ab.isAgg] at h
 |_=>simp[ab.isAgg] at h
theorem TK{G:Gh}:∀{ks:List Kd} {ls:List ag} {vs:List Value},Kw ks ls=true→All2 (aT G) ls vs→All2 KdV ks vs
 |[],[],[],_,_=>trivial
 |.int k::r,.eV (.int k') d::s,v::vs,h,hr=>by simp only[Kw,Q4,bKa] at h;obtain⟨rfl,h⟩:=h;cases qb (v:=.one (.eV (.int k) d)) rfl hr.1;exact⟨⟨d,rfl⟩,TK (ks:=r) h hr.2⟩
 |.bool::r,.eV .bool d::s,v::vs,h,hr=>by cases vM (v:=.one (.eV .bool d)) rfl hr.1;exact⟨⟨d,rfl⟩,TK (ks:=r) h hr.2⟩
 |.str::r,.eV .str d::s,v::vs,h,hr=>by cases C8 (v:=.one (.eV .str d)) rfl hr.1;exact⟨⟨_,rfl⟩,TK (ks:=r) h hr.2⟩
 |[],[],_::_,_,hr=>hr.elim
 |_,_::_,[],_,hr=>hr.elim
 |[],_::_,_,h,_=>by simp[Kw] at h
 |.int k::r,[],_,h,_=>by simp[Kw] at h
 |.bool::r,[],_,h,_=>by simp[Kw] at h
 |.str::r,[],_,h,_=>by simp[Kw] at h
theorem Wh{G:Gh}{x y:ag}{v u:Value}{e:Bool}(h:abd x y=some e)(hx:aT G x v)(hy:aT G y u):DR v u=e:=by
 unfold abd at h;split at h
 ·rename_i k a k' b
  cases qb (v:=.one (.eV (.int k) a)) rfl hx;cases qb (v:=.one (.eV (.int k') b)) rfl hy;simpa[DR] using h
 ·rename_i a b
  cases vM (v:=.one (.eV .bool a)) rfl hx;cases vM (v:=.one (.eV .bool b)) rfl hy;simpa[DR] using h
 ·rename_i a b
  cases C8 (v:=.one (.eV .str a)) rfl hx;cases C8 (v:=.one (.eV .str b)) rfl hy;simp only[OF] at h;subst h;simp[DR,kl,beq_toListBytes,ByteArray.toList_eq]
 ·cases h
theorem RE{G:Gh}:∀{ls ms:List ag} {xs ys:List Value} {e:Bool},RD ls ms=some e→All2 (aT G) ls xs→All2 (aT G) ms ys→vd xs ys=e
 |[x],[y],[v],[u],e,h,hx,hy=>by simpa[vd] using Wh (by simpa[RD] using h) hx.1 hy.1
 |x::x2::r,y::s,v::vs,u::us,e,h,hx,hy=>by
  simp only[RD] at h;split at h
  ·rename_i a b h1 h2
   simp only[OF] at h;rw[vd,Wh h1 hx.1 hy.1,RE h2 hx.2 hy.2,h]
  ·cases h
 |[x],y::y2::s,v::vs,u::us,e,h,hx,hy=>by
  simp only[RD] at h;split at h
  ·rename_i a b h1 h2
   simp[RD] at h2
  ·cases h
 |[],_,_,_,e,h,_,_=>by simp[RD] at h
 |_::_,[],_,_,e,h,_,_=>by cases ‹List ag›<;>simp[RD] at h
 |_::_,_::_,[],_,e,h,hx,_=>hx.elim
 |_::_,_::_,_,[],e,h,_,hy=>hy.elim
section ops
variable {P:Program} {E:sb} (hE:iq P E.ia) {X:mz} {st:St} {G:Gh} {w:World} {R:Type} {r:R}
include hE
theorem TW{op:BinOp}{T:TypeId}{x y:ab}{ox oy:Operand}{vx vy:Value}{K:ab→Option R}(h:K5 E op T x y K=some r)(hm:ay X st G w)(hx:aP G x vx)(hy:aP G y vy):
  ∃ av v,((do eqGuard op T ox oy vx vy;binOp op T vx vy):Sem Value).run P w=.ok v w∧aP G av v∧K av=some r:=by
 unfold K5 at h;split at h
 ·rename_i k a k' b
  cases qb (v:=.one (.eV (.int k) a)) rfl hx;cases qb (v:=.one (.eV (.int k') b)) rfl hy;split at h
  ·by_cases hb:b<0
   ·simp[hb] at h
   ·simp only[hb,cea,ana] at h
    exact⟨_,_,by simp[eqGuard,binOp,Op.shift,hb],kH k _,h⟩
  ·by_cases hb:b<0
   ·simp[hb] at h
   ·simp only[hb,cea,ana] at h
    exact⟨_,_,by simp[eqGuard,binOp,Op.shift,hb],kH k _,h⟩
  ·rename_i hn1 hn2
   by_cases hk:k=k'
   ·subst hk
    simp only[cDa,cHa,ana] at h;have it:=Xo (P:=P) (w:=w) op T ox oy k a b hn1 hn2;split at h
    ·exact⟨_,_,by rw[it];simp[Op.intArith],kH k _,h⟩
    ·exact⟨_,_,by rw[it];simp[Op.intArith],kH k _,h⟩
    ·exact⟨_,_,by rw[it];simp[Op.intArith],kH k _,h⟩
    ·by_cases hb:b=0
     ·simp[hb] at h
     ·simp only[hb,cea,ana] at h
      exact⟨_,_,by rw[it];simp[Op.intDiv,hb],kH k _,h⟩
    ·by_cases hb:b=0
     ·simp[hb] at h
     ·simp only[hb,cea,ana] at h
      exact⟨_,_,by rw[it];simp[Op.intDiv,hb],kH k _,h⟩
    ·exact⟨_,_,by rw[it];simp[Op.intBits];rfl,kH k _,h⟩
    ·exact⟨_,_,by rw[it];simp[Op.intBits];rfl,kH k _,h⟩
    ·exact⟨_,_,by rw[it];simp[Op.intBits];rfl,kH k _,h⟩
    ·exact⟨_,_,by rw[it];simp[Op.intCmp],ot _,h⟩
    ·exact⟨_,_,by rw[it];simp[Op.intCmp],ot _,h⟩
    ·exact⟨_,_,by rw[it];simp[Op.intCmp],ot _,h⟩
    ·exact⟨_,_,by rw[it];simp[Op.intCmp],ot _,h⟩
    ·exact⟨_,_,by rw[it];simp[Op.intCmp],ot _,h⟩
    ·exact⟨_,_,by rw[it];simp[Op.intCmp],ot _,h⟩
    ·cases h
   ·simp[hk] at h
 ·rename_i a b
  cases C8 (v:=.one (.eV .str a)) rfl hx;cases C8 (v:=.one (.eV .str b)) rfl hy;split at h
  ·obtain⟨c,hc,h⟩:=awa.1 h
   obtain⟨hl,rfl⟩:=DD hc;have hn:¬ (((a.length+b.length:Nat):Int) > IntKind.i64.max):=by
    have:IntKind.i64.max=9223372036854775807:=by rfl
    rw[this];omega
   refine⟨_,_,?_,KH _,h⟩;have hn':¬ (IntKind.i64.max<(a.length:Int)+(b.length:Int)):=by
    have:IntKind.i64.max=9223372036854775807:=by rfl
    rw[this];omega
   have hn2:(a.length:Int)+(b.length:Int)≤9223372036854775807:=by omega
   simp[eqGuard,binOp,kl,Op.stringOp,Xa,hn',hn2,Uy]
  ·exact⟨_,_,by simp[eqGuard,binOp,kl,Op.stringOp],ot _,h⟩
  ·exact⟨_,_,by simp[eqGuard,binOp,kl,Op.stringOp],ot _,h⟩
  ·cases h
 ·rename_i a b
  cases vM (v:=.one (.eV .bool a)) rfl hx;cases vM (v:=.one (.eV .bool b)) rfl hy;have key:∀{s b':Nat} {y':Option Ty} {z:List Value},E.ia T=some ⟨s,b',y',.bool,z⟩→∀ w,(Op.equal T (.bool a) (.bool b)).run P w=.ok (a==b) w:=fun hT w=>by
   obtain⟨d,h1,h2⟩:=(hE T _ hT).uZ;cases d<;>simp[y8] at h2;show(Op.equalIn 10000 T _ _).run P w=_;rw[show(10000:Nat)=9999+1 from rfl,Op.equalIn]
   simp[aCa h1]
  split at h
  ·rename_i hT
   exact⟨_,_,by simp[eqGuard,binOp,key hT],ot _,h⟩
  ·rename_i hT
   exact⟨_,_,by simp[eqGuard,binOp,key hT],ot _,h⟩
  ·cases h
 ·split at h
  ·rename_i ti ls ms hT Pj hms
   split at h
   ·rename_i ks hks
    cases hb:(ti.iz.agg&&x.isAgg&&y.isAgg&&Kw ks ls&&Kw ks ms) with
    |false=>simp[hb] at h
    |true=>
     simp only[hb,Q9] at h;simp only[Q4] at hb;obtain⟨⟨⟨⟨b1,b2⟩,b3⟩,b4⟩,b5⟩:=hb;obtain⟨xs,rfl⟩:=Eb b2 hx;obtain⟨ys,rfl⟩:=Eb b3 hy;have lx:All2 (aT G) ls xs.toList:=mv hm Pj hx;have ly:All2 (aT G) ms ys.toList:=mv hm hms hy;have hti:=hE T ti hT;obtain⟨d,hu,htd⟩:=hti.uZ;obtain⟨_,_,_,hi,_,_,_,_,_,_,_,_,agp⟩:=hti;have chk:=agp.1 ks b1 hks;have wN:∃ fs,d=.struct fs:=by
      have:=chk;rw[show(6:Nat)=5+1 from rfl,CY,hu] at this
      cases d<;>first|exact⟨_,rfl⟩|(simp at this;done)|(cases hd:ti.iz<;>simp[hd,y8,TD.agg] at htd b1)|cases this
     obtain⟨fs,rfl⟩:=wN;have isv:∀ zs:Array Value,IsV P T zs.toList (.agg zs):=fun zs=>by unfold IsV;rw[hu]
     have it:∀ w,(Op.equal T (.agg xs) (.agg ys)).run P w=.ok (vd xs.toList ys.toList) w:=fun w=>
      Wg 6 T ks chk 9994 w (.agg xs) (.agg ys) _ _ (TK b4 lx) (TK b5 ly) (isv xs) (isv ys)
     have hg:P.eqGuardType P.depth T=false:=by
      have e:P.depth=(P.depth - 6)+6:=by have:P.depth=2 * (P.types.size+100)+2:=rfl;omega
      rw[e];exact Tr chk _
     split at h
     ·rename_i e he
      have:=RE he lx ly;exact⟨_,_,by simp[eqGuard,binOp,hg,it,this],ot _,h⟩
     ·rename_i e he
      have:=RE he lx ly;exact⟨_,_,by simp[eqGuard,binOp,hg,it,this],ot _,h⟩
     ·cases h
   ·cases h
  ·cases h
omit hE in
theorem WN{op:UnOp}{x:ab}{vx:Value}{K:ab→Option R}(h:T8 op x K=some r)(hx:aP G x vx):
  ∃ av v,(Op.unary op vx).run P w=.ok v w∧aP G av v∧K av=some r:=by
 unfold T8 at h;split at h
 ·rename_i k a
  cases qb (v:=.one (.eV (.int k) a)) rfl hx;exact⟨_,_,by simp[Op.unary,Op.intArith],kH k _,h⟩
 ·rename_i a
  cases vM (v:=.one (.eV .bool a)) rfl hx;exact⟨_,_,by simp[Op.unary],ot _,h⟩
 ·cases h
end ops
end Go.Fx
namespace Go.Fx
theorem CZ(off:Nat):∀(l:List Value) (k:Nat) (c:Array Value),off+k+l.length≤c.size→
  ((l.zipIdx k).foldl (fun(cs:Array Value) (x:Value×Nat)=>cs.setIfInBounds (off+x.2) x.1) c).toList=c.toList.take (off+k)++(l++c.toList.drop (off+k+l.length))
 |[],k,c,hk=>by simp
 |x::l,k,c,hk=>by
  simp only[ara] at hk;rw[List.zipIdx_cons,b0a,CZ off l (k+1) _ (by simp;omega)]
  rw[Array.toList_setIfInBounds];have jI:off+k<c.toList.length:=by simp;omega
  have e1:(c.toList.set (off+k) x).take (off+(k+1))=c.toList.take (off+k)++[x]:=by
   rw[show off+(k+1)=off+k+1 by omega,cpa (by simpa using jI)]
   simp[List.take_set_of_le]
  have e2:(c.toList.set (off+k) x).drop (off+(k+1)+l.length)=c.toList.drop (off+k+(l.length+1)):=by rw[List.drop_set_of_lt (by omega)];congr 1;omega
  rw[e1,e2];simp
theorem Nr(u:Array Value)(cs:List Value)(off:Nat)(h:off+u.size≤cs.length):
  u.zipIdx.foldl (fun(cs:Array Value) (x:Value×Nat)=>cs.setIfInBounds (off+x.2) x.1) cs.toArray=(cs.take off++(u.toList++cs.drop (off+u.toList.length))).toArray:=by
 apply cta;have:=CZ off u.toList 0 cs.toArray (by simpa using h)
 simp only[cra] at this;rw[←Array.foldl_toList,Array.toList_zipIdx];rw[this]
theorem Gm{P:Program}{w:World}{α β:Type}(g:α→Sem β)(f:α→β):∀(l:List α),(∀ x∈l,(g x).run P w=.ok (f x) w)→(l.mapM g).run P w=.ok (l.map f) w
 |[],_=>by simp
 |x::l,h=>by
  have ih:=Gm g f l (fun y hy=>h y (by simp[hy]))
  have hx:=h x (by simp)
  simp[hx,ih]
theorem aaD{P:Program}{w:World}{α β:Type}(g:α→Sem β)(f:α→β)(xs:Array α)(h:∀ x∈xs,(g x).run P w=.ok (f x) w):(xs.mapM g).run P w=.ok (xs.map f) w:=by
 rw[Array.mapM_eq_mapM_toList];have:=Gm (P:=P) (w:=w) g f xs.toList (fun x hx=>h x (by simpa using hx))
 rw[Sem.run_map,this];simp only[aDa]
 congr 1
 apply cta;simp
theorem Sz{G:Gh}:∀ l:List Value,All2 (aT G) (l.map vH) l
 |[]=>trivial
 |v::l=>by
  refine⟨?_,Sz l⟩;cases v with
  |int k n=>exact⟨_,by simp[Ty.agg],rfl,rfl⟩
  |bool b=>exact⟨_,by simp[Ty.agg],rfl,rfl⟩
  |string s=>exact⟨_,by simp[Ty.agg];rfl,by simp[fW,kl]⟩
  |slice a n c=>
   cases a with
   |none=>cases n<;>cases c<;>simp[vH,aT]
   |some a=>simp[vH,aT]
  |pointer a=>cases a<;>simp[vH,aT]
  |_=>simp[vH,aT]
theorem Wj{P:Program}{E:sb}(hE:iq P E.ia){X:mz}{st:St}{G:Gh}{w:World}(hm:ay X st G w){nV:Array Field}{fs:List (Nat×TypeId)}
  (hfs:fs=nV.toList.map fun f=>(f.offset,f.type)) (sz:TypeId→Nat) (mF:∀ t ti,E.ia t=some ti→sz t=ti.size) {ls:List ag}:
  ∀{hZ:List (Nat×ab)} {vs:List (Nat×Value)} {zs:List ag} {cs:List Value},All2 (fun(p:Nat×ab) (q:Nat×Value)=>p.1=q.1∧aP G p.2 q.2) hZ vs→
   All2 (aT G) zs cs→ut E fs zs hZ=some ls→
   ∃ cs',Instr.fill ((nV.map fun f=>(f.offset,sz f.type))[·]?) cs.toArray vs=some cs'.toArray∧All2 (aT G) ls cs'
 |[],[],zs,cs,hp,hz,hb=>by simp only[ut,OF] at hb;subst hb;exact⟨cs,rfl,hz⟩
 |[],_::_,_,_,hp,_,_=>hp.elim
 |_::_,[],_,_,hp,_,_=>hp.elim
 |(j,v)::hZ,(j',u)::vs,zs,cs,hp,hz,hb=>by
  obtain⟨⟨hj,hv⟩,hp⟩:=hp;simp only at hj hv;subst hj;simp only[ut] at hb;cases hf:fs[j]? with
  |none=>simp[hf] at hb
  |some f=>
   obtain⟨off,ft⟩:=f;cases hl:v.pH with
   |none=>simp[hf,hl] at hb
   |some lv=>
    simp only[hf,hl] at hb;cases hF:E.ia ft with
    |none=>simp[hF] at hb
    |some fi=>
     simp only[hF] at hb;cases hc:(Nat.beq lv.length fi.size&&Nat.ble (off+lv.length) zs.length) with
     |false=>simp[hc] at hb
     |true=>
      simp only[hc,Q9] at hb;simp only[Q4] at hc;have Mg:lv.length=fi.size:=Q5 hc.1;have xp:off+lv.length≤zs.length:=aUa hc.2;have Ga:=mv hm hl hv;have jI:=Ga.length;have hzl:=hz.length;have hul:u.cells.size=fi.size:=by rw[←Mg,jI];simp
      have adJ:All2 (aT G) (mo zs off lv) (cs.take off++(u.cells.toList++cs.drop (off+u.cells.toList.length))):=by unfold mo;rw[jI];exact(hz.take off).append (Ga.append (hz.drop _))
      obtain⟨cs',g1,g2⟩:=Wj hE hm hfs sz mF hp adJ hb;refine⟨cs',?_,g2⟩;have agy:(nV.map fun f=>(f.offset,sz f.type))[j]? = some (off,fi.size):=by
       rw[hfs,bIa,bsa] at hf;cases hq:nV[j]? with
       |none=>simp[hq] at hf
       |some fld=>simp[hq] at hf;obtain⟨rfl,rfl⟩:=hf;simp[hq,mF _ _ hF]
      have NA:(u.cells.size≠fi.size||decide (off+u.cells.size > cs.toArray.size))=false:=by simp[hul];omega
      have NK:Instr.fill ((nV.map fun f=>(f.offset,sz f.type))[·]?) cs.toArray ((j,u)::vs) =
        Instr.fill ((nV.map fun f=>(f.offset,sz f.type))[·]?) (u.cells.zipIdx.foldl (fun(cs:Array Value) (x:Value×Nat)=>cs.setIfInBounds (off+x.2) x.1) cs.toArray) vs:=by
       conv=>lhs;unfold Instr.fill
       simp only[agy];rw[aza (by simpa using NA)]
      rw[NK,Nr u.cells cs off (by rw[hul,←Mg,←hzl];exact xp)]
      exact g1
theorem N9{P:Program}{E:sb}(hE:iq P E.ia){X:mz}{st:St}{G:Gh}{w:World}{R:Type}{r:R}{T:TypeId}{hZ:List (Nat×ab)}{vs:List (Nat×Value)}{K:ab→St→Option R}(h:wY E T hZ st K=some r)(hm:ay X st G w)
  (hp:All2 (fun(p:Nat×ab) (q:Nat×Value)=>p.1=q.1∧aP G p.2 q.2) hZ vs):
  ∃ av v,(Instr.build T vs.toArray).run P w=.ok v w∧aP G av v∧K av st=some r:=by
 unfold wY at h;cases hT:E.ia T with
 |none=>simp[hT] at h
 |some ti=>
  simp only[hT] at h;split at h
  ·rename_i fs hd
   cases fd:(fs.all fun p=>(E.ia p.2).isSome) with
   |false=>simp[fd] at h
   |true=>
    simp only[fd,Q9] at h;cases hb:ut E fs (ti.zero.map vH) hZ with
    |none=>simp[hb] at h
    |some ls=>
     simp only[hb] at h;obtain⟨i,d,z,h1,h2,h3,h4,h5,h6,h7,h8,h9⟩:=hE T ti hT;rw[hd] at h7;cases d with
     |struct nV=>
      simp only[y8] at h7;let sz:TypeId→Nat:=fun t=>match E.ia t with|some ti=>ti.size|none=>0
      have mF:∀ t ti,E.ia t=some ti→sz t=ti.size:=fun t ti ht=>by simp[sz,ht]
      obtain⟨cs',g1,g2⟩:=Wj hE hm h7 sz mF hp (Sz ti.zero) hb;refine⟨.agg ls,.agg cs'.toArray,?_,⟨cs',rfl,g2⟩,h⟩;have abr:(nV.mapM fun f=>(Prod.mk f.offset <$> sizeOf f.type:Sem (Nat×Nat))).run P w=.ok (nV.map fun f=>(f.offset,sz f.type)) w:=by
       refine aaD _ _ _ fun f hf=>?_;have:(E.ia f.type).isSome=true:=by
        have:=apa.1 fd (f.offset,f.type) (by rw[h7];exact aXa.2 ⟨f,by simpa using hf,rfl⟩)
        exact this
       obtain⟨fi,hfi⟩:=cfa.1 this;simp[(hE _ _ hfi).size w,mF _ _ hfi]
      have hzc:z.cells=ti.zero.toArray:=by rw[←h6]
      simp only[Array.getElem?_map] at g1;simp[Instr.build,zeroValue,typeInfo,h1,h5,aCa h2,abr,hzc,g1]
     |_=>simp[y8] at h7
  ·cases h
end Go.Fx
namespace Go.Fx
theorem fQ{w:World}{b:Nat}{o:Obj}(h:w.heap[b]? = some o):b<w.heap.size:=(caa.1 h).1
theorem eR.lt{X:mz}{st:St}{G:Gh}{w:World}(hm:ay X st G w){x:Bool×Nat}{b:Nat}(h:eR G st x b):b<w.heap.size:=by
 obtain⟨k,n⟩:=x;cases k with
 |false=>obtain⟨⟨ls,hl⟩,rfl⟩:=h;obtain⟨arr,elem,mid,h1,_⟩:=hm.ob n ls hl;exact fQ h1
 |true=>obtain⟨⟨A,hA,hs⟩,p,hp,rfl⟩:=h;exact fQ (hm.ah n A hA hs p hp)
theorem iM(w:World)(o:Obj){k:Nat}(h:k<w.heap.size):(w.alloc o).heap[k]? = w.heap[k]?:=Below.SM w o k h
where
 Below.SM (w:World) (o:Obj) (k:Nat) (h:k<w.heap.size):(w.alloc o).heap[k]? = w.heap[k]?:=by show(w.heap.push o)[k]? = _;rw[bea,aza (by omega)]
theorem uq(w:World)(o:Obj):(w.alloc o).heap[w.heap.size]? = some o:=by show(w.heap.push o)[w.heap.size]? = _;rw[bea,a4a rfl]
theorem se(w:World)(o:Obj):(w.alloc o).heap.size=w.heap.size+1:=by show(w.heap.push o).size=_;simp
theorem ay.drew{X:mz}{st:St}{G:Gh}{w:World}(hm:ay X st G w):ay X st G w.drew:=
 {sl:=hm.sl,sh:=hm.sh,ob:=hm.ob,ar:=hm.ar,ah:=hm.ah,nd:=hm.nd,pX:=hm.pX,dS:=hm.dS,sZ:=hm.sZ,s0:=hm.s0,sn:=hm.sn,fr:=hm.fr,sz:=hm.sz,os:=hm.os,tp:=hm.tp,out:=hm.out,pin:=hm.pin,bv:=hm.bv,ap:=hm.ap,hv:=hm.hv,ds:=hm.ds,hh:=hm.hh}
theorem Bu{st:St}{k:Bool}{x:Nat}(h:st.cZ k x=false){i:Nat}{v:ab}(hv:st.ib i=some v):v.cZ k x=false:=by
 simp only[St.cZ,aEa] at h;obtain⟨⟨⟨⟨h1,h2⟩,h3⟩,h4⟩,_⟩:=h;unfold St.ib at hv;cases hr:look st.et i with
 |some u=>rw[hr] at hv;cases hv;have:=aOa.1 h1 _ (dY hr);simpa using this
 |none=>rw[hr] at hv;have:=aOa.1 h2 _ (dY hv);simpa using this
theorem rC{st:St}{k:Bool}{x:Nat}(h:st.cZ k x=false){o:Nat}{ls:List ag}(ho:st.dL o=some ls):∀ j,(st.jV o j ls).any (ag.cZ k x)=false:=by
 simp only[St.cZ,aEa] at h;obtain⟨⟨⟨⟨h1,h2⟩,h3⟩,h4⟩,_⟩:=h;have hl:ls.any (ag.cZ k x)=false:=by have:=aOa.1 h3 _ (dY ho);simpa using this
 have Bb:∀ j l,l.cZ k x=false→(st.res o j l).cZ k x=false:=fun j l hl=>by
  cases l with
  |ur=>
   simp only[St.res];cases hb:dV st.cD o j with
   |none=>rfl
   |some l'=>have h5:=aOa.1 h4 _ (Kx hb);simpa using h5
  |_=>exact hl
 have key:∀(ls:List ag),ls.any (ag.cZ k x)=false→∀ j,(st.jV o j ls).any (ag.cZ k x)=false:=by
  intro ls;induction ls with
  |nil=>intro _ _;rfl
  |cons l ls ih=>intro h j;simp only[cGa,aEa] at h;simp only[St.jV,cGa,aEa];exact⟨Bb j l h.1,ih h.2 (j+1)⟩
 exact key ls hl
theorem E8{st:St}{x:Nat}(h:st.cZ false x=false){a:Nat}{A:jG}(ha:st.arr a=some A){i o:Nat}(hm:A.md=.Dp i o):o≠x:=by
 simp only[St.cZ,aEa,Bool.not_false,Bool.true_and] at h;obtain⟨_,h1,h2⟩:=h;have key:A.Kv x=false:=by
  unfold St.arr at ha;cases hr:look st.cM a with
  |some u=>rw[hr] at ha;cases ha;have:=aOa.1 h1 _ (dY hr);simpa using this
  |none=>rw[hr] at ha;have:=aOa.1 h2 _ (dY ha);simpa using this
 intro e;subst e;simp[jG.Kv,hm] at key
theorem bM.le{G G':Gh}{k:Bool}{x:Nat}(h:G.Le G' k x){st st':St}(hn:st'.n=st.n)(wM:∀ i,st'.ib i=st.ib i)(KZ:st.cZ k x=false){a:Act}(r:bM G st a):bM G' st' a:=
 ⟨r.1.trans h.ds.symm,r.2.1.trans hn.symm,fun i v hv=>by
  rw[wM i] at hv;exact(r.2.2 i v hv).le h (Bu KZ hv)⟩
theorem uI(st:St)(o:Nat):∀(j:Nat) (ls:List ag),ls.any ag.py=false→st.jV o j ls=ls
 |_,[],_=>rfl
 |j,l::r,h=>by simp only[cGa,aEa] at h;simp only[St.jV,uI st o (j+1) r h.2];cases l<;>simp_all[St.res,ag.py]
theorem ay.Vp{X:mz}{st:St}{G:Gh}{w:World}(hm:ay X st G w){o:Nat}{ls:List ag}{arr:Array Value}{elem:TypeId}(ho:st.dL o=none)(KZ:st.cZ false o=false)
  (hb:ls.any ag.py=false) (hlm:ls.any (ag.cZ false o)=false) (Pj:All2 (aT G) ls arr.toList):
  ∃ G',ay X (st.qk o ls) G' (w.alloc (.cells arr elem (0,0)))∧G.Le G' false o∧aP G' (.one (.np o 0)) (.pointer (some ⟨w.heap.size,0,none⟩)):=by
 let G':Gh:={G with φ:=fun q=>if q=o then w.heap.size else G.φ q,pre:=fun q=>if q=o then [] else G.pre q,post:=fun q=>if q=o then [] else G.post q}
 have B4:G.Le G' false o:=⟨fun _ _ h=>h,fun q h=>by simp[G',h rfl],fun q h=>by simp[G',h rfl],fun q h=>by simp[G',h rfl],fun _ _=>rfl,fun _=>rfl,fun _ _=>rfl,rfl⟩
 have nH:∀ x b,eR G' (st.qk o ls) x b→(x=(false,o)∧b=w.heap.size)∨(eR G st x b∧x≠(false,o)):=fun x b hx=>by
  obtain⟨k,n⟩:=x;cases k with
  |true=>exact .inr ⟨hx,by simp⟩
  |false=>
   obtain⟨⟨l,hl⟩,rfl⟩:=hx;rw[kG] at hl;by_cases e:o=n
   ·subst e;exact .inl ⟨rfl,by simp[G']⟩
   ·simp only[e,aca] at hl
    have gT:n≠o:=fun h=>e h.symm;exact .inr ⟨⟨⟨l,hl⟩,by simp[G',gT]⟩,by simpa using gT⟩
 have Vb:∀ x b,eR G st x b→b≠w.heap.size:=fun x b h e=>by have:=eR.lt hm h;omega
 refine⟨G',?_,B4,by simp[aP,aT,G']⟩
 refine {sl:=hm.sl,sh:=?_,ob:=?_,ar:=?_,ah:=?_,nd:=?_,pX:=?_,dS:=?_,sZ:=?_,s0:=hm.s0,sn:=hm.sn,fr:=?_,sz:=?_,os:=hm.os,tp:=hm.tp,out:=hm.out,pin:=fun q p h=>(by obtain⟨⟨l,h1⟩,h2⟩:=hm.pin q p h;have gT:q≠o:=(fun e=>absurd ho (by rw[←e,h1];simp));exact⟨⟨l,by rw[kG,aza (bxa gT)];exact h1⟩,by simp[G',gT,h2]⟩),bv:=fun q j u h=>(by obtain⟨h1,⟨l,h2,h3⟩,xP,qO,h4,h5⟩:=hm.bv q j u h;have gT:q≠o:=(fun e=>absurd ho (by rw[←e,h2];simp));exact⟨h1,⟨l,by rw[kG,aza (bxa gT)];exact h2,h3⟩,xP,qO,by simp only[G',gT,aca];rw[iM w _ (fQ h4)];exact h4,by simp only[G',gT,aca];exact h5⟩),ap:=hm.ap,hv:=hm.hv,ds:=hm.ds,hh:=hm.hh}
 ·intro b ob hb
  rw[iM w _ (fQ (hm.sh b ob hb))];exact hm.sh b ob hb
 ·intro q l hq
  rw[kG] at hq;by_cases e:o=q
  ·subst e
   simp only[aua,OF] at hq;subst hq;refine⟨arr,elem,arr.toList,by simp only[G',aua];exact uq w _,by simp[G'],?_⟩
   unfold hY;rw[uI _ _ _ _ hb];exact BT B4 hlm Pj
  ·simp only[e,aca] at hq
   obtain⟨arr',P6,mid,g1,g2,g3⟩:=hm.ob q l hq;have hqo:q≠o:=fun h=>e h.symm;refine⟨arr',P6,mid,by simp only[G',hqo,aca];rw[iM w _ (fQ g1)];exact g1,by simp only[G',hqo,aca];exact g2,?_⟩
   unfold hY at g3 ⊢;rw[jW (st:=st) (fun j l=>by simp)]
   exact BT B4 (rC KZ hq 0) g3
 ·intro a A hA
  refine(hm.ar a A hA).mono (G:=G) (a:=a) (G':=G') (a':=a) (fun _ _ h=>h) rfl rfl (fun i q hq=>?_);have gT:=E8 KZ hA hq;exact⟨by simp[G',gT],by simp[G',gT],by simp[G',gT]⟩
 ·intro a A hA hs p hp
  have:=hm.ah a A hA hs p hp;rw[iM w _ (fQ this)];exact this
 ·exact hm.nd
 ·intro x y b hx hy
  rcases nH x b hx with ⟨rfl,rfl⟩|⟨h1,h2⟩<;>rcases nH y _ hy with ⟨rfl,h⟩|⟨h3,h4⟩
  ·rfl
  ·exact absurd rfl (Vb y _ h3)
  ·exact absurd h (Vb x _ h1)
  ·exact hm.pX x y b h1 h3
 ·intro x b hx
  rcases nH x b hx with ⟨rfl,rfl⟩|⟨h1,h2⟩
  ·cases hS:G.S w.heap.size with
   |none=>rfl
   |some ob=>have:=fQ (hm.sh _ _ hS);omega
  ·exact hm.dS x b h1
 ·intro x b hx
  rcases nH x b hx with ⟨rfl,rfl⟩|⟨h1,h2⟩
  ·exact .inr hm.sz
  ·exact hm.sZ x b h1
 ·intro b hb hn
  have:=hm.fr b hb hn;rw[iM w _ (by have:=hm.sz;omega)];exact this
 ·rw[se];have:=hm.sz;omega
theorem adA{X:mz}{st:St}{G G':Gh}{w:World}(hm:ay X st G w){a:Nat}{A:jG}(hA:A.nest=false)(h:∀ q,q≠a→G'.HV q (G'.vn q)=G.HV q (G.vn q)∧G'.HA q=G.HA q):
  ∀ q B,(st.gE a A).arr q=some B→B.sh=false→B.nest=true→G'.HV q (G'.vn q)=kp (G'.HA q):=fun q B hB B6 hn=>by
 rw[dG] at hB;by_cases e:a=q
 ·simp only[e,aua,OF] at hB;rw[←hB,hA] at hn;cases hn
 ·simp only[e,aca] at hB
  obtain⟨h1,h2⟩:=h q (fun h=>e h.symm);rw[h1,h2];exact hm.hh q B hB B6 hn
theorem X4{A:jG}(h:A.bK=false):A.nest=false:=by have:=EY h;simp[jG.nest,this]
theorem ay.Ar{X:mz}{st:St}{G:Gh}{w:World}(hm:ay X st G w){a:Nat}{t:Ty}{l:List t.nw}{arr:Array Value}{elem:TypeId}{cells rest:List Value}{cap:Nat}{dp:Bool}(ha:st.arr a=none)(KZ:st.cZ true a=false)
  (oW:arr.toList=cells++rest) (XO:cap * t.size≤arr.size) (jI:l.length≤cap) (hl:RepL (fW G.S dp t) cells l []):
  ∃ G',ay X (st.gE a ⟨t,bif dp then .bK else .dB,false,l⟩) G' (w.alloc (.cells arr elem (0,0)))∧G.Le G' true a∧aP G' (.one (.mA a)) (.slice (some ⟨w.heap.size,0,none⟩) l.length cap):=by
 let G':Gh:={G with ψ:=fun q=>if q=a then .slice (some ⟨w.heap.size,0,none⟩) l.length cap else G.ψ q,HA:=fun q=>if q=a then [(w.heap.size,.cells arr elem (0,0))] else G.HA q,HV:=fun q=>if q=a then fun _=>arr.toList else G.HV q}
 have B4:G.Le G' true a:=⟨fun _ _ h=>h,fun _ _=>rfl,fun _ _=>rfl,fun _ _=>rfl,fun q h=>by simp[G',h rfl],fun _=>rfl,fun q h=>by simp[G',h rfl],rfl⟩
 have Vb:∀ x b,eR G st x b→b≠w.heap.size:=fun x b h e=>by have:=eR.lt hm h;omega
 have nH:∀ x b,eR G' (st.gE a ⟨t,bif dp then .bK else .dB,false,l⟩) x b→(x=(true,a)∧b=w.heap.size)∨(eR G st x b∧x≠(true,a)):=fun x b hx=>by
  obtain⟨k,n⟩:=x;cases k with
  |false=>exact .inr ⟨hx,by simp⟩
  |true=>
   obtain⟨⟨A,hA,hs⟩,p,hp,rfl⟩:=hx;rw[dG] at hA;by_cases e:a=n
   ·subst e
    simp only[G',aua,Q7] at hp;exact .inl ⟨rfl,by rw[hp]⟩
   ·simp only[e,aca] at hA
    have gT:n≠a:=fun h=>e h.symm;simp only[G',gT,aca] at hp;exact .inr ⟨⟨⟨A,hA,hs⟩,p,hp,rfl⟩,by simpa using gT⟩
 refine⟨G',?_,B4,by simp[aP,aT,G']⟩
 refine {sl:=?_,sh:=?_,ob:=?_,ar:=?_,ah:=?_,nd:=?_,pX:=?_,dS:=?_,sZ:=?_,s0:=hm.s0,sn:=hm.sn,fr:=?_,sz:=?_,os:=hm.os,tp:=hm.tp,out:=hm.out,pin:=hm.pin,bv:=fun q j u h=>(by obtain⟨h1,h2,xP,qO,h4,h5⟩:=hm.bv q j u h;exact⟨h1,h2,xP,qO,by rw[iM w _ (fQ h4)];exact h4,h5⟩),ap:=fun q u h=>(by obtain⟨h1,⟨B,h2⟩,h3⟩:=hm.ap q u h;have gT:q≠a:=(fun e=>by subst e;rw[ha] at h2;cases h2);exact⟨h1,⟨B,by rw[dG,aza (bxa gT)];exact h2⟩,by simp[G',gT,h3]⟩),hv:=hm.hv,ds:=hm.ds,hh:=fun q B hB B6 hn=>(by
   rw[dG] at hB;by_cases e:a=q
   ·subst e;simp[G',kp]
   ·simp only[e,aca] at hB
    have gT:q≠a:=fun h=>e h.symm;simp only[G',gT,aca];exact hm.hh q B hB B6 hn)}
 ·intro q
  by_cases e:q=a
  ·exact .inl ⟨some ⟨w.heap.size,0,none⟩,l.length,cap,by simp[G',e]⟩
  ·have:=hm.sl q;simpa[G',e] using this
 ·intro b ob hb
  rw[iM w _ (fQ (hm.sh b ob hb))];exact hm.sh b ob hb
 ·intro q ls hq
  obtain⟨arr',P6,mid,g1,g2,g3⟩:=hm.ob q ls hq;refine⟨arr',P6,mid,by rw[iM w _ (fQ g1)];exact g1,g2,?_⟩
  unfold hY at g3 ⊢;rw[jW (st:=st) (fun j l=>by simp)]
  exact BT B4 (rC KZ hq 0) g3
 ·intro b B hB
  rw[dG] at hB;by_cases e:a=b
  ·subst e
   simp only[aua,OF] at hB;subst hB;refine(gR rfl (by cases dp<;>rfl)).2 ?_
   rw[show(⟨t,bif dp then Md.bK else Md.dB,false,l⟩:jG).bK=dp by cases dp<;>rfl]
   exact .inr ⟨w.heap.size,cap,arr,elem,cells,rest,[],by simp[G'],by simp[G'],oW,XO,jI,hl⟩
  ·simp only[e,aca] at hB
   have gT:b≠a:=fun h=>e h.symm;exact(hm.ar b B hB).mono (G:=G) (a:=b) (G':=G') (a':=b) (fun _ _ h=>h) (by simp[G',gT]) (by simp[G',gT]) (fun _ _ _=>⟨rfl,rfl,rfl⟩)
 ·intro b B hB hs p hp
  rw[dG] at hB;by_cases e:a=b
  ·subst e
   simp only[G',aua,Q7] at hp;rw[hp];exact uq w _
  ·simp only[e,aca] at hB
   have gT:b≠a:=fun h=>e h.symm;simp only[G',gT,aca] at hp;have:=hm.ah b B hB hs p hp;rw[iM w _ (fQ this)];exact this
 ·intro b B hB hs
  rw[dG] at hB;by_cases e:a=b
  ·subst e;simp[G']
  ·simp only[e,aca] at hB
   have gT:b≠a:=fun h=>e h.symm;simp only[G',gT,aca];exact hm.nd b B hB hs
 ·intro x y b hx hy
  rcases nH x b hx with ⟨rfl,rfl⟩|⟨h1,h2⟩<;>rcases nH y _ hy with ⟨rfl,h⟩|⟨h3,h4⟩
  ·rfl
  ·exact absurd rfl (Vb y _ h3)
  ·exact absurd h (Vb x _ h1)
  ·exact hm.pX x y b h1 h3
 ·intro x b hx
  rcases nH x b hx with ⟨rfl,rfl⟩|⟨h1,h2⟩
  ·cases hS:G.S w.heap.size with
   |none=>rfl
   |some ob=>have:=fQ (hm.sh _ _ hS);omega
  ·exact hm.dS x b h1
 ·intro x b hx
  rcases nH x b hx with ⟨rfl,rfl⟩|⟨h1,h2⟩
  ·exact .inr hm.sz
  ·exact hm.sZ x b h1
 ·intro b hb hn
  have:=hm.fr b hb hn;rw[iM w _ (by have:=hm.sz;omega)];exact this
 ·rw[se];have:=hm.sz;omega
theorem ay.RB{X:mz}{st:St}{G:Gh}{w:World}(hm:ay X st G w)(a:Nat)(hb:look st.fK a=none)(XW:eU a st.pin=false):ay X {st with cM:=F7 st.cM a} G w:=by
 have oW:∀ q,({st with cM:=F7 st.cM a}:St).arr q=if a=q then none else st.arr q:=fun q=>by
  simp only[St.arr,qe];by_cases e:a=q
  ·subst e;simp[hb]
  ·simp[e]
 have nH:∀ x b,eR G {st with cM:=F7 st.cM a} x b→eR G st x b:=fun x b hx=>by
  obtain⟨k,n⟩:=x;cases k with
  |false=>exact hx
  |true=>
   obtain⟨⟨A,hA,hs⟩,hp⟩:=hx;rw[oW] at hA;by_cases e:a=n
   ·simp[e] at hA
   ·simp only[e,aca] at hA;exact⟨⟨A,hA,hs⟩,hp⟩
 refine {sl:=hm.sl,sh:=hm.sh,ob:=?_,ar:=?_,ah:=?_,nd:=?_,pX:=fun x y b hx hy=>hm.pX x y b (nH x b hx) (nH y b hy),dS:=fun x b hx=>hm.dS x b (nH x b hx),sZ:=fun x b hx=>hm.sZ x b (nH x b hx),s0:=hm.s0,sn:=hm.sn,fr:=hm.fr,sz:=hm.sz,os:=hm.os,tp:=hm.tp,out:=hm.out,pin:=hm.pin,bv:=hm.bv,ap:=fun q u h=>(by obtain⟨h1,⟨B,h2⟩,h3⟩:=hm.ap q u h;have gT:a≠q:=(fun e=>by subst e;rw[XW] at h1;cases h1);exact⟨h1,⟨B,by rw[oW,aza gT];exact h2⟩,h3⟩),hv:=hm.hv,ds:=hm.ds,hh:=fun q B hB B6 hn=>(by rw[oW] at hB;by_cases e:a=q<;>simp only[e,aua,aca] at hB<;>first|cases hB|exact hm.hh q B hB B6 hn)}
 ·intro o ls ho
  obtain⟨arr,elem,mid,h1,h2,h3⟩:=hm.ob o ls ho;refine⟨arr,elem,mid,h1,h2,?_⟩;unfold hY at h3 ⊢;rw[jW (st:=st) (fun j l=>by cases l<;>rfl)]
  exact h3
 ·intro b B hB
  rw[oW] at hB;by_cases e:a=b
  ·simp[e] at hB
  ·simp only[e,aca] at hB;exact hm.ar b B hB
 ·intro b B hB
  rw[oW] at hB;by_cases e:a=b
  ·simp[e] at hB
  ·simp only[e,aca] at hB;exact hm.ah b B hB
 ·intro b B hB
  rw[oW] at hB;by_cases e:a=b
  ·simp[e] at hB
  ·simp only[e,aca] at hB;exact hm.nd b B hB
end Go.Fx
namespace Go.Fx
theorem ay.Oq{X:mz}{st st':St}{G:Gh}{w w':World}(hm:ay X st G w){a dst:Nat}{A A':jG}(hA:st.arr a=some A)(hs:A.sh=false)(B6:A'.sh=false)(how:A'.pd=true)
  {b len cap cap':Nat} {arr arr':Array Value} {elem:TypeId} {H':fY} (hψ:G.ψ a=.slice (some ⟨b,0,none⟩) len cap) (hHA:G.HA a=(b,Obj.cells arr elem (0,0))::H')
  (jr:kf (RepL (fW G.S A'.bK A'.t)) A'.t.size [.slice (some ⟨b,0,none⟩) A'.l.length cap'] A'.l ((b,Obj.cells arr' elem (0,0))::H'))
  (hw:w'.heap[b]? = some (.cells arr' elem (0,0))) (hwo:∀ k,k≠b→w'.heap[k]? = w.heap[k]?) (mF:w'.heap.size=w.heap.size) (hos:w'.os=w.os) (htp:w'.tape=w.tape) (xY:w'.output=w.output)
  (hnn:A'.nest=false) (hk:qS st st') (oW:∀ q,st'.arr q=if q=dst then some A' else if q=a then none else st.arr q)
  (abn:(dst=a∧Value.slice (some ⟨b,0,none⟩) A'.l.length cap' = G.ψ a)∨(dst≠a∧st.arr dst=none∧st.cZ true dst=false∧eU a st.pin=false)):
  ∃ G',ay X st' G' w'∧(∀ act,bM G st act→bM G' st' act)∧aP G' (.one (.mA dst)) (.slice (some ⟨b,0,none⟩) A'.l.length cap'):=by
 let hd:Value:=.slice (some ⟨b,0,none⟩) A'.l.length cap';let G':Gh:={G with ψ:=fun q=>if q=dst then hd else G.ψ q,HA:=fun q=>if q=dst then(b,Obj.cells arr' elem (0,0))::H' else G.HA q}
 have acF:∀ p∈G.HA a,eR G st (true,a) p.1:=fun p hp=>⟨⟨A,hA,hs⟩,p,hp,rfl⟩;have RK:eR G st (true,a) b:=acF (b,Obj.cells arr elem (0,0)) (by rw[hHA];simp)
 have NH:∀(l:ag) (v:Value),(dst≠a→l.cZ true dst=false)→aT G l v→aT G' l v:=fun l v hl r=>by
  by_cases e:dst=a
  ·subst e
   have h2:hd=G.ψ dst:=by
    rcases abn with ⟨_,h⟩|⟨h,_⟩
    ·exact h
    ·exact absurd rfl h
   have hψ':G'.ψ=G.ψ:=funext fun q=>by
    by_cases hq:q=dst
    ·subst hq;simp[G',h2]
    ·simp[G',hq]
   cases l with
   |mA q=>simp only[aT,hψ'];exact r
   |DT q s i off=>simp only[aT,hψ'];exact r
   |Fb q v s i off=>exact u9.Au r (by rw[hψ']) (ava _) (fun _ _=>rfl)
   |nse q v s i off s2 j TU=>obtain⟨b2,Ku,LF,h3,h4⟩:=r;exact⟨b2,Ku,LF,h3.Au (by rw[hψ']) (ava _) (fun _ _=>rfl),h4⟩
   |L9 q kk n=>simp only[aT,hψ'];exact r
   |_=>exact r
  ·have B4:G.Le G' true dst:=⟨fun _ _ h=>h,fun _ _=>rfl,fun _ _=>rfl,fun _ _=>rfl,fun q h=>by simp[G',h rfl],fun _=>rfl,fun _ _=>rfl,rfl⟩
   exact r.le B4 (hl e)
 have afo:∀(v:ab) (u:Value),(dst≠a→v.cZ true dst=false)→aP G v u→aP G' v u:=fun v u hl r=>by
  by_cases e:dst=a
  ·have Mi:∀ l v,aT G l v→aT G' l v:=fun l v=>NH l v (fun h=>absurd e h)
   cases v with
   |one l=>exact Mi _ _ r
   |agg ls=>obtain⟨cs,e,hr⟩:=r;exact⟨cs,e,hr.imp fun _ _=>Mi _ _⟩
   |Lg vs=>
    obtain⟨us,e,hr⟩:=r;refine⟨us,e,hr.imp fun p u NG=>?_⟩;split at NG
    ·rename_i hc;simp only[hc,aua];obtain⟨cs,e,hr⟩:=NG;exact⟨cs,e,hr.imp fun _ _=>Mi _ _⟩
    ·rename_i hc
     obtain⟨l,e,hr⟩:=NG;simp only[bva] at hc;simp only[hc,asa,aca];exact⟨l,e,Mi _ _ hr⟩
   |Ak t ls=>obtain⟨u,cs,e1,e2,hr⟩:=r;exact⟨u,cs,e1,e2,hr.imp fun _ _=>Mi _ _⟩
  ·have B4:G.Le G' true dst:=⟨fun _ _ h=>h,fun _ _=>rfl,fun _ _=>rfl,fun _ _=>rfl,fun q h=>by simp[G',h rfl],fun _=>rfl,fun _ _=>rfl,rfl⟩
   exact r.le B4 (hl e)
 have ux:dst≠a→st.cZ true dst=false:=fun h=>by rcases abn with ⟨e,_⟩|⟨_,_,h,_⟩;exact absurd e h;exact h
 have nH:∀ x c,eR G' st' x c→(x=(true,dst)∧eR G st (true,a) c)∨(eR G st x c∧x≠(true,a)∧x≠(true,dst)):=fun x c hx=>by
  obtain⟨k,n⟩:=x;cases k with
  |false=>obtain⟨⟨ls,hl⟩,rfl⟩:=hx;rw[hk.dL] at hl;exact .inr ⟨⟨⟨ls,hl⟩,rfl⟩,by simp,by simp⟩
  |true=>
   obtain⟨⟨B,hB,Kh⟩,p,hp,rfl⟩:=hx;rw[oW] at hB;by_cases e:n=dst
   ·subst e
    simp only[G',aua,aka] at hp;refine .inl ⟨rfl,?_⟩;rcases hp with rfl|hp
    ·exact RK
    ·exact acF p (by rw[hHA];simp[hp])
   ·simp only[e,aca] at hB
    by_cases e2:n=a
    ·simp[e2] at hB
    ·simp only[e2,aca] at hB
     simp only[G',e,aca] at hp;exact .inr ⟨⟨⟨B,hB,Kh⟩,p,hp,rfl⟩,by simpa using e2,by simpa using e⟩
 have hnb:∀ x c,eR G st x c→x≠(true,a)→c≠b:=fun x c h hx e=>hx (hm.pX x (true,a) b (e ▸ h) RK);refine⟨G',?_,?_,by simp[aP,aT,G',hd]⟩
 ·refine {sl:=?_,sh:=?_,ob:=?_,ar:=?_,ah:=?_,nd:=?_,pX:=?_,dS:=?_,sZ:=?_,s0:=hm.s0,sn:=hm.sn,fr:=?_,sz:=?_,os:=hos.trans hm.os,tp:=htp.trans hm.tp,out:=xY.trans hm.out,pin:=fun o p h=>(by obtain⟨⟨l,h1⟩,h2⟩:=hm.pin o p h;exact⟨⟨l,by rw[hk.dL];exact h1⟩,h2⟩),bv:=fun o j u h=>(by obtain⟨h1,⟨l,h2,h3⟩,xP,qO,h4,h5⟩:=hm.bv o j u h;exact⟨by rw[hk.bl];exact h1,⟨l,by rw[hk.dL];exact h2,h3⟩,xP,qO,by rw[hwo _ (hnb (false,o) _ ⟨⟨l,h2⟩,rfl⟩ (by simp))];exact h4,h5⟩),ap:=fun q u h=>(by
   obtain⟨h1,⟨B,h2⟩,h3⟩:=hm.ap q u h;refine⟨by rw[hk.pn];exact h1,?_,?_⟩
   ·rw[oW]
    by_cases e:q=dst
    ·exact⟨A',by rw[a4a e]⟩
    ·rw[aza e]
     by_cases e2:q=a
     ·rcases abn with ⟨e3,_⟩|⟨_,_,_,e3⟩
      ·exact absurd (e2.trans e3.symm) e
      ·rw[←e2,h1] at e3;cases e3
     ·exact⟨B,by rw[aza e2];exact h2⟩
   ·by_cases e:q=dst
    ·rcases abn with ⟨e3,e4⟩|⟨_,e3,_⟩
     ·simp only[G',e,aua,hd];rw[e4,←e3,←e];exact h3
     ·rw[←e,h2] at e3;cases e3
    ·simp[G',e,h3]),
          hv:=fun q=>(by unfold St.dA;rw[hk.vr];exact hm.hv q),
          ds:=hm.ds,hh:=fun q B hB hs2 hn=>(by
        rw[oW] at hB;by_cases e:q=dst
        ·simp only[e,aua,OF] at hB;rw[←hB,hnn] at hn;cases hn
        ·simp only[e,aca] at hB
         by_cases e2:q=a
         ·simp[e2] at hB
         ·simp only[e2,aca] at hB;simp only[G',e,aca];exact hm.hh q B hB hs2 hn)}
  ·intro q
   by_cases e:q=dst
   ·exact .inl ⟨some ⟨b,0,none⟩,A'.l.length,cap',by simp[G',e,hd]⟩
   ·have:=hm.sl q;simpa[G',e] using this
  ·intro c o hc
   have:c≠b:=fun e=>by have:=hm.dS _ _ RK;rw[←e] at this;rw[show G'.S=G.S from rfl,this] at hc;cases hc
   rw[hwo c this];exact hm.sh c o hc
  ·intro o ls ho
   rw[hk.dL] at ho;obtain⟨xP,qO,mid,g1,g2,g3⟩:=hm.ob o ls ho;have gT:G.φ o≠b:=hnb (false,o) _ ⟨⟨ls,ho⟩,rfl⟩ (by simp)
   refine⟨xP,qO,mid,by rw[hwo _ gT];exact g1,g2,?_⟩
   unfold hY at g3 ⊢;rw[jW (st:=st) (fun j l=>hk.res o j l)];refine g3.uz fun l v hl hr=>NH l v (fun gT=>?_) hr;have:=rC (ux gT) ho 0;have:=aOa.1 this l hl;simpa using this
  ·intro q B hB
   rw[oW] at hB;by_cases e:q=dst
   ·subst e
    simp only[aua,OF] at hB;subst hB;refine(gR B6 how).2 ?_;simpa[G',hd] using jr
   ·simp only[e,aca] at hB
    by_cases e2:q=a
    ·simp[e2] at hB
    ·simp only[e2,aca] at hB
     exact(hm.ar q B hB).mono (G:=G) (a:=q) (G':=G') (a':=q) (fun _ _ h=>h) (by simp[G',e]) (by simp[G',e]) (fun _ _ _=>⟨rfl,rfl,rfl⟩)
  ·intro q B hB Kh p hp
   rw[oW] at hB;by_cases e:q=dst
   ·subst e
    simp only[G',aua,aka] at hp;rcases hp with rfl|hp
    ·exact hw
    ·have JB:p∈G.HA a:=by rw[hHA];simp[hp]
     have gT:p.1≠b:=fun e=>by have IU:=hm.nd a A hA hs;rw[hHA] at IU;simp only[aFa,a0a] at IU;exact IU.1 (by rw[←e];exact aGa hp)
     rw[hwo _ gT];exact hm.ah a A hA hs p JB
   ·simp only[e,aca] at hB
    by_cases e2:q=a
    ·simp[e2] at hB
    ·simp only[e2,aca] at hB
     simp only[G',e,aca] at hp;have gT:p.1≠b:=hnb (true,q) _ ⟨⟨B,hB,Kh⟩,p,hp,rfl⟩ (by simpa using e2)
     rw[hwo _ gT];exact hm.ah q B hB Kh p hp
  ·intro q B hB Kh
   rw[oW] at hB;by_cases e:q=dst
   ·subst e
    simp only[G',aua];have:=hm.nd a A hA hs;rw[hHA] at this;simpa using this
   ·simp only[e,aca] at hB
    by_cases e2:q=a
    ·simp[e2] at hB
    ·simp only[e2,aca] at hB
     simp only[G',e,aca];exact hm.nd q B hB Kh
  ·intro x y c hx hy
   rcases nH x c hx with ⟨rfl,h1⟩|⟨h1,h2,h2'⟩<;>rcases nH y c hy with ⟨rfl,h3⟩|⟨h3,h4,h4'⟩
   ·rfl
   ·exact absurd (hm.pX y (true,a) c h3 h1) h4
   ·exact absurd (hm.pX x (true,a) c h1 h3) h2
   ·exact hm.pX x y c h1 h3
  ·intro x c hx
   rcases nH x c hx with ⟨rfl,h1⟩|⟨h1,_⟩
   ·exact hm.dS _ c h1
   ·exact hm.dS x c h1
  ·intro x c hx
   rcases nH x c hx with ⟨rfl,h1⟩|⟨h1,_⟩
   ·exact hm.sZ _ c h1
   ·exact hm.sZ x c h1
  ·intro c hc hn
   have:c≠b:=fun e=>by
    rcases hm.sZ _ _ RK with h|h
    ·exact hn (e ▸ h)
    ·omega
   rw[hwo c this];exact hm.fr c hc hn
  ·rw[mF];exact hm.sz
 ·intro act r
  refine⟨r.1,r.2.1.trans hk.n.symm,fun i v hv=>?_⟩;rw[hk.ib] at hv;exact afo v _ (fun gT=>Bu (ux gT) hv) (r.2.2 i v hv)
theorem RN(w:World)(b o:Nat)(v:Value){arr:Array Value}{elem:TypeId}{fz:Nat×Nat}(h:w.heap[b]? = some (.cells arr elem fz)):
  (w.setCell ⟨b,o,none⟩ v).heap[b]? = some (.cells (arr.setIfInBounds o v) elem fz):=by
 simp[World.setCell,cqa,h]
theorem LR(w:World)(b o k:Nat)(v:Value)(h:k≠b):(w.setCell ⟨b,o,none⟩ v).heap[k]? = w.heap[k]?:=by simp only[World.setCell,cqa];rw[aza (by omega)]
theorem nW(b:Nat):∀(vs:List Value) (o:Nat) (w:World) {arr:Array Value} {elem:TypeId} {fz:Nat×Nat},w.heap[b]? = some (.cells arr elem fz)→o+vs.length≤arr.size→
  ∃ arr',(w.setCells b o vs).heap[b]? = some (.cells arr' elem fz)∧arr'.toList=arr.toList.take o++(vs++arr.toList.drop (o+vs.length))∧(∀ k,k≠b→(w.setCells b o vs).heap[k]? = w.heap[k]?)∧
   (w.setCells b o vs).heap.size=w.heap.size∧(w.setCells b o vs).os=w.os∧(w.setCells b o vs).tape=w.tape∧(w.setCells b o vs).output=w.output
 |[],o,w,arr,elem,fz,h,hl=>⟨arr,h,by simp,fun _ _=>rfl,rfl,rfl,rfl,rfl⟩
 |v::vs,o,w,arr,elem,fz,h,hl=>by
  simp only[ara] at hl;obtain⟨arr',h1,h2,h3,h4,h5,h6,h7⟩:=nW b vs (o+1) (w.setCell ⟨b,o,none⟩ v) (RN w b o v h) (by simp;omega)
  refine⟨arr',h1,?_,fun k hk=>(h3 k hk).trans (LR w b o k v hk),h4.trans (by simp[World.setCell]),h5,h6,h7⟩
  rw[h2,Array.toList_setIfInBounds];have jI:o<arr.toList.length:=by simp;omega
  have e1:(arr.toList.set o v).take (o+1)=arr.toList.take o++[v]:=by rw[cpa (by simpa using jI)];simp[List.take_set_of_le]
  have e2:(arr.toList.set o v).drop (o+1+vs.length)=arr.toList.drop (o+(vs.length+1)):=by rw[List.drop_set_of_lt (by omega)];congr 1;omega
  rw[e1,e2];simp
theorem BG{w:World}{b:Nat}{arr:Array Value}{elem:TypeId}(h:w.heap[b]? = some (.cells arr elem (0,0))){o n:Nat}(hn:o+n≤arr.size):w.there b o n:=by
 intro j hj;have:(arr[o+j]?).isSome=true:=by simp;omega
 exact⟨by simp[World.cell?,h];omega,by simp[World.frozen?,h]⟩
end Go.Fx
namespace Go.Fx
theorem M8{ls:List ag}(h:ls.all ag.cell=true):ls.any ag.py=false:=by rw[aOa];intro l hl;have:=apa.1 h l hl;cases l<;>simp_all[ag.cell,ag.py]
theorem QH(st:St)(o:Nat):∀(n j:Nat) (ls:List ag),st.jV o j (ls.take n)=(st.jV o j ls).take n
 |0,_,_=>by simp[St.jV]
 |n+1,_,[]=>by simp[St.jV]
 |n+1,j,l::ls=>by simp[St.jV,QH st o n (j+1) ls]
theorem QG(st:St)(o:Nat):∀(n j:Nat) (ls:List ag),st.jV o (j+n) (ls.drop n)=(st.jV o j ls).drop n
 |0,_,_=>by simp
 |n+1,_,[]=>by simp[St.jV]
 |n+1,j,l::ls=>by simp only[List.drop_succ_cons,St.jV];rw[←QG st o n (j+1) ls,show j+(n+1)=j+1+n by omega]
theorem VD(st:St)(o off:Nat)(ls nl:List ag)(hn:nl.any ag.py=false)(hl:off+nl.length≤ls.length):
  st.jV o 0 (mo ls off nl)=mo (st.jV o 0 ls) off nl:=by
 unfold mo;have e:=QG st o (off+nl.length) 0 ls;rw[aTa] at e;rw[EC,EC,QH,uI st o _ nl hn,List.length_take,Nat.min_eq_left (by omega),aTa,e]
theorem ay.Ux{X:mz}{st:St}{G:Gh}{w w':World}(hm:ay X st G w){o off:Nat}{ls nl:List ag}{vs:List Value}(ho:st.dL o=some ls)(hn:nl.any ag.py=false)(hl:off+nl.length≤ls.length)(hcb:((ls.drop off).take nl.length).any ag.py=false)
  (hv:All2 (aT G) nl vs) {arr arr':Array Value} {elem:TypeId} {mid:List Value} (g1:w.heap[G.φ o]? = some (.cells arr elem (0,0))) (g2:arr.toList=G.pre o++(mid++G.post o)) (g3:hY G st o 0 ls mid)
  (hw:w'.heap[G.φ o]? = some (.cells arr' elem (0,0))) (Nv:arr'.toList=G.pre o++((mid.take off++(vs++mid.drop (off+vs.length)))++G.post o))
  (hwo:∀ k,k≠G.φ o→w'.heap[k]? = w.heap[k]?) (mF:w'.heap.size=w.heap.size) (hos:w'.os=w.os) (htp:w'.tape=w.tape) (xY:w'.output=w.output):
  ay X (st.qk o (mo ls off nl)) G w':=by
 have jr:eR G st (false,o) (G.φ o):=⟨⟨ls,ho⟩,rfl⟩;have nH:∀ x c,eR G (st.qk o (mo ls off nl)) x c→eR G st x c:=fun x c hx=>by
  obtain⟨k,n⟩:=x;cases k with
  |true=>exact hx
  |false=>
   obtain⟨⟨l,h⟩,rfl⟩:=hx;rw[kG] at h;by_cases e:o=n
   ·subst e;exact jr
   ·simp only[e,aca] at h;exact⟨⟨l,h⟩,rfl⟩
 have hnb:∀ x c,eR G st x c→x≠(false,o)→c≠G.φ o:=fun x c h hx e=>hx (hm.pX x (false,o) _ (e ▸ h) jr);refine {sl:=hm.sl,sh:=?_,ob:=?_,ar:=hm.ar,ah:=?_,nd:=hm.nd,pX:=fun x y b hx hy=>hm.pX x y b (nH x b hx) (nH y b hy),dS:=fun x b hx=>hm.dS x b (nH x b hx),sZ:=fun x b hx=>hm.sZ x b (nH x b hx),s0:=hm.s0,sn:=hm.sn,fr:=?_,sz:=by rw[mF];exact hm.sz,os:=hos.trans hm.os,tp:=htp.trans hm.tp,out:=xY.trans hm.out,pin:=fun q p h=>(by obtain⟨⟨l,h1⟩,h2⟩:=hm.pin q p h;refine⟨?_,h2⟩;rw[kG];by_cases e:o=q<;>simp[e,h1]),bv:=?_,ap:=hm.ap,hv:=hm.hv,ds:=hm.ds,hh:=hm.hh}
 ·intro c ob hc
  have:c≠G.φ o:=fun e=>by have:=hm.dS _ _ jr;rw[←e,hc] at this;cases this
  rw[hwo c this];exact hm.sh c ob hc
 ·intro q l hq
  rw[kG] at hq;by_cases e:o=q
  ·subst e
   simp only[aua,OF] at hq;subst hq;refine⟨arr',elem,_,hw,Nv,?_⟩;unfold hY at g3 ⊢;rw[jW (st:=st) (fun j l=>by simp),VD st o off ls nl hn hl]
   unfold mo;rw[hv.length];exact(g3.take off).append (hv.append (g3.drop _))
  ·simp only[e,aca] at hq
   obtain⟨xP,qO,agW,k1,k2,k3⟩:=hm.ob q l hq;have gT:G.φ q≠G.φ o:=hnb (false,q) _ ⟨⟨l,hq⟩,rfl⟩ (by simpa using fun h=>e h.symm)
   refine⟨xP,qO,agW,by rw[hwo _ gT];exact k1,k2,?_⟩
   unfold hY at k3 ⊢;rw[jW (st:=st) (fun j l=>by simp)]
   exact k3
 ·intro a A hA hs p hp
  have gT:p.1≠G.φ o:=hnb (true,a) _ ⟨⟨A,hA,hs⟩,p,hp,rfl⟩ (by simp)
  rw[hwo _ gT];exact hm.ah a A hA hs p hp
 ·intro c hc hn
  have:c≠G.φ o:=fun e=>by
   rcases hm.sZ _ _ jr with h|h
   ·exact hn (e ▸ h)
   ·rw[←e] at h;omega
  rw[hwo c this];exact hm.fr c hc hn
 ·intro q j u h
  obtain⟨h1,⟨l,h2,h3⟩,xP,qO,h4,h5⟩:=hm.bv q j u h;by_cases e:o=q
  ·subst e
   rw[ho] at h2;cases h2;rw[g1] at h4;cases h4;have hml:mid.length=ls.length:=by have:=All2.length g3;rw[iJ] at this;exact this.symm
   have hj:j<ls.length:=(aja.1 h3).1;have hvl:=hv.length;have xY:j<off∨off+nl.length≤j:=by
    rcases cLa j off with h' | h'
    ·exact .inl h'
    ·refine .inr (coa fun h''=>?_)
     have gS:((ls.drop off).take nl.length)[j - off]? = some .ur:=by rw[bza (by omega),bRa,show off+(j - off)=j by omega];exact h3
     have:=aOa.1 hcb _ (aZa gS);exact this rfl
   have key:∀{α:Type} (x y:List α) (ys:List α),x.length=ls.length→ys.length=nl.length→(x.take off++(ys++x.drop (off+ys.length)))[j]? = x[j]?:=fun x y ys hx hy=>by
    rcases xY with h' | h'
    ·rw[aRa (by simp;omega),bza h']
    ·rw[aPa (by simp;omega),aPa (by simp;omega),bRa]
     congr 1;simp;omega
   refine⟨h1,⟨mo ls off nl,by rw[kG,a4a rfl],by unfold mo;rw[key ls ls nl rfl rfl];exact h3⟩,arr',elem,hw,?_⟩
   rw[Nv,aPa (by omega),bca]
   rw[g2,aPa (by omega),bca] at h5
   have ahi:(mid.take off++(vs++mid.drop (off+vs.length))).length=mid.length:=by simp;omega
   rw[aRa (by omega)] at h5
   rw[aRa (by omega),key mid mid vs hml (by omega)];exact h5
  ·have gT:G.φ q≠G.φ o:=hnb (false,q) _ ⟨⟨l,h2⟩,rfl⟩ (by simpa using fun h=>e h.symm)
   exact⟨h1,⟨l,by rw[kG,aza e];exact h2,h3⟩,xP,qO,by rw[hwo _ gT];exact h4,h5⟩
theorem HR{α:Type}(pre mid post vs:List α)(off n:Nat)(h:off+n≤mid.length):
  (pre++(mid++post)).take (pre.length+off)++(vs++(pre++(mid++post)).drop (pre.length+off+n))=pre++((mid.take off++(vs++mid.drop (off+n)))++post):=by
 rw[bDa,List.take_length_add_append,List.drop_length_add_append,cwa (by omega),List.drop_append_of_le_length h]
 simp
theorem EW{X:mz}{st:St}{G:Gh}{w:World}(hm:ay X st G w):∀{ls:List ag} {vs:List Value},ls.all ag.cell=true→All2 (aT G) ls vs→∀ v∈vs,v.oneCell' = true
 |[],[],_,_,v,hv=>by cases hv
 |l::ls,u::vs,h,a,v,hv=>by
  simp only[bma,Q4] at h;rcases aka.1 hv with rfl|hv
  ·exact(S4 hm h.1 a.1).1
  ·exact EW hm h.2 a.2 v hv
 |[],_::_,_,h,_,_=>h.elim
 |_::_,[],_,h,_,_=>h.elim
theorem zR{P:Program}{w:World}{t:TypeId}{ti:TI}(hT:zZ P t ti){b o:Nat}{v:Value}(hl:v.cells.size=ti.size)(ht:w.there b o v.cells.size)(h1:∀ u∈v.cells.toList,u.oneCell' = true):
  (Instr.storeAt t (.pointer (some ⟨b,o,none⟩)) v).run P w=.ok () (w.setCells b o v.cells.toList):=by
 obtain⟨i,d,z,h1',h2,h3,_⟩:=hT;have:=run_storeAt_mid (P:=P) w b o t v.cells ht (by rw[h1'];simp[h3,hl]) (Array.all_eq_true_iff_forall_mem.2 fun u hu=>h1 u (by simpa using hu))
 exact this
section ops
variable {P:Program} {E:sb} (hE:iq P E.ia) {X:mz} {st:St} {G:Gh} {w:World} {R:Type} {r:R}
include hE
theorem Vv{T:TypeId}{x v:ab}{vx vv:Value}{K:St→Option R}(h:xd E T x v st K=some r)(hm:ay X st G w)(hx:aP G x vx)(hv:aP G v vv):
  ∃ st' G' w',(Instr.storeAt T vx vv).run P w=.ok () w'∧ay X st' G' w'∧(∀ act,bM G st act→bM G' st' act)∧K st' = some r:=by
 unfold xd at h;cases hT:E.ia T with
 |none=>simp[hT] at h
 |some ti=>
  cases hl:v.pH with
  |none=>simp[hT,hl] at h
  |some vs=>
   simp only[hT,hl] at h;cases hc:(Nat.beq vs.length ti.size&&vs.all ag.cell) with
   |false=>simp[hc] at h
   |true=>
    simp only[hc,Q9] at h;simp only[Q4] at hc;have jI:vs.length=ti.size:=Q5 hc.1;have Ga:=mv hm hl hv;have Tx:=EW hm hc.2 Ga;have Hn:vv.cells.size=ti.size:=by rw[←jI,Ga.length];simp
    have hti:=hE T ti hT;cases x with
    |agg ls=>simp[ab.bN] at h
    |Lg ls=>simp[ab.bN] at h
    |Ak t ls=>simp[ab.bN] at h
    |one l=>
     simp only[ab.bN] at h;cases l with
     |np o off=>
      simp only at h;cases ho:st.dL o with
      |none=>simp[ho] at h
      |some ls=>
       simp only[ho] at h;cases hs:qo ls off ti.size with
       |none=>simp[hs] at h
       |some c=>
        simp only[hs] at h;cases hb:c.any ag.py with
        |true=>simp[hb] at h
        |false=>
         simp only[hb,ana] at h;have B4:off+ti.size≤ls.length:=by
          unfold qo at hs;cases hq:Nat.ble (off+ti.size) ls.length with
          |false=>simp[hq] at hs
          |true=>exact aUa hq
         obtain⟨arr,elem,mid,g1,g2,g3⟩:=hm.ob o ls ho;have hml:mid.length=ls.length:=by have:=All2.length g3;rw[iJ] at this;exact this.symm
         have U7:arr.size=(G.pre o).length+(mid.length+(G.post o).length):=by rw[←bda,g2];simp
         have E4:vx=.pointer (some ⟨G.φ o,(G.pre o).length+off,none⟩):=hx;have wL:(G.pre o).length+off+vv.cells.size≤arr.size:=by omega
         obtain⟨arr',k1,k2,k3,k4,k5,k6,k7⟩:=nW (G.φ o) vv.cells.toList ((G.pre o).length+off) w g1 (by simpa using wL)
         refine⟨st.qk o (mo ls off vs),G,_,by rw[E4];exact zR hti Hn (BG g1 wL) Tx,?_,fun act ha=>⟨ha.1,ha.2.1,ha.2.2⟩,h⟩
         refine hm.Ux ho (M8 hc.2) (by omega) (by rw[jI];unfold qo at hs;cases hq:Nat.ble (off+ti.size) ls.length<;>simp[hq] at hs;rw[hs];exact hb) Ga g1 g2 g3 k1 ?_ k3 k4 k5 k6 k7
         have B5:vv.cells.toList.length=ti.size:=by simpa using Hn
         rw[k2,g2,B5];exact HR _ _ _ _ _ _ (by omega)
     |DT a sz i off=>
      simp only at h;cases dq:st.uK vs with
      |none=>simp[dq] at h
      |some wb=>
       simp only[dq] at h;obtain⟨G1,LT,p9,acB⟩:=Fg dq hm;cases hA:look wb.cM a with
       |none=>simp[hA] at h
       |some A=>
        simp only[hA] at h;cases hb:(A.bK||A.sh||!Nat.beq sz A.t.size) with
        |true=>simp[hb] at h
        |false=>
         simp only[hb,ana] at h;simp only[aEa,bla] at hb;obtain⟨⟨hd,Qg⟩,mF⟩:=hb;have mF:sz=A.t.size:=Q5 mF;obtain⟨d,hd1,h⟩:=awa.1 h;cases B4:Nat.ble (off+ti.size) A.t.size with
         |false=>simp[B4] at h
         |true=>
          simp only[B4,Q9] at h;have B4:=aUa B4;cases him:o8 wb A.t (mo (jO A.t d) off vs) with
          |none=>simp[him] at h
          |some p=>
           obtain⟨x',r'⟩:=p;cases r' with
           |cons=>simp[him] at h
           |nil=>
            simp only[him] at h;have jH:wb.arr a=some A:=by simp[St.arr,hA]
            obtain⟨b,len,adj,q1,q2,rfl⟩:aT G1 (.DT a sz i off) vx:=aT.sub p9 hx;have sy:=LT.ar a A jH
            replace sy:=(gR Qg (DV hd)).1 sy
            rw[hd] at sy;have hi:A.l[i]? = some d:=by simpa[bA] using hd1
            rcases sy with ⟨e1,e2,e3⟩|⟨b',cap,arr,elem,cells,rest,H',e1,e2,e3,e4,e5,e6⟩
            ·rw[e1] at hi;simp at hi
            ·simp only[aHa,a7a] at e1
             rw[e1] at q1;cases q1;have sR:=LT.ah a A jH Qg (b,Obj.cells arr elem (0,0)) (by rw[e2];simp)
             obtain⟨pre,cc,post,Hp,Hc,Hq,k1,k2,k3,k4,k5⟩:=RepL.at (fun c x H hr=>fW.size hr) e6 hi;have hHc:=fW.ny k4;rw[hHc] at k4 k3;have aeW:All2 (aT G1) vs vv.cells.toList:=Ga.imp fun _ _=>aT.sub p9;have ae0:cc.length=A.t.size:=fW.size k4;have adG:All2 (aT G1) (mo (jO A.t d) off vs) (mo cc off vv.cells.toList):=by unfold mo;rw[aeW.length];exact((lE k4).take off).append (aeW.append ((lE k4).drop _))
             obtain⟨c1,c2,f1,f2,f3⟩:=NN LT him adG;cases c2 with
             |cons=>exact f3.elim
             |nil=>
              rw[a9a] at f1;have ze:mo cc off vv.cells.toList=cc.take off++(vv.cells.toList++cc.drop (off+vv.cells.toList.length)):=rfl;have B5:vv.cells.toList.length=ti.size:=by simpa using Hn
              have U7:arr.size=pre.length+(cc.length+(post.length+rest.length)):=by rw[←bda,e3,k1];simp
              have wL:i * sz+off+vv.cells.size≤arr.size:=by rw[mF,←k2];omega
              obtain⟨arr',g1,g2,g3,g4,g5,g6,g7⟩:=nW b vv.cells.toList (i * sz+off) w sR (by simpa using wL)
              have hrl:=k5 c1 x' [] f2;have qW:arr'.toList=(pre++(c1++post))++rest:=by
               rw[g2,e3,k1,←f1,ze,mF,←k2,B5];have:=HR pre cc (post++rest) vv.cells.toList off ti.size (by omega)
               simpa using this
              have Zz:arr'.size=arr.size:=by
               rw[←bda,qW,U7];have Mg:c1.length=cc.length:=by rw[fW.size f2,ae0]
               simp;omega
              obtain⟨G2,m2,r2,_⟩:=LT.Oq (st':=wb.gE a {A with l:=A.l.set i x' }) (a:=a) (dst:=a) (A:=A) (A':={A with l:=A.l.set i x' }) jH Qg Qg (show A.pd=true from DV hd) e1 e2 (cap':=adj) (arr':=arr') (elem:=elem)
               (.inr ⟨b,adj,arr',elem,pre++(c1++post),rest,H',by simp,rfl,qW,by rw[Zz];exact e4,by simpa using e5,by
                rw[k3,show({A with l:=A.l.set i x' }:jG).bK=false from hd];simpa using hrl⟩)
               g1 g3 g4 g5 g6 g7 (X4 hd) ⟨rfl,fun _=>rfl,fun _=>rfl,fun o j l=>by simp,rfl,rfl,rfl⟩ (fun q=>by rw[dG];by_cases e:q=a<;>simp[e,cba (a:=a)])
               (.inl ⟨rfl,by simp[e1]⟩)
              exact⟨_,G2,_,zR hti Hn (BG sR wL) Tx,m2,fun act ra=>r2 act (ra.sub p9 acB.n acB.ib),h⟩
     |_=>simp at h
end ops
end Go.Fx
namespace Go.Fx
theorem Xv{G:Gh}{t:Ty}{d:t.nw}{v:Value}(r:aT G (.eV t d) v):fW G.S false t v.cells.toList d []:=by
 obtain⟨cs,e,hr⟩:=r;cases ht:t.agg with
 |true=>simp only[ht,aua] at e;subst e;exact hr
 |false=>
  simp only[ht,asa,aca] at e;subst e;have:v.cells = #[v]:=by
   cases t with
   |int k=>cases hr.1;rfl
   |bool=>cases hr.1;rfl
   |str=>cases hr.1;rfl
   |slice t=>rcases hr with ⟨_,⟨_,iL,cap,h⟩|⟨b,cap,arr,elem,fz,pre,cells,rest,h,_⟩⟩<;>cases h<;>rfl
   |aO a b=>cases ht
   |one a=>cases ht
   |arr n a=>cases ht
  rw[this];exact hr
theorem Nn(sz:Nat):∀(vs:List (Nat×Value)) (k:Nat) (cs:List Value),(∀ j p,vs[j]? = some p→p.1=k+j∧p.2.cells.size=sz)→(k+vs.length) * sz≤cs.length→
  Instr.fill (fun i=>some (i * sz,sz)) cs.toArray vs=some (cs.take (k * sz)++((vs.map fun p=>p.2.cells.toList).flatten++cs.drop ((k+vs.length) * sz))).toArray
 |[],k,cs,h,hl=>by simp[Instr.fill]
 |(i,v)::vs,k,cs,h,hl=>by
  obtain⟨h1,h2⟩:=h 0 (i,v) rfl;simp only[cra] at h1 h2;subst h1;simp only[ara] at hl;have hk:i * sz+sz≤cs.length:=by
   have:(i+1) * sz≤(i+(vs.length+1)) * sz:=bua _ (by omega)
   rw[bna,Nat.one_mul] at this;omega
  have hvl:v.cells.toList.length=sz:=by simpa using h2
  have NK:Instr.fill (fun i=>some (i * sz,sz)) cs.toArray ((i,v)::vs)=Instr.fill (fun i=>some (i * sz,sz)) (cs.take (i * sz)++(v.cells.toList++cs.drop (i * sz+v.cells.toList.length))).toArray vs:=by
   conv=>lhs;unfold Instr.fill
   simp only;rw[aza (by simp[h2];omega),Nr v.cells cs (i * sz) (by rw[h2];exact hk)]
  rw[NK,Nn sz vs (i+1) _ (fun j p hp=>by
   obtain⟨g1,g2⟩:=h (j+1) p (by simpa using hp)
   exact⟨by omega,g2⟩) (by
    have e:(i+1+vs.length) * sz=(i+(vs.length+1)) * sz:=by congr 1;omega
    rw[e];simp[hvl];omega)]
  congr 1
  have e:(i+1+vs.length) * sz=(i+(vs.length+1)) * sz:=by congr 1;omega
  have t1:(cs.take (i * sz)++(v.cells.toList++cs.drop (i * sz+v.cells.toList.length))).take ((i+1) * sz)=cs.take (i * sz)++v.cells.toList:=by rw[←a1a,cwa (by simp[hvl,bna];omega),List.take_of_length_le (by simp[hvl,bna];omega)]
  have LS:(i+1) * sz≤(i+(vs.length+1)) * sz:=bua _ (by omega)
  have t2:(cs.take (i * sz)++(v.cells.toList++cs.drop (i * sz+v.cells.toList.length))).drop ((i+(vs.length+1)) * sz)=cs.drop ((i+(vs.length+1)) * sz):=by
   rw[←a1a,List.drop_append,cAa];rw[cla (by simp[hvl,bna] at LS ⊢;omega)]
   simp only[aQa]
   congr 1
   simp[hvl,bna] at LS ⊢;omega
  rw[e,t1,t2];simp
section ops
variable {P:Program} {E:sb} (hE:iq P E.ia) {X:mz} {w:World} {R:Type} {r:R}
theorem Gn{t:Ty}:∀{hZ:List (Nat×ab)} {vs:List (Nat×Value)} {k:Nat} {st st':St} {G:Gh} {l:List t.nw},mQ t k hZ st=some (l,st')→ay X st G w→
  All2 (fun(p:Nat×ab) (q:Nat×Value)=>p.1=q.1∧aP G p.2 q.2) hZ vs→
  ∃ G',ay X st' G' w∧G.ME G'∧qS st st'∧RepL (fW G'.S false t) (vs.map fun p=>p.2.cells.toList).flatten l []∧l.length=vs.length∧(∀ j p,vs[j]? = some p→p.1=k+j∧p.2.cells.size=t.size)
 |[],[],k,st,st',G,l,h,hm,hp=>by simp only[mQ,OF,aia] at h;obtain⟨rfl,rfl⟩:=h;exact⟨G,hm,.refl G,.refl _,⟨rfl,rfl⟩,rfl,by simp⟩
 |(j,v)::hZ,(j',u)::vs,k,st,st',G,l,h,hm,hp=>by
  obtain⟨⟨e,hv⟩,hp⟩:=hp;simp only at e hv;subst e;simp only[mQ] at h;cases hk:Nat.beq k j with
  |false=>simp[hk] at h
  |true=>
   simp only[hk,Q9] at h;have hk:=Q5 hk;subst hk;cases h1:v.qn st with
   |none=>simp[h1] at h
   |some wb=>
    simp only[h1] at h;obtain⟨G1,m1,s1,k1⟩:=Fh h1 hm;cases h2:v.wh wb t with
    |none=>simp[h2] at h
    |some d=>
     simp only[h2] at h;cases h3:mQ t (k+1) hZ wb with
     |none=>simp[h3] at h
     |some p=>
      obtain⟨l',st2⟩:=p;simp only[h3,OF,aia] at h;obtain⟨rfl,rfl⟩:=h;have hd:=Xv (DG m1 h2 (hv.sub s1));obtain⟨G2,m2,s2,k2,r2,l2,z2⟩:=Gn h3 m1 (hp.imp fun p q hpq=>⟨hpq.1,hpq.2.sub s1⟩);refine⟨G2,m2,s1.trans s2,k1.trans k2,⟨_,_,[],[],by simp only[aFa,cIa],rfl,hd.mono s2.S,r2⟩,by simp[l2],?_⟩
      intro i q hq;cases i with
      |zero=>simp only[bba,OF] at hq;subst hq;exact⟨rfl,by have:=fW.size hd;simpa using this⟩
      |succ i=>
       obtain⟨g1,g2⟩:=z2 i q (by simpa using hq)
       exact⟨by omega,g2⟩
 |[],_::_,_,_,_,_,_,_,_,hp=>hp.elim
 |_::_,[],_,_,_,_,_,_,_,hp=>hp.elim
theorem T2{st:St}{G:Gh}{T:TypeId}{o:Nat}{ls:List ag}{cs:Array Value}{K:ab→St→Option R}(h:Gi E T o ls st K=some r)(hm:ay X st G w)(hl:All2 (aT G) ls cs.toList):
  ∃ av st' G',ay X st' G' (w.alloc (.cells cs T))∧(∀ act,bM G st act→bM G' st' act)∧aP G' av (.pointer (some ⟨w.heap.size,0,none⟩))∧K av st' = some r:=by
 unfold Gi at h;cases hT:E.ia T with
 |none=>simp[hT] at h
 |some ti=>
  cases ho:st.dL o with
  |some l=>simp[hT,ho] at h
  |none=>
   simp only[hT,ho] at h;cases hc:(Nat.beq ls.length ti.size&&!ls.any ag.py&&!st.cZ false o&&!ls.any (ag.cZ false o)) with
   |false=>simp[hc] at h
   |true=>simp only[hc,Q9] at h;simp only[Q4,aLa] at hc;obtain⟨⟨⟨_,h2⟩,h3⟩,h4⟩:=hc;obtain⟨G',m,B4,hv⟩:=hm.Vp (elem:=T) ho h3 h2 h4 hl;exact⟨_,_,G',m,fun act ra=>ra.le B4 rfl (fun _=>rfl) h3,hv,h⟩
include hE
theorem LZ{st:St}{G:Gh}{T:TypeId}{dst len:Nat}{hZ:List (Nat×ab)}{vs:List (Nat×Value)}{K:ab→St→Option R}(h:mi E T dst len hZ st K=some r)(hm:ay X st G w)
  (hp:All2 (fun(p:Nat×ab) (q:Nat×Value)=>p.1=q.1∧aP G p.2 q.2) hZ vs):
  ∃ av v st' G' w',(Instr.buildSlice T len vs.toArray).run P w=.ok v w'∧ay X st' G' w'∧(∀ act,bM G st act→bM G' st' act)∧aP G' av v∧K av st' = some r:=by
 unfold mi at h;split at h
 ·rename_i s b y e z hT
  cases Ag:E.ia e with
  |none=>simp[Ag] at h
  |some ei=>
   simp only[Ag] at h;cases hy:ei.ty with
   |none=>simp[hy] at h
   |some t=>
    simp only[hy] at h;cases hc:(Nat.beq len hZ.length&&Nat.beq ei.size t.size&&Nat.ble (len * ei.size) 16777216) with
    |false=>simp[hc] at h
    |true=>
     simp only[hc,Q9] at h;simp only[Q4] at hc;obtain⟨⟨Mg,xp⟩,Ny⟩:=hc;have Mg:=Q5 Mg;have xp:=Q5 xp;have Ny:=aUa Ny;cases hsp:mQ t 0 hZ st with
     |none=>simp[hsp] at h
     |some p=>
      obtain⟨l,wb⟩:=p;simp only[hsp] at h;cases ha:wb.arr dst with
      |some A=>simp[ha] at h
      |none=>
       simp only[ha] at h;cases Ai:wb.cZ true dst with
       |true=>simp[Ai] at h
       |false=>
        simp only[Ai,ana] at h;obtain⟨G1,m1,s1,k1,r1,l1,z1⟩:=Gn hsp hm hp;have B5:vs.length=len:=by rw[Mg,hp.length]
        have hu:=(hE T _ hT).slice;obtain⟨i,d,zz,i1,i2,i3,i4,i5,i6,i7,i8,i9,_⟩:=hE e ei Ag;have mg:(vs.map fun p=>p.2.cells.toList).flatten.length=len * t.size:=by rw[RepL.size (fun c x H hr=>fW.size hr) r1,l1,B5]
        let zc:Array Value:=if len * ei.size=0 then #[] else zz.cells
        let RP:List Value:=((Array.range (len * ei.size)).map (zc[· % zc.size]!)).toList
        have FN:RP.length=len * ei.size:=by simp[RP]
        have ND:=Nn ei.size vs 0 RP (fun j p hp=>by
         obtain⟨g1,g2⟩:=z1 j p hp;exact⟨g1,by rw[g2,xp]⟩) (by rw[aTa,B5,FN];exact ava _)
        rw[aTa,B5,Nat.zero_mul,List.take_zero,aQa,cla (by rw[FN];exact ava _),a9a] at ND
        obtain⟨G2,m2,adD,hv2⟩:=m1.Ar (elem:=e) (arr:=(vs.map fun p=>p.2.cells.toList).flatten.toArray) (cells:=(vs.map fun p=>p.2.cells.toList).flatten) (rest:=[]) (cap:=len) ha Ai (by simp)
         (by rw[bAa,mg];exact ava _) (by rw[l1,B5];exact ava _) r1
        refine⟨_,_,_,G2,_,?_,m2,fun act ra=>(ra.sub s1 k1.n k1.ib).le adD rfl (fun _=>rfl) Ai,hv2,h⟩;have h24:¬ (2 ^ 24<len * i.size):=by rw[i3];omega
        have mF:=(hE e ei Ag).size w;have D5:(Array.range (len * ei.size)).map (zc[· % zc.size]!)=RP.toArray:=(Array.toArray_toList (xs:=(Array.range (len * ei.size)).map (zc[· % zc.size]!))).symm
        by_cases h0:len * ei.size=0
        ·have hzc:zc = #[]:=by simp[zc,h0]
         rw[hzc] at D5;simp only[Instr.buildSlice,aKa,aCa hu,aDa,mF,Sem.run_ite,aza (show ¬ (len * ei.size > 2 ^ 24) by omega),h0,aua,a8a]
         rw[h0] at D5;rw[D5];simp only[ND];simp[newRow,l1,B5]
        ·have hzc:zc=zz.cells:=by simp[zc,h0]
         rw[hzc] at D5;simp only[Instr.buildSlice,aKa,aCa hu,aDa,mF,Sem.run_ite,aza (show ¬ (len * ei.size > 2 ^ 24) by omega),h0,aca,a8a,zeroValue,typeInfo,run_program,i1,i5]
         rw[D5];simp only[ND];simp[newRow,l1,B5]
 ·cases h
end ops
end Go.Fx
namespace Go.Fx
theorem RepL.one{α:Type}{R:List Value→α→fY→Prop}(hR:∀ c x H,R c x H→∀ v∈c,v.oneCell' = true):∀{cs:List Value} {l:List α} {H:fY},RepL R cs l H→∀ v∈cs,v.oneCell' = true
 |_,[],_,h,v,hv=>by rw[h.1] at hv;cases hv
 |_,_::_,_,⟨c1,c2,H1,H2,e1,e2,r,rl⟩,v,hv=>by
  rw[e1] at hv;rcases ala.1 hv with hv|hv
  ·exact hR _ _ _ r v hv
  ·exact RepL.one hR rl v hv
theorem fW.one{S:DB}{m:Bool}:∀{t:Ty} {cs:List Value} {d:t.nw} {H:fY},fW S m t cs d H→∀ v∈cs,v.oneCell' = true
 |.int k,cs,d,H,h,v,hv=>by rw[h.1] at hv;simp at hv;subst hv;rfl
 |.bool,cs,d,H,h,v,hv=>by rw[h.1] at hv;simp at hv;subst hv;rfl
 |.str,cs,d,H,h,v,hv=>by rw[h.1] at hv;simp at hv;subst hv;rfl
 |.slice t,cs,l,H,h,v,hv=>by
  simp only[fW] at h;split at h
  ·rcases h with ⟨_,_,rfl⟩|⟨b,cap,arr,elem,cells,rest,H',rfl,_⟩<;>(simp at hv;subst hv;rfl)
  ·rcases h with ⟨_,⟨_,iL,cap,rfl⟩|⟨b,cap,arr,elem,fz,pre,cells,rest,rfl,_⟩⟩<;>(simp at hv;subst hv;rfl)
 |.aO a b,cs,d,H,h,v,hv=>by
  obtain⟨c1,c2,H1,H2,rfl,rfl,h1,h2⟩:=h;rcases ala.1 hv with hv|hv
  ·exact fW.one h1 v hv
  ·exact fW.one h2 v hv
 |.one a,cs,d,H,h,v,hv=>by exact fW.one (t:=a) h v hv
 |.arr n t,cs,l,H,h,v,hv=>RepL.one (fun c x H hx=>fW.one hx) h.1 v hv
theorem Fk{S:DB}{m:Bool}:∀{t:Ty} {l r:List Value},sY t l=some r→∃ c,l=c++r∧fW S m t c (pJ t) []
 |.int k,l,r,h=>by
  cases l with
  |nil=>simp[sY] at h
  |cons v l=>
   cases v<;>simp only[sY] at h<;>try (cases h;done)
   rename_i k' n;by_cases hk:k=k'
   ·by_cases hn:n=0
    ·subst hk hn
     simp at h;subst h;exact⟨[.int k 0],rfl,rfl,rfl⟩
    ·simp[hn] at h
   ·simp[hk] at h
 |.bool,l,r,h=>by
  cases l with
  |nil=>simp[sY] at h
  |cons v l=>
   cases v<;>try (simp[sY] at h;done)
   rename_i b;cases b<;>simp[sY] at h;subst h;exact⟨[.bool false],rfl,rfl,rfl⟩
 |.str,l,r,h=>by
  cases l with
  |nil=>simp[sY] at h
  |cons v l=>
   cases v<;>try (simp[sY] at h;done)
   rename_i s;simp only[sY] at h;cases hs:s.data.toList with
   |cons=>simp[hs] at h
   |nil=>
    simp only[hs,OF] at h;subst h;refine⟨[.string s],rfl,?_,rfl⟩;have:s=⟨([]:ak).toArray⟩:=by apply ByteArray.ext;apply cta;simpa using hs
    rw[this];rfl
 |.slice t,l,r,h=>by
  cases l with
  |nil=>simp[sY] at h
  |cons v l=>
   cases v<;>try (simp[sY] at h;done)
   rename_i a n c;cases a<;>cases n<;>cases c<;>simp[sY] at h;subst h;exact⟨[.slice none 0 0],rfl,by
    cases m
    ·exact⟨rfl,.inl ⟨rfl,none,0,rfl⟩⟩
    ·exact .inl ⟨rfl,rfl,rfl⟩⟩
 |.aO a b,l,r,h=>by
  simp only[sY] at h;cases h1:sY a l with
  |none=>simp[h1] at h
  |some r1=>simp only[h1] at h;obtain⟨c1,e1,g1⟩:=Fk (S:=S) (m:=m) h1;obtain⟨c2,e2,g2⟩:=Fk (S:=S) (m:=m) h;exact⟨c1++c2,by rw[e1,e2];simp,c1,c2,[],[],rfl,rfl,g1,g2⟩
 |.one a,l,r,h=>by simp only[sY] at h;obtain⟨c,e,g⟩:=Fk (S:=S) (m:=m) h;exact⟨c,e,g⟩
 |.arr n t,l,r,h=>by
  simp only[sY] at h;have key:∀(n:Nat) {l r:List Value},Na (sY t) n l=some r→∃ c,l=c++r∧RepL (fW S m t) c (List.replicate n (pJ t)) []:=by
   intro n;induction n with
   |zero=>intro l r h;simp only[Na,OF] at h;subst h;exact⟨[],rfl,rfl,rfl⟩
   |succ n ih=>
    intro l r h;simp only[Na] at h;cases h1:sY t l with
    |none=>simp[h1] at h
    |some q=>simp only[h1] at h;obtain⟨c1,e1,g1⟩:=Fk (S:=S) (m:=m) h1;obtain⟨c2,e2,g2⟩:=ih h;exact⟨c1++c2,by rw[e1,e2];simp,c1,c2,[],[],rfl,rfl,g1,g2⟩
  obtain⟨c,e,g⟩:=key n h;exact⟨c,e,g,by simp[pJ]⟩
theorem Qt(z:Array Value):∀ c:Nat,(madeCells z (c * z.size)).toList=(List.replicate c z.toList).flatten
 |0=>by simp[madeCells,Array.range]
 |c+1=>by
  have ih:=Qt z c;simp only[madeCells,bMa,Array.toList_range] at ih ⊢;rw[bna,Nat.one_mul,List.range_add,bra,ih,cva,List.flatten_append]
  congr 1
  simp only[csa,cIa,List.flatten_nil,a9a];apply List.ext_getElem
  ·simp
  ·intro j h1 h2
   simp only[List.length_map,List.length_range] at h1;simp only[List.getElem_map,List.getElem_range,Function.comp_apply,Array.getElem_toList];rw[Nat.mul_comm,Nat.mul_add_mod,Nat.mod_eq_of_lt h1,getElem!_pos z j h1]
theorem W2{S:DB}{m:Bool}{t:Ty}{c:List Value}{x:t.nw}(h:fW S m t c x []):∀ n:Nat,RepL (fW S m t) (List.replicate n c).flatten (List.replicate n x) []
 |0=>⟨rfl,rfl⟩
 |n+1=>⟨c,_,[],[],by rw[List.replicate_succ,cIa],rfl,h,W2 h n⟩
theorem ay.Z3{X:mz}{st:St}{G:Gh}{w:World}(hm:ay X st G w){a:Nat}{t:Ty}(ha:st.arr a=none)(KZ:st.cZ true a=false):
  ∃ G',ay X (st.gE a ⟨t,.dB,false,[]⟩) G' w∧G.Le G' true a∧aP G' (.one (.mA a)) (.slice none 0 0):=by
 let G':Gh:={G with ψ:=fun q=>if q=a then .slice none 0 0 else G.ψ q,HA:=fun q=>if q=a then [] else G.HA q}
 have B4:G.Le G' true a:=⟨fun _ _ h=>h,fun _ _=>rfl,fun _ _=>rfl,fun _ _=>rfl,fun q h=>by simp[G',h rfl],fun _=>rfl,fun _ _=>rfl,rfl⟩
 have nH:∀ x b,eR G' (st.gE a ⟨t,.dB,false,[]⟩) x b→eR G st x b:=fun x b hx=>by
  obtain⟨k,n⟩:=x;cases k with
  |false=>exact hx
  |true=>
   obtain⟨⟨A,hA,hs⟩,p,hp,rfl⟩:=hx;rw[dG] at hA;by_cases e:a=n
   ·subst e;simp[G'] at hp
   ·simp only[e,aca] at hA
    have gT:n≠a:=fun h=>e h.symm;simp only[G',gT,aca] at hp;exact⟨⟨A,hA,hs⟩,p,hp,rfl⟩
 refine⟨G',?_,B4,by simp[aP,aT,G']⟩
 refine {sl:=?_,sh:=hm.sh,ob:=?_,ar:=?_,ah:=?_,nd:=?_,pX:=fun x y b hx hy=>hm.pX x y b (nH x b hx) (nH y b hy),dS:=fun x b hx=>hm.dS x b (nH x b hx),sZ:=fun x b hx=>hm.sZ x b (nH x b hx),s0:=hm.s0,sn:=hm.sn,fr:=hm.fr,sz:=hm.sz,os:=hm.os,tp:=hm.tp,out:=hm.out,pin:=hm.pin,bv:=hm.bv,ap:=fun q u h=>(by obtain⟨h1,⟨B,h2⟩,h3⟩:=hm.ap q u h;have gT:q≠a:=(fun e=>by subst e;rw[ha] at h2;cases h2);exact⟨h1,⟨B,by rw[dG,aza (bxa gT)];exact h2⟩,by simp[G',gT,h3]⟩),hv:=hm.hv,ds:=hm.ds,hh:=adA hm rfl (fun q hq=>⟨rfl,by simp[G',hq]⟩)}
 ·intro q
  by_cases e:q=a
  ·exact .inl ⟨none,0,0,by simp[G',e]⟩
  ·have:=hm.sl q;simpa[G',e] using this
 ·intro q ls hq
  obtain⟨arr',P6,mid,g1,g2,g3⟩:=hm.ob q ls hq;refine⟨arr',P6,mid,g1,g2,?_⟩;unfold hY at g3 ⊢;rw[jW (st:=st) (fun j l=>by simp)]
  exact BT B4 (rC KZ hq 0) g3
 ·intro b B hB
  rw[dG] at hB;by_cases e:a=b
  ·subst e
   simp only[aua,OF] at hB;subst hB;refine KR.2 ?_;exact .inl ⟨rfl,by simp[G'],by simp[G']⟩
  ·simp only[e,aca] at hB
   have gT:b≠a:=fun h=>e h.symm;exact(hm.ar b B hB).mono (G:=G) (a:=b) (G':=G') (a':=b) (fun _ _ h=>h) (by simp[G',gT]) (by simp[G',gT]) (fun _ _ _=>⟨rfl,rfl,rfl⟩)
 ·intro b B hB hs p hp
  rw[dG] at hB;by_cases e:a=b
  ·subst e;simp[G'] at hp
  ·simp only[e,aca] at hB
   have gT:b≠a:=fun h=>e h.symm;simp only[G',gT,aca] at hp;exact hm.ah b B hB hs p hp
 ·intro b B hB hs
  rw[dG] at hB;by_cases e:a=b
  ·subst e;simp[G']
  ·simp only[e,aca] at hB
   have gT:b≠a:=fun h=>e h.symm;simp only[G',gT,aca];exact hm.nd b B hB hs
theorem Z0{α:Type}{n:Int}{x:α}{l:List α}(h:mkl n x=some l):0≤n∧n≤4294967296∧l=List.replicate n.toNat x:=by unfold mkl at h;by_cases h0:0≤n<;>by_cases h1:n≤4294967296<;>simp[h0,h1] at h;exact⟨h0,h1,h.symm⟩
section ops
variable {P:Program} {E:sb} (hE:iq P E.ia) {X:mz} {w:World} {R:Type} {r:R} {st:St} {G:Gh}
include hE
theorem Of{T:TypeId}{dst:Nat}{x y:ab}{vx vy:Value}{K:ab→St→Option R}(h:nM E T dst x y st K=some r)(hm:ay X st G w)(hx:aP G x vx)(hy:aP G y vy):
  ∃ av v st' G' w',(Instr.makeSlice T vx vy).run P w=.ok v w'∧ay X st' G' w'∧(∀ act,bM G st act→bM G' st' act)∧aP G' av v∧K av st' = some r:=by
 unfold nM at h;split at h
 ·rename_i s b y' e z n c hT hn hc
  cases Ag:E.ia e with
  |none=>simp[Ag] at h
  |some ei=>
   simp only[Ag] at h;split at h
   ·rename_i t hty oW
    generalize hcc:(Nat.beq ei.size t.size&&Nat.ble ei.bytes 16384&&!st.cZ true dst&&(match sY t ei.zero with|some []=>true|_=>false))=cc at h
    cases cc with
    |false=>cases h
    |true=>
     have NA:=hcc
     replace h:((mkl c (pJ t)).bind fun z=>(sub z 0 n).bind fun l=>K (.one (.mA dst)) (st.gE dst ⟨t,bif E.KT dst then .bK else .dB,false,l⟩))=some r:=h
     simp only[Q4,aLa] at NA;obtain⟨⟨⟨q1,q2⟩,q3⟩,q4⟩:=NA;have q1:=Q5 q1;have q2:=aUa q2;obtain⟨zl,hzl,h⟩:=awa.1 h;obtain⟨l,hl,h⟩:=awa.1 h;obtain⟨m0,m1,rfl⟩:=Z0 hzl;obtain⟨n0,n1,n2,rfl⟩:=Jy hl;cases qb hn hx;cases qb hc hy;have hu:=(hE T _ hT).slice;obtain⟨i,d,zz,i1,i2,i3,i4,i5,i6,i7,i8,i9,_⟩:=hE e ei Ag;simp only[baa] at n2;have ZB:fW G.S (E.KT dst) t zz.cells.toList (pJ t) []:=by
      cases hz:sY t ei.zero with
      |none=>simp[hz] at q4
      |some r'=>
       cases r' with
       |cons=>simp[hz] at q4
       |nil=>obtain⟨c0,e0,g0⟩:=Fk (S:=G.S) (m:=E.KT dst) hz;rw[a9a] at e0;rw[i6,e0];exact g0
     have hzs:zz.cells.size=i.size:=by rw[i3,←i9,←i6];simp
     have hcn:(0:Int)≤c:=m0;have hnc:n≤c:=by omega
     have hby:(i.bytes:Int) * c≤281474976710656:=by
      have h1:(i.bytes:Int)≤16384:=by rw[i4];omega
      have h2:(i.bytes:Int) * c≤16384 * 4294967296:=Int.mul_le_mul h1 m1 m0 (by omega)
      omega
     have it:=run_make (P:=P) w T e i zz hu i1 i5 .i64 .i64 n c n1 hnc hby (by omega)
     have qW:(madeCells zz.cells (c.toNat * i.size)).toList=(List.replicate n.toNat zz.cells.toList).flatten++(List.replicate (c.toNat - n.toNat) zz.cells.toList).flatten:=by
      rw[←hzs,Qt,←List.flatten_append,List.replicate_append_replicate]
      congr 2;omega
     have afe:((List.replicate c.toNat (pJ t)).take n.toNat).drop (0:Int).toNat=List.replicate n.toNat (pJ t):=by simp[List.take_replicate];omega
     rw[afe] at h;obtain⟨G2,m2,adD,hv2⟩:=hm.Ar (l:=List.replicate n.toNat (pJ t)) (arr:=madeCells zz.cells (c.toNat * i.size)) (elem:=e) (cap:=c.toNat) oW q3 qW
      (by rw[size_madeCells,i3,q1];exact ava _) (by simp;omega) (W2 ZB n.toNat)
     simp only[baa] at hv2;exact⟨_,_,_,G2,_,it,m2,fun act ra=>ra.le adD rfl (fun _=>rfl) q3,hv2,h⟩
   ·cases h
 ·cases h
end ops
end Go.Fx
namespace Go.Fx
theorem oF{P:Program}{w:World}{T e ty:TypeId}{i:TypeInfo}(hu:P.underlying T=some (.slice e))(hi:P.info? e=some i)(iL xb:Option Addr)(n cap xc:Nat)(hn:n≤cap):
  (Builtin.append_ #[T,T] ty #[.slice iL n cap,.slice xb 0 xc]).run P w=.ok (.slice iL n cap) w:=by
 cases iL<;>cases xb<;>simp[Builtin.append_,aCa hu,sizeOf,typeInfo,hi,Builtin.lenOf,Builtin.firstCells,loadCells,loadCellsFrom,storeCells,hn]
theorem qS.cM(st:St)(l:List (Nat×jG)):qS st {st with cM:=l}:=⟨rfl,fun _=>rfl,fun _=>rfl,fun o j l=>by cases l<;>rfl,rfl,rfl,rfl⟩
section ops
variable {P:Program} {E:sb} (hE:iq P E.ia) {X:mz} {w:World} {R:Type} {r:R} {st:St} {G:Gh}
include hE
set_option maxHeartbeats 2000000 in
theorem K4{T ty:TypeId}{dst:Nat}{x y:ab}{vx vy:Value}{K:ab→St→Option R}(h:rG E T dst x y st K=some r)(hm:ay X st G w)(hx:aP G x vx)(hy:aP G y vy):
  ∃ av v st' G' w',(Builtin.append_ #[T,T] ty #[vx,vy]).run P w=.ok v w'∧ay X st' G' w'∧(∀ act,bM G st act→bM G' st' act)∧aP G' av v∧K av st' = some r:=by
 unfold rG at h;split at h
 ·rename_i s b y' e z hT
  cases Ag:E.ia e with
  |none=>simp[Ag] at h
  |some ei=>
   simp only[Ag] at h;cases hty:ei.ty with
   |none=>simp[hty] at h
   |some t=>
    simp only[hty] at h;cases hc:(Nat.beq ei.size t.size&&Nat.ble ei.bytes 16384) with
    |false=>simp[hc] at h
    |true=>
     simp only[hc,Q9] at h;simp only[Q4] at hc;have q1:=Q5 hc.1;have q2:=aUa hc.2;cases dq:y.qn st with
     |none=>simp[dq] at h
     |some wb=>
      simp only[dq] at h;obtain⟨G1,m1,s1,k1⟩:=Fh dq hm;cases hg:y.wh wb (.slice t) with
      |none=>simp[hg] at h
      |some m=>
       cases Mh:wb.arr dst with
       |some A=>simp[hg,Mh] at h
       |none=>
        simp only[hg,Mh] at h;cases Ai:wb.cZ true dst with
        |true=>simp[Ai] at h
        |false=>
         simp only[Ai,ana] at h;have hu:=(hE T _ hT).slice;obtain⟨i,d,zz,i1,i2,i3,i4,i5,i6,i7,i8,i9,_⟩:=hE e ei Ag;have hzs:zz.cells.size=i.size:=by rw[i3,←i9,←i6];simp
         obtain⟨cs,ecs,Ba⟩:=DG m1 hg (hy.sub s1);simp only[Ty.agg,asa,aca] at ecs;subst ecs;have hx1:aP G1 x vx:=hx.sub s1;have qW:(m=[]∧∃ iL cap,vy=.slice iL 0 cap)∨(0<m.length∧∃ ad c news,vy=.slice (some ad) m.length c∧RepL (fW G1.S false t) news m []∧(∀ j u,news[j]? = some u→w.cell? (ad.add j)=some u)):=by
          rcases Ba with ⟨_,⟨rfl,iL,cap,h⟩|⟨b,cap,arr,elem,fz,pre,cells,rest,e1,e2,e3,e4,elc⟩⟩
          ·simp only[aHa,a7a] at h;exact .inl ⟨rfl,iL,cap,h⟩
          ·simp only[aHa,a7a] at e1
           cases m with
           |nil=>exact .inl ⟨rfl,_,_,e1⟩
           |cons x0 m=>
            refine .inr ⟨by simp,⟨b,pre.length,none⟩,cap,cells,e1,e4,fun j u hj=>?_⟩
            rw[bQa];exact nY (m1.sh _ _ e2) e3 rfl j u hj
         have hnl:∀{news:List Value},RepL (fW G1.S false t) news m []→news.length=m.length * i.size:=fun hr=>by rw[RepL.size (fun c x H hr=>fW.size hr) hr,i3,q1]
         have F8:∀(st2:St) (rr:List t.nw),ay X st2 G1 w→st2.arr dst=none→st2.cZ true dst=false→qS wb st2→lA ([]:List t.nw) m=some rr→
           ∃ v G' w',(Builtin.append_ #[T,T] ty #[.slice none 0 0,vy]).run P w=.ok v w'∧ay X (st2.gE dst ⟨t,.dB,false,rr⟩) G' w'∧(∀ act,bM G st act→bM G' (st2.gE dst ⟨t,.dB,false,rr⟩) act)∧aP G' (.one (.mA dst)) v:=by
          intro st2 rr hm2 ha2 adF hk2 za;obtain⟨jI,adK⟩:=DD za;have adL:m=rr:=adK.symm;subst adL;have hrr:∀{G':Gh},G1.Le G' true dst→∀ act,bM G st act→bM G' (st2.gE dst ⟨t,.dB,false,m⟩) act:=fun B4 act ra=>
           (ra.sub s1 (k1.trans hk2).n (k1.trans hk2).ib).le B4 rfl (fun _=>rfl) adF
          rcases qW with ⟨rfl,iL,cap,rfl⟩|⟨vQ,ad,c,news,rfl,D6,sC⟩
          ·obtain⟨G',m',B4,hv⟩:=hm2.Z3 (t:=t) ha2 adF
           exact⟨_,G',w,oF hu i1 none iL 0 0 cap (ava _),m',hrr B4,hv⟩
          ·simp only[aBa,aTa] at jI
           have h48:m.length * i.bytes≤281474976710656:=by
            have:m.length * i.bytes≤4294967296 * 16384:=cia jI (by rw[i4];exact q2)
            omega
           have it:=run_append_nil (P:=P) w T ty e i zz hu i1 i5 ad m.length c news (hnl D6) sC vQ (by omega) h48
           have LS:=grownCap_ge w m.length 0 e;obtain⟨G',m',B4,hv⟩:=(ay.drew hm2).Ar (l:=m) (arr:=news.toArray++Builtin.zeroCells zz.cells (grownCap w m.length 0 e - m.length)) (elem:=e) (cells:=news) (rest:=(Builtin.zeroCells zz.cells (grownCap w m.length 0 e - m.length)).toList) (cap:=grownCap w m.length 0 e) ha2 adF
            (by simp) (by
             rw[bUa,cza,hzs,bAa,hnl D6,←bna,i3,q1];exact bua _ (by omega)) LS D6
           exact⟨_,G',_,it,m',hrr B4,hv⟩
         cases x with
         |agg ls=>simp[ab.bN] at h
         |Lg ls=>simp[ab.bN] at h
         |Ak t ls=>simp[ab.bN] at h
         |one l=>
          simp only[ab.bN] at h;cases l with
          |nil=>simp only at h;obtain⟨rr,hrr,h⟩:=awa.1 h;have:vx=.slice none 0 0:=hx;subst this;obtain⟨v,G',w',f1,f2,f3,f4⟩:=F8 wb rr m1 Mh Ai (.refl _) hrr;exact⟨_,v,_,G',w',f1,f2,f3,f4,h⟩
          |mA a=>
           simp only at h;cases hA:look wb.cM a with
           |none=>simp[hA] at h
           |some A=>
            simp only[hA] at h;cases Ny:(A.sh||A.bK ||(look wb.fK a).isSome||eU a wb.pin) with
            |true=>simp[Ny] at h
            |false=>
             simp only[Ny,ana] at h;simp only[aEa] at Ny;obtain⟨⟨⟨Qg,hAd⟩,hAb⟩,ON⟩:=Ny;have hAb:look wb.fK a=none:=by simpa using hAb
             cases Nz:vf (.slice A.t) (.slice t) A.l with
             |none=>simp[Nz] at h
             |some l=>
              simp only[Nz] at h;obtain⟨ety,hl⟩:=lC Nz;have Ze:=EY hAd;obtain⟨At,Amd,Ash,Al⟩:=A;simp only[Ty.slice.injEq] at ety;subst ety;simp only at hl Qg Ze;subst hl Qg Ze;obtain⟨rr,hrr,hK⟩:=awa.1 h;have jH:wb.arr a=some ⟨At,.dB,false,l⟩:=by simp[St.arr,hA]
              have gT:dst≠a:=fun e=>by rw[e,jH] at Mh;cases Mh
              have sy:=m1.ar a _ jH
              replace sy:=KR.1 sy
              have hvx:vx=G1.ψ a:=hx1;have Nv:∀(N:jG) q,({wb with cM:=(dst,N)::F7 wb.cM a}:St).arr q=if q=dst then some N else if q=a then none else wb.arr q:=fun N q=>by
               simp only[St.arr,au,qe];by_cases e:q=dst
               ·subst e;simp
               ·by_cases e2:q=a
                ·subst e2;simp[e,bxa e,hAb,cba]
                ·simp[e,e2,cba (a:=dst),cba (a:=a)]
              rcases sy with ⟨e1,e2,e3⟩|⟨bb,cap,arr,elem,cells,rest,H',e1,e2,e3,e4,e5,e6⟩
              ·subst e1
               simp only[aHa,a7a] at e3;rw[hvx,e3];obtain⟨v,G',w',f1,f2,f3,f4⟩:=F8 {wb with cM:=F7 wb.cM a} rr (m1.RB a hAb ON) (by
                simp only[St.arr,qe] at Mh ⊢;rw[aza (fun h=>gT h.symm)];exact Mh) Ai (qS.cM _ _) hrr
               exact⟨_,v,_,G',w',f1,f2,f3,f4,hK⟩
              ·simp only[aHa,a7a] at e1
               rw[hvx,e1];obtain⟨jI,rfl⟩:=DD hrr;have sR:=m1.ah a _ jH rfl (bb,Obj.cells arr elem (0,0)) (by rw[e2];simp)
               have mg:cells.length=l.length * At.size:=RepL.size (fun c x H hr=>fW.size hr) e6;have hH':H' = []:=RepL.ny (fun c x H hr=>fW.ny hr) e6;subst hH';have hRR:∀{G':Gh} {st2:St},(∀ act,bM G1 wb act→bM G' st2 act)→∀ act,bM G st act→bM G' st2 act:=fun hf act ra=>hf act (ra.sub s1 k1.n k1.ib);rcases qW with ⟨rfl,iL,aew,rfl⟩|⟨vQ,ad,c,news,rfl,D6,sC⟩
               ·
                rw[a9a] at hK;obtain⟨G2,m2,r2,v2⟩:=m1.Oq (st':={wb with cM:=(dst,⟨At,.dB,false,l⟩)::F7 wb.cM a}) (a:=a) (dst:=dst) (A':=⟨At,.dB,false,l⟩) jH rfl rfl rfl e1 e2 (cap':=cap) (arr':=arr) (elem:=elem)
                 (.inr ⟨bb,cap,arr,elem,cells,rest,[],rfl,rfl,e3,e4,e5,e6⟩) sR (fun _ _=>rfl) rfl rfl rfl rfl rfl (qS.cM _ _) (Nv _) (.inr ⟨gT,Mh,Ai,ON⟩)
                exact⟨_,_,_,G2,w,oF hu i1 _ _ _ _ _ e5,m2,hRR r2,v2,hK⟩
               ·by_cases NI:l.length+m.length≤cap
                ·have wL:0+l.length * i.size+news.length≤arr.size:=by
                  rw[hnl D6,aTa,←bna,i3,q1];exact bFa (bua _ NI) e4
                 have hth:=BG sR wL;have it:=run_append_room_cells (P:=P) w T ty e i hu i1 bb 0 l.length cap ad m.length c news (hnl D6) sC (RepL.one (fun c x H hr=>fW.one hr) D6) NI
                  (fun j hj=>(hth j hj).1) (fun j hj=>(hth j hj).2)
                 obtain⟨arr',g1,g2,g3,g4,g5,g6,g7⟩:=nW bb news (0+l.length * i.size) w sR wL;have RM:arr'.toList=(cells++news)++arr.toList.drop (0+l.length * i.size+news.length):=by
                  rw[g2];have:arr.toList.take (0+l.length * i.size)=cells:=by rw[e3,aTa,i3,q1,←mg];simp
                  rw[this];simp
                 have Zz:arr'.size=arr.size:=by rw[←bda,g2];simp;omega
                 obtain⟨G2,m2,r2,v2⟩:=m1.Oq (st':={wb with cM:=(dst,⟨At,.dB,false,l++m⟩)::F7 wb.cM a}) (a:=a) (dst:=dst) (A':=⟨At,.dB,false,l++m⟩) jH rfl rfl rfl e1 e2 (cap':=cap) (arr':=arr') (elem:=elem)
                  (.inr ⟨bb,cap,arr',elem,cells++news,_,[],rfl,rfl,RM,by rw[Zz];exact e4,by simpa using NI,(by have h6:=e6.append D6;rw[a9a] at h6;exact h6)⟩) g1 g3 g4 g5 g6 g7 rfl (qS.cM _ _) (Nv _) (.inr ⟨gT,Mh,Ai,ON⟩)
                 simp only[ata] at v2;exact⟨_,_,_,G2,_,it,m2,hRR r2,v2,hK⟩
                ·have holds:∀ j u,cells[j]? = some u→w.cell? ((⟨bb,0,none⟩:Addr).add j)=some u:=fun j u hj=>by
                  rw[bQa];exact nY (pre:=[]) sR (by simpa using e3) rfl j u hj
                 have hby:(l.length+m.length) * i.bytes≤140737488355328:=by
                  have:(l.length+m.length) * i.bytes≤4294967296 * 16384:=cia jI (by rw[i4];exact q2)
                  omega
                 have wL:=growslice_fits (need:=l.length+m.length) (old:=cap) (bytes:=i.bytes) (by omega) hby
                 have it:=run_append_grow (P:=P) w T ty e i zz hu i1 i5 ⟨bb,0,none⟩ l.length cap cells (by rw[mg,i3,q1]) holds ad m.length c news (hnl D6) sC (by omega) (by omega) wL
                 have LS:=grownCap_ge w (l.length+m.length) cap e;obtain⟨G',m',B4,hv⟩:=(ay.drew (m1.RB a hAb ON)).Ar (l:=l++m) (arr:=cells.toArray++news.toArray++Builtin.zeroCells zz.cells (grownCap w (l.length+m.length) cap e - (l.length+m.length))) (elem:=e) (cells:=cells++news) (rest:=(Builtin.zeroCells zz.cells (grownCap w (l.length+m.length) cap e - (l.length+m.length))).toList) (cap:=grownCap w (l.length+m.length) cap e)
                  (a:=dst) (by
                   simp only[St.arr,qe] at Mh ⊢;rw[aza (fun h=>gT h.symm)];exact Mh) Ai (by simp) (by
                   rw[bUa,bUa,cza,hzs,bAa,bAa,hnl D6,mg,i3,q1,←bna,←bna];exact bua _ (by omega)) (by simpa using LS) (by simpa using e6.append D6)
                 simp only[ata] at hv;exact⟨_,_,_,G',_,it,m',hRR (fun act ra=>(ra.sub (.refl _) rfl (fun _=>rfl)).le B4 rfl (fun _=>rfl) Ai),hv,hK⟩
          |_=>simp at h
 ·cases h
end ops
end Go.Fx
namespace Go.Fx
theorem AV{P:Program}{w:World}{G:Gh}{lo:Option ab}{vlo:Option Value}{d n:Int}(h:m9 d lo=some n)(hr:∀ a,lo=some a→∃ v,vlo=some v∧aP G a v)(hn:lo=none→vlo=none):
  (vlo=none∧lo=none∧n=d)∨∃ k,vlo=some (.int k n):=by
 cases lo with
 |none=>simp only[m9,OF] at h;exact .inl ⟨hn rfl,rfl,h.symm⟩
 |some a=>simp only[m9,aIa] at h;obtain⟨⟨k,m⟩,h1,h2⟩:=h;simp only at h2;subst h2;obtain⟨v,h3,h4⟩:=hr a rfl;exact .inr ⟨k,by rw[h3,qb h1 h4]⟩
theorem yR{P:Program}{w:World}{isSlice:Bool}{len cap:Nat}{vlo vhi:Option Value}{i j:Int}(hlc:len≤cap)(h0:0≤i)(h1:i≤j)(h2:j≤(len:Int))
  (hlo:(vlo=none∧i=0)∨∃ k,vlo=some (.int k i)) (hhi:(vhi=none∧j=(len:Int))∨∃ k,vhi=some (.int k j)):
  (Instr.sliceBounds isSlice len cap vlo vhi none).run P w=.ok (i.toNat,j.toNat,cap) w:=by
 have hjc:j≤(cap:Int):=by omega
 have hj0:0≤j:=by omega
 rcases hlo with ⟨rfl,rfl⟩|⟨k,rfl⟩<;>rcases hhi with ⟨rfl,rfl⟩|⟨k',rfl⟩
 ·simp[Instr.sliceBounds]
 ·simp[Instr.sliceBounds,Instr.sliceBound,asIntOf,hj0,hjc]
 ·have:i.toNat≤len:=by omega
  have h3:i≤(len:Int):=by omega
  simp[Instr.sliceBounds,Instr.sliceBound,asIntOf,h0,h3]
 ·have h3:i≤((j.toNat:Nat):Int):=by omega
  have h4:¬ (max j 0<i):=by omega
  simp[Instr.sliceBounds,Instr.sliceBound,asIntOf,h0,hj0,hjc,h3,h4]
theorem Tm(s:ak)(i j:Nat):(⟨s.toArray⟩:ByteArray).extract i j=⟨((s.take j).drop i).toArray⟩:=by apply ByteArray.ext;apply cta;simp[ByteArray.data_extract,List.drop_take]
section ops
variable {P:Program} {E:sb} (hE:iq P E.ia) {X:mz} {w:World} {R:Type} {r:R} {st:St} {G:Gh}
include hE
theorem Oy{T e:TypeId}{ei:TI}(hu:P.underlying T=some (.slice e))(Ag:E.ia e=some ei){t:Ty}(hz:ei.size=t.size){l:List t.nw}{vx:Value}(hx:BR G.S (RepL (fW G.S false t)) [vx] l [])
  {vlo vhi:Option Value} {i j:Int} {rr:List t.nw} (hs:sub l i j=some rr) (hlo:(vlo=none∧i=0)∨∃ k,vlo=some (.int k i)) (hhi:(vhi=none∧j=(l.length:Int))∨∃ k,vhi=some (.int k j)):
  ∃ v,(Instr.slice T vx vlo vhi none).run P w=.ok v w∧aP G (.one (.eV (.slice t) rr)) v:=by
 obtain⟨h0,h1,h2,rfl⟩:=Jy hs;have mF:=(hE _ _ Ag).size w;rcases hx with ⟨_,⟨rfl,iL,cap,hb⟩|⟨b,cap,arr,elem,fz,pre,cells,rest,e1,e2,e3,e4,elc⟩⟩
 ·simp only[aHa,a7a] at hb
  subst hb;simp only[aBa] at h2;obtain rfl:i=0:=by omega
  obtain rfl:j=0:=by simp at h2;omega
  have it:=yR (P:=P) (w:=w) (isSlice:=true) (len:=0) (cap:=cap) (vlo:=vlo) (vhi:=vhi) (Nat.zero_le _) (cCa 0) (cCa 0) (by simp) hlo (by simpa using hhi)
  refine⟨.slice (if cap=0 then iL else iL.map (·.add (0 * ei.size))) 0 cap,?_,⟨[_],rfl,rfl,.inl ⟨by simp,_,_,rfl⟩⟩⟩
  simp only[Instr.slice,aKa,aCa hu,aDa,it,mF];simp
 ·simp only[aHa,a7a] at e1
  subst e1
  ·have XO:=elc
   have it:=yR (P:=P) (w:=w) (isSlice:=true) (len:=l.length) (cap:=cap) XO h0 h1 h2 hlo hhi;have hi:i.toNat≤j.toNat:=by omega
   have hj:j.toNat≤l.length:=by omega
   refine⟨.slice (if cap=i.toNat then some ⟨b,pre.length,none⟩ else(some (⟨b,pre.length,none⟩:Addr)).map (·.add (i.toNat * ei.size))) (j.toNat - i.toNat) (cap - i.toNat),?_,?_⟩
   ·simp only[Instr.slice,aKa,aCa hu,aDa,it,mF]
    simp
   ·have jI:((l.take j.toNat).drop i.toNat).length=j.toNat - i.toNat:=by simp;omega
    by_cases hci:cap=i.toNat
    ·have:j.toNat - i.toNat=0:=by omega
     have XU:(l.take j.toNat).drop i.toNat=[]:=cxa (by omega)
     rw[XU,a4a hci,this];exact⟨[_],rfl,rfl,.inl ⟨rfl,_,_,rfl⟩⟩
    ·rw[aza hci]
     obtain⟨c1,c2,H1,H2,k1,k2,k3,k4,k5⟩:=RepL.split (fun c x H hr=>fW.size hr) (k:=j.toNat) e4 hj;have hH1:=RepL.ny (fun c x H hr=>fW.ny hr) k4;obtain⟨d1,d2,K1,K2,q1,q2,q3,q4,q5⟩:=RepL.split (fun c x H hr=>fW.size hr) (k:=i.toNat) k4 (by simp;omega)
     have hK2:=RepL.ny (fun c x H hr=>fW.ny hr) q5;rw[hK2] at q5;refine⟨[_],rfl,rfl,.inr ⟨b,cap - i.toNat,arr,elem,fz,pre++d1,d2,c2++rest,?_,e2,?_,q5,by rw[jI];omega⟩⟩
     ·rw[jI]
      simp[bQa,q3,hz]
     ·rw[e3,k1,q1];simp
theorem Oi{T:TypeId}{dst:Nat}{x:ab}{vx:Value}{lo hi mx:Option ab}{vlo vhi vmx:Option Value}{K:ab→St→Option R}(h:tI E T dst x lo hi mx st K=some r)(hm:ay X st G w)(hx:aP G x vx)
  (hlo:∀ a,lo=some a→∃ v,vlo=some v∧aP G a v) (abo:lo=none→vlo=none) (hhi:∀ a,hi=some a→∃ v,vhi=some v∧aP G a v) (adB:hi=none→vhi=none) (hmx:mx=none→vmx=none):
  ∃ av v st' G',(Instr.sliceAt T vx vlo vhi vmx).run P w=.ok v w∧ay X st' G' w∧(∀ act,bM G st act→bM G' st' act)∧aP G' av v∧K av st' = some r:=by
 unfold tI at h;have lj:∀{av:ab} {v:Value},(∃ d,P.underlying T=some d∧(match d with | .array _ _=>False|_=>True))→vmx=none→(Instr.slice T vx vlo vhi none).run P w=.ok v w→aP G av v→K av st=some r→
   ∃ av v st' G',(Instr.sliceAt T vx vlo vhi vmx).run P w=.ok v w∧ay X st' G' w∧(∀ act,bM G st act→bM G' st' act)∧aP G' av v∧K av st' = some r:=fun hd Va it hv hK=>by
  obtain⟨d,hu,agK⟩:=hd;subst Va;refine⟨_,_,st,G,?_,hm,fun _ h=>h,hv,hK⟩;simp only[Instr.sliceAt,aKa,aCa hu,aDa];cases d<;>first|exact agK.elim|exact it
 split at h
 ·
  rename_i s b y z hT;have hu:=(hE T _ hT).str;have Va:=hmx rfl;cases hs:x.OB with
  |none=>simp[hs] at h
  |some str=>
   simp only[hs] at h;cases Dq:m9 0 lo with
   |none=>simp[Dq] at h
   |some i=>
    cases Nx:m9 (str.length:Int) hi with
    |none=>simp[Dq,Nx] at h
    |some j=>simp only[Dq,Nx] at h;obtain⟨rr,hrr,h⟩:=awa.1 h;obtain⟨h0,h1,h2,rfl⟩:=Jy hrr;cases C8 hs hx;have k1:=AV (P:=P) (w:=w) Dq hlo abo;have k2:=AV (P:=P) (w:=w) Nx hhi adB;have it:=yR (P:=P) (w:=w) (isSlice:=false) (len:=str.length) (cap:=str.length) (ava _) h0 h1 h2 (k1.imp (fun h=>⟨h.1,h.2.2⟩) id) (k2.imp (fun h=>⟨h.1,h.2.2⟩) id);refine lj ⟨_,hu,trivial⟩ Va ?_ (KH _) h;simp only[Instr.slice,aKa,aCa hu,aDa,kl,Xa,it,Option.isSome_none,asa,aca,a8a,Tm]
 ·rename_i s b y e z hT
  have hu:=(hE T _ hT).slice;have Va:=hmx rfl;cases Ag:E.ia e with
  |none=>simp[Ag] at h
  |some ei=>
   simp only[Ag] at h;cases x with
   |agg ls=>simp[ab.bN] at h
   |Lg ls=>simp[ab.bN] at h
   |Ak t ls=>simp[ab.bN] at h
   |one l=>
    simp only[ab.bN] at h;cases l with
    |eV t l=>
     cases t with
     |slice t=>
      simp only at h;cases hz:Nat.beq ei.size t.size with
      |false=>simp[hz] at h
      |true=>
       simp only[hz,Q9] at h;have hz:=Q5 hz;cases Dq:m9 0 lo with
       |none=>simp[Dq] at h
       |some i=>
        cases Nx:m9 (l.length:Int) hi with
        |none=>simp[Dq,Nx] at h
        |some j=>simp only[Dq,Nx] at h;obtain⟨rr,hrr,h⟩:=awa.1 h;have k1:=AV (P:=P) (w:=w) Dq hlo abo;have k2:=AV (P:=P) (w:=w) Nx hhi adB;obtain⟨cs,ecs,Ba⟩:=hx;simp only[Ty.agg,asa,aca] at ecs;subst ecs;obtain⟨v,f1,f2⟩:=Oy hE (P:=P) (w:=w) hu Ag hz Ba hrr (k1.imp (fun h=>⟨h.1,h.2.2⟩) id) (k2.imp (fun h=>⟨h.1,h.2.2⟩) id);exact lj ⟨_,hu,trivial⟩ Va f1 f2 h
     |_=>simp at h
    |mA a=>
     simp only at h;cases hA:st.arr a with
     |none=>simp[hA] at h
     |some A=>
      simp only[hA] at h;cases hz:Nat.beq ei.size A.t.size with
      |false=>simp[hz] at h
      |true=>
       simp only[hz,Q9] at h;have hz:=Q5 hz;have hvx:vx=G.ψ a:=hx;have sy:=hm.ar a A hA;cases Qg:A.sh with
       |true=>
        simp only[Qg,Q9] at h
        replace sy:=(xm Qg).1 sy
        cases Dq:m9 0 lo with
        |none=>simp[Dq] at h
        |some i=>
         cases Nx:m9 (A.l.length:Int) hi with
         |none=>simp[Dq,Nx] at h
         |some j=>
          simp only[Dq,Nx] at h;obtain⟨rr,hrr,h⟩:=awa.1 h;have k1:=AV (P:=P) (w:=w) Dq hlo abo;have k2:=AV (P:=P) (w:=w) Nx hhi adB;obtain⟨v,f1,f2⟩:=Oy hE (P:=P) (w:=w) (vx:=vx) hu Ag hz (by rw[hvx];exact sy) hrr (k1.imp (fun h=>⟨h.1,h.2.2⟩) id) (k2.imp (fun h=>⟨h.1,h.2.2⟩) id)
          exact lj ⟨_,hu,trivial⟩ Va f1 f2 h
       |false=>
        simp only[Qg,ana] at h;cases lo with
        |some _=>simp at h
        |none=>
         cases hi with
         |none=>simp at h
         |some hv=>
          simp only at h;cases hj:hv.FO with
          |none=>simp[hj] at h
          |some p=>
           obtain⟨k,j⟩:=p;simp only[hj] at h;cases hc:(A.bK ||(look st.cM a).isNone ||(look st.fK a).isSome ||(st.arr dst).isSome||st.cZ true dst||eU a st.pin) with
           |true=>simp[hc] at h
           |false=>
            simp only[hc,ana] at h;simp only[aEa] at hc;obtain⟨⟨⟨⟨⟨hAd,Mg⟩,xp⟩,Ny⟩,Ai⟩,ON⟩:=hc;have xp:look st.fK a=none:=by simpa using xp
            have Ny:st.arr dst=none:=by simpa using Ny
            obtain⟨rr,hrr,h⟩:=awa.1 h;obtain⟨_,h1,h2,rfl⟩:=Jy hrr;obtain⟨vh,rfl,hvh⟩:=hhi hv rfl;cases qb hj hvh;have agS:=abo rfl;subst agS Va
            replace sy:=(gR Qg (DV hAd)).1 sy
            rw[hAd] at sy;have hmf:=EY hAd;have gT:dst≠a:=fun e=>by rw[e,hA] at Ny;cases Ny
            have mF:=(hE _ _ Ag).size w;have Nv:∀(N:jG) q,({st with cM:=(dst,N)::F7 st.cM a}:St).arr q=if q=dst then some N else if q=a then none else st.arr q:=fun N q=>by
             simp only[St.arr,au,qe];by_cases e:q=dst
             ·subst e;simp
             ·by_cases e2:q=a
              ·subst e2;simp[e,bxa e,xp,cba]
              ·simp[e,e2,cba (a:=dst),cba (a:=a)]
            have Zk:((A.l.take j.toNat).drop (0:Int).toNat)=A.l.take j.toNat:=by simp
            rw[Zk] at h;rcases sy with ⟨e1,e2,e3⟩|⟨bb,cap,arr,elem,cells,rest,H',e1,e2,e3,e4,e5,e6⟩
            ·simp only[aHa,a7a] at e3
             have hj0:j=0:=by rw[e1] at h2;simp at h2;omega
             subst hj0;obtain⟨G',m',B4,hv'⟩:=(hm.RB a xp ON).Z3 (a:=dst) (t:=A.t) (by
              simp only[St.arr,qe] at Ny ⊢;rw[aza (fun h=>gT h.symm)];exact Ny) Ai
             have hl0:A.l.take (0:Int).toNat=[]:=by simp
             refine⟨.one (.mA dst),.slice none 0 0,_,G',?_,m',fun act ra=>(ra.sub (.refl _) rfl (fun _=>rfl)).le B4 rfl (fun _=>rfl) Ai,hv',by rw[hl0] at h;simp only[Qg,hmf] at h;exact h⟩
             have it:=yR (P:=P) (w:=w) (isSlice:=true) (len:=0) (cap:=0) (vlo:=none) (vhi:=some (.int k 0)) (i:=0) (j:=0) (Nat.zero_le _) (cCa 0) (cCa 0) (by simp) (.inl ⟨rfl,rfl⟩) (.inr ⟨k,rfl⟩)
             rw[hvx,e3];simp only[Instr.sliceAt,Instr.slice,aKa,aCa hu,aDa,it,mF];simp
            ·simp only[aHa,a7a] at e1
             have hH':H' = []:=RepL.ny (fun c x H hr=>fW.ny hr) e6;subst hH';have sR:=hm.ah a A hA Qg (bb,Obj.cells arr elem (0,0)) (by rw[e2];simp)
             obtain⟨c1,c2,H1,H2,q1,q2,q3,q4,q5⟩:=RepL.split (fun c x H hr=>fW.size hr) (k:=j.toNat) e6 (by omega)
             have hH1:=RepL.ny (fun c x H hr=>fW.ny hr) q4;subst hH1;have bq:(A.l.take j.toNat).length=j.toNat:=by simp;omega
             obtain⟨G2,m2,r2,v2⟩:=hm.Oq (st':={st with cM:=(dst,{A with l:=A.l.take j.toNat})::F7 st.cM a}) (a:=a) (dst:=dst) (A':={A with l:=A.l.take j.toNat}) hA Qg Qg (show A.pd=true from DV hAd) e1 e2 (cap':=cap) (arr':=arr) (elem:=elem)
              (.inr ⟨bb,cap,arr,elem,c1,c2++rest,[],rfl,rfl,by rw[e3,q1];simp,e4,by rw[bq];omega,by rw[show({A with l:=A.l.take j.toNat}:jG).bK=false from hAd];exact q4⟩) sR (fun _ _=>rfl) rfl rfl rfl rfl (by simp[jG.nest,hmf]) (qS.cM _ _) (Nv _) (.inr ⟨gT,Ny,Ai,ON⟩)
             refine⟨_,_,_,G2,?_,m2,r2,v2,by simpa[Qg] using h⟩
             have it:=yR (P:=P) (w:=w) (isSlice:=true) (len:=A.l.length) (cap:=cap) (vlo:=none) (vhi:=some (.int k j)) (i:=0) (j:=j) e5 (cCa 0) h1 h2 (.inl ⟨rfl,rfl⟩) (.inr ⟨k,rfl⟩);rw[hvx,e1];simp only[Instr.sliceAt,Instr.slice,aKa,aCa hu,aDa,it,mF];simp only[bq];by_cases XO:cap=0
             ·simp[XO]
             ·simp[XO,Addr.add]
    |_=>simp at h
 ·cases h
end ops
end Go.Fx
namespace Go.Fx
structure vK(X:mz)(st st':St)(G G':Gh)(w w':World)(Old Tch:Bool×Nat→Prop)(F:List (Bool×Nat)):Prop where
 n:st'.n=st.n
 ib:∀ i,st'.ib i=st.ib i
 bl:st'.cD=st.cD
 pn:st'.pin=st.pin
 S:G'.S=G.S
 bN:∀ l v,(∀ x∈F,l.cZ x.1 x.2=false)→aT G l v→aT G' l v
 fm:∀ x∈F,st.cZ x.1 x.2=false
 sl:∀ a,SlV (G'.ψ a)
 dL:∀ o ls,st'.dL o=some ls→(Tch (false,o)∧∃ arr elem mid,w'.heap[G'.φ o]? = some (.cells arr elem (0,0))∧arr.toList=G'.pre o++(mid++G'.post o)∧hY G' st' o 0 ls mid)∨
  (¬ Tch (false,o)∧¬ Old (false,o)∧st.dL o=some ls∧G'.φ o=G.φ o∧G'.pre o=G.pre o∧G'.post o=G.post o)
 arr:∀ a A,st'.arr a=some A→(Tch (true,a)∧oL G' a A∧(A.sh=false→(∀ p∈G'.HA a,w'.heap[p.1]? = some p.2)∧((G'.HA a).map (·.1)).Nodup∧(A.nest=true→G'.HV a (G'.vn a)=kp (G'.HA a))))∨
  (¬ Tch (true,a)∧st.arr a=some A∧G'.ψ a=G.ψ a∧G'.HA a=G.HA a∧(A.sh=false→¬ Old (true,a))∧G'.HV a (G'.vn a)=G.HV a (G.vn a)∧∀ i o,A.md=.Dp i o→G'.φ o=G.φ o∧G'.pre o=G.pre o∧G'.post o=G.post o)
 pd:∀ x b,Tch x→eR G' st' x b→(∃ y,Old y∧eR G st y b)∨w.heap.size≤b
 pX:∀ x y b,Tch x→Tch y→eR G' st' x b→eR G' st' y b→x=y
 hv:∀ a,G'.vn a=st'.dA a
 old:∀ b,b<w.heap.size→(∀ y,Old y→¬ eR G st y b)→w'.heap[b]? = w.heap[b]?
 sz:w.heap.size≤w'.heap.size
 os:w'.os=w.os
 tp:w'.tape=w.tape
 out:w'.output=w.output
 ds:G'.ds=G.ds:=by rfl
 Vy:∀ o ls,st.dL o=some ls→((∃ p,X.pin o=some p)∨∃ j u,X.bv o j=some u)→st'.dL o=some ls∧¬ Tch (false,o)
 Vx:∀ a A,eU a st.pin=true→st.arr a=some A→(∃ B,st'.arr a=some B)∧G'.ψ a=G.ψ a
section
variable {X:mz} {st st':St} {G G':Gh} {w w':World} {Old Tch:Bool×Nat→Prop} {F:List (Bool×Nat)}
theorem vK.TJ(h:vK X st st' G G' w w' Old Tch F){x:ab}{v:Value}(hm:∀ y∈F,x.cZ y.1 y.2=false)(r:aP G x v):aP G' x v:=by
 have fd:∀{ls:List ag} {vs:List Value},(∀ y∈F,ls.any (ag.cZ y.1 y.2)=false)→All2 (aT G) ls vs→All2 (aT G') ls vs:=fun {ls vs} hq hr=>
  hr.uz fun l v hl B5=>h.bN l v (fun y hy=>by have:=aOa.1 (hq y hy) l hl;simpa using this) B5
 cases x with
 |one l=>exact h.bN l v hm r
 |agg ls=>obtain⟨cs,e,hr⟩:=r;exact⟨cs,e,fd hm hr⟩
 |Lg vs=>
  obtain⟨us,e,hr⟩:=r;refine⟨us,e,hr.uz fun p u hp NG=>?_⟩;have hm':∀ y∈F,p.2.any (ag.cZ y.1 y.2)=false:=fun y hy=>by have:=aOa.1 (hm y hy) p hp;simpa using this
  split at NG
  ·rename_i hc;simp only[hc,aua];obtain⟨cs,e,hr⟩:=NG;exact⟨cs,e,fd hm' hr⟩
  ·rename_i hc
   obtain⟨l,e,hr⟩:=NG;simp only[bva] at hc;simp only[hc,asa,aca];exact⟨l,e,h.bN l u (fun y hy=>by have:=hm' y hy;rw[e] at this;simpa using this) hr⟩
 |Ak t ls=>obtain⟨u,cs,e1,e2,hr⟩:=r;exact⟨u,cs,e1,e2,fd hm hr⟩
theorem vK.et(h:vK X st st' G G' w w' Old Tch F){act:Act}(hr:bM G st act):bM G' st' act:=
 ⟨hr.1.trans h.ds.symm,hr.2.1.trans h.n.symm,fun i v hv=>by
  rw[h.ib] at hv;exact h.TJ (fun y hy=>Bu (h.fm y hy) hv) (hr.2.2 i v hv)⟩
theorem vK.ok(h:vK X st st' G G' w w' Old Tch F)(hm:ay X st G w):ay X st' G' w':=by
 have hS:∀ b o,G.S b=some o→G'.S b=some o:=fun b o e=>by rw[h.S];exact e
 have low:∀ x b,¬ Tch x→eR G' st' x b→eR G st x b∧¬ Old x:=fun x b hx ho=>by
  obtain⟨k,n⟩:=x;cases k with
  |false=>
   obtain⟨⟨ls,hl⟩,rfl⟩:=ho;rcases h.dL n ls hl with ⟨h1,_⟩|⟨_,h2,h3,h4,_⟩
   ·exact absurd h1 hx
   ·exact⟨⟨⟨ls,h3⟩,h4⟩,h2⟩
  |true=>
   obtain⟨⟨A,hA,hs⟩,p,hp,rfl⟩:=ho;rcases h.arr n A hA with ⟨h1,_⟩|⟨_,h2,h3,h4,h5,_⟩
   ·exact absurd h1 hx
   ·exact⟨⟨⟨A,h2,hs⟩,p,by rw[←h4];exact hp,rfl⟩,h5 hs⟩
 have li:∀ x b,eR G st x b→¬ Old x→w'.heap[b]? = w.heap[b]?:=fun x b hx ho=>
  h.old b (eR.lt hm hx) fun y hy hyb=>ho (by rw[←hm.pX y x b hyb hx];exact hy)
 have afI:∀ o ls,st.dL o=some ls→((∃ p,X.pin o=some p)∨∃ j u,X.bv o j=some u)→st'.dL o=some ls∧¬ Old (false,o)∧G'.φ o=G.φ o∧G'.pre o=G.pre o∧G'.post o=G.post o:=fun o ls ho hp=>by
  obtain⟨h1,h2⟩:=h.Vy o ls ho hp;rcases h.dL o ls h1 with ⟨h3,_⟩|⟨_,h4,_,h5⟩
  ·exact absurd h3 h2
  ·exact⟨h1,h4,h5⟩
 refine {sl:=h.sl,sh:=fun b o hb=>?_,ob:=fun o ls ho=>?_,ar:=fun a A hA=>?_,ah:=fun a A hA hs p hp=>?_,nd:=fun a A hA hs=>?_,pX:=fun x y b hx hy=>?_,dS:=fun x b hx=>?_,sZ:=fun x b hx=>?_,s0:=fun b o hb=>hS b o (hm.s0 b o hb),sn:=fun b o hb=>hm.sn b o (by rw[←h.S];exact hb),fr:=fun b hb hn=>?_,sz:=bFa hm.sz h.sz,os:=h.os.trans hm.os,tp:=h.tp.trans hm.tp,out:=h.out.trans hm.out,pin:=fun o p hp=>?_,bv:=fun o j u hu=>?_,ap:=fun a u hu=>?_,hv:=h.hv,ds:=h.ds.trans hm.ds,hh:=fun a A hA hs hn=>?_}
 ·rw[h.S] at hb
  have h0:=hm.sh b o hb;rw[h.old b (fQ h0) fun y _ hy=>(by rw[hm.dS y b hy] at hb;cases hb)]
  exact h0
 ·rcases h.dL o ls ho with ⟨_,h2⟩|⟨_,h2,h3,h4,h5,h6⟩
  ·exact h2
  ·obtain⟨arr,elem,mid,g1,g2,g3⟩:=hm.ob o ls h3
   refine⟨arr,elem,mid,by rw[h4,li (false,o) _ ⟨⟨ls,h3⟩,rfl⟩ h2];exact g1,by rw[h5,h6];exact g2,?_⟩
   unfold hY at g3 ⊢;rw[jW (st:=st) (fun j l=>by cases l<;>simp[St.res,h.bl])]
   refine g3.uz fun l v hl B5=>h.bN l v (fun y hy=>?_) B5;have:=aOa.1 (rC (h.fm y hy) h3 0) l hl;simpa using this
 ·rcases h.arr a A hA with ⟨_,h2,_⟩|⟨_,h2,h3,h4,_,_,h7⟩
  ·exact h2
  ·exact(hm.ar a A h2).mono (G:=G) (a:=a) (G':=G') (a':=a) hS h3 h4 h7
 ·rcases h.arr a A hA with ⟨_,_,h3⟩|⟨_,h2,h3,h4,h5,_⟩
  ·exact(h3 hs).1 p hp
  ·rw[h4] at hp
   rw[li (true,a) p.1 ⟨⟨A,h2,hs⟩,p,hp,rfl⟩ (h5 hs)];exact hm.ah a A h2 hs p hp
 ·rcases h.arr a A hA with ⟨_,_,h3⟩|⟨_,h2,h3,h4,_⟩
  ·exact(h3 hs).2.1
  ·rw[h4];exact hm.nd a A h2 hs
 ·by_cases E4:Tch x<;>by_cases Gc:Tch y
  ·exact h.pX x y b E4 Gc hx hy
  ·obtain⟨k1,k2⟩:=low y b Gc hy
   rcases h.pd x b E4 hx with ⟨z,hz,hzb⟩|hf
   ·exact absurd (by rw[←hm.pX z y b hzb k1];exact hz) k2
   ·have:=eR.lt hm k1;omega
  ·obtain⟨k1,k2⟩:=low x b E4 hx
   rcases h.pd y b Gc hy with ⟨z,hz,hzb⟩|hf
   ·exact absurd (by rw[←hm.pX z x b hzb k1];exact hz) k2
   ·have:=eR.lt hm k1;omega
  ·exact hm.pX x y b (low x b E4 hx).1 (low y b Gc hy).1
 ·rw[h.S]
  by_cases E4:Tch x
  ·rcases h.pd x b E4 hx with ⟨z,hz,hzb⟩|hf
   ·exact hm.dS z b hzb
   ·cases hc:G.S b with
    |none=>rfl
    |some o=>have:=fQ (hm.sh b o hc);omega
  ·exact hm.dS x b (low x b E4 hx).1
 ·by_cases E4:Tch x
  ·rcases h.pd x b E4 hx with ⟨z,hz,hzb⟩|hf
   ·exact hm.sZ z b hzb
   ·have:=hm.sz;exact .inr (by omega)
  ·exact hm.sZ x b (low x b E4 hx).1
 ·rw[h.old b (by have:=hm.sz;omega) fun y _ hy=>(by
   rcases hm.sZ y b hy with g|g
   ·exact hn g
   ·omega)]
  exact hm.fr b hb hn
 ·obtain⟨⟨ls,h1⟩,h2⟩:=hm.pin o p hp
  obtain⟨h3,_,h4,h5,h6⟩:=afI o ls h1 (.inl ⟨p,hp⟩);exact⟨⟨ls,h3⟩,by rw[h4,h5,h6];exact h2⟩
 ·obtain⟨h1,⟨ls,h2,h3⟩,arr,elem,h4,h5⟩:=hm.bv o j u hu
  obtain⟨k1,k2,k3,k4,k5⟩:=afI o ls h2 (.inr ⟨j,u,hu⟩);exact⟨by rw[h.bl];exact h1,⟨ls,k1,h3⟩,arr,elem,by rw[k3,li (false,o) _ ⟨⟨ls,h2⟩,rfl⟩ k2];exact h4,by rw[k4];exact h5⟩
 ·rcases h.arr a A hA with ⟨_,_,h3⟩|⟨_,h2,h3,h4,h5,h6,_⟩
  ·exact(h3 hs).2.2 hn
  ·rw[h6,h4];exact hm.hh a A h2 hs hn
 ·obtain⟨h1,⟨A,h2⟩,h3⟩:=hm.ap a u hu
  obtain⟨h4,h5⟩:=h.Vx a A h1 h2;exact⟨by rw[h.pn];exact h1,h4,h5.trans h3⟩
end
end Go.Fx
namespace Go.Fx
theorem Ml{x:Nat}:∀{l:List Nat},eU x l=true↔x∈l
 |[]=>by simp[eU]
 |y::r=>by simp only[eU,a3a,aka,Ml (l:=r)];exact⟨fun h=>h.imp (fun e=>Q5 e) id,fun h=>h.imp (fun e=>by subst e;simp) id⟩
theorem Fa:∀{l:List Nat},nX l=true→l.Nodup
 |[],_=>b5a
 |x::r,h=>by simp only[nX,Q4,aLa] at h;refine a0a.2 ⟨fun hm=>?_,Fa h.2⟩;rw[Ml.2 hm] at h;cases h.1
theorem NV{α:Type}:∀(l m:List (Nat×α)) (q:Nat),look (l++m) q=match look l q with|some v=>some v|none=>look m q
 |[],m,q=>rfl
 |(k,v)::r,m,q=>by
  rw[a2a,au,au];by_cases e:k=q
  ·simp[e]
  ·simp only[e,aca];exact NV r m q
theorem zr:∀{c:List Nat} {l:List (Nat×jG)} {q:Nat},look (kW c l) q=if q∈c then none else look l q
 |[],l,q=>by simp[kW]
 |a::r,l,q=>by
  rw[kW,zr,qe];by_cases h1:q∈r
  ·simp[h1]
  ·by_cases h2:a=q
   ·simp[h2]
   ·have:q≠a:=fun e=>h2 e.symm
    simp[h1,h2,this]
theorem vF{S S':DB}{m m':Bool}:∀{t:Ty} {cs:List Value} {d:t.nw} {H:fY},t.yK=true→fW S m t cs d H→fW S' m' t cs d H
 |.int _,_,_,_,_,h=>h
 |.bool,_,_,_,_,h=>h
 |.str,_,_,_,_,h=>h
 |.slice _,_,_,_,e,_=>by cases e
 |.aO a b,cs,d,H,e,h=>by simp only[Ty.yK,Q4] at e;obtain⟨c1,c2,H1,H2,rfl,rfl,h1,h2⟩:=h;exact⟨c1,c2,H1,H2,rfl,rfl,vF e.1 h1,vF e.2 h2⟩
 |.one a,cs,d,H,e,h=>by exact vF (t:=a) e h
 |.arr n t,cs,d,H,e,h=>⟨h.1.imp fun c x H hx=>vF (t:=t) e hx,h.2⟩
theorem WS{α:Type}{RL:List Value→List α→fY→Prop}{sz:Nat}{v:Value}{l:List α}{H:fY}(h:kf RL sz [v] l H):SlV v:=by
 rcases h with ⟨_,_,e⟩|⟨b,cap,arr,elem,cells,rest,H',e,_⟩
 ·simp only[aHa,a7a] at e;exact .inl ⟨_,_,_,e⟩
 ·simp only[aHa,a7a] at e;exact .inl ⟨_,_,_,e⟩
theorem ay.NP{X:mz}{st st':St}{G:Gh}{w w':World}(hm:ay X st G w){dst:Nat}{C:List Nat}{A':jG}{hd:Value}{HH:fY}
  (hC:∀ c∈C,(∃ A,st.arr c=some A∧A.sh=false)∧eU c st.pin=false) (B6:A'.sh=false)
  (Mk:SlV hd) (NH:∀ G':Gh,G'.S=G.S→G'.ψ dst=hd→G'.HA dst=HH→oL G' dst A') (IU:(HH.map (·.1)).Nodup)
  (Zl:∀ p∈HH,(∃ c∈C,∃ q∈G.HA c,q.1=p.1)∨w.heap.size≤p.1) (Zm:∀ p∈HH,w'.heap[p.1]? = some p.2)
  (adH:∀ b,b<w.heap.size→(∀ c∈C,∀ q∈G.HA c,q.1≠b)→w'.heap[b]? = w.heap[b]?) (mF:w.heap.size≤w'.heap.size) (hos:w'.os=w.os) (htp:w'.tape=w.tape) (xY:w'.output=w.output)
  (hk:qS st st') (oW:∀ q,st'.arr q=if q=dst then some A' else if q∈C then none else st.arr q) (Mh:st.arr dst=none) (Ai:st.cZ true dst=false):
  ∃ G',ay X st' G' w'∧(∀ act,bM G st act→bM G' st' act)∧aP G' (.one (.mA dst)) hd∧G.Le G' true dst:=by
 let G':Gh:={G with ψ:=fun q=>if q=dst then hd else G.ψ q,HA:=fun q=>if q=dst then HH else G.HA q,HV:=fun q=>if q=dst then fun _=>kp HH else G.HV q}
 have B4:G.Le G' true dst:=⟨fun _ _ h=>h,fun _ _=>rfl,fun _ _=>rfl,fun _ _=>rfl,fun q h=>by simp[G',h rfl],fun _=>rfl,fun q h=>by simp[G',h rfl],rfl⟩
 have OO:vK X st st' G G' w w' (fun x=>∃ c∈C,x=(true,c)) (fun x=>x=(true,dst)) [(true,dst)]:=by
  refine {
      n:=hk.n,ib:=hk.ib,bl:=hk.bl,pn:=hk.pn,S:=rfl,bN:=fun l v h r=>r.le B4 (h (true,dst) (Q7.2 rfl)),fm:=fun x hx=>by rw[Q7.1 hx];exact Ai,
      sl:=fun q=>?_,dL:=fun o ls h=>?_,arr:=fun q A h=>?_,pd:=fun x b hx ho=>?_,pX:=fun x y b hx hy _ _=>hx.trans hy.symm,hv:=fun q=>?_,old:=fun b hb hn=>?_,
      sz:=mF,os:=hos,tp:=htp,out:=xY,Vy:=fun o ls h _=>⟨by rw[hk.dL];exact h,by simp⟩,Vx:=fun q A hp hA=>?_}
  ·by_cases e:q=dst
   ·simp only[G',e,aua];exact Mk
   ·simp only[G',e,aca];exact hm.sl q
  ·rw[hk.dL] at h
   exact .inr ⟨by simp,by simp,h,rfl,rfl,rfl⟩
  ·rw[oW] at h
   by_cases e:q=dst
   ·subst e
    simp only[aua,OF] at h;subst h;refine .inl ⟨rfl,NH G' rfl (by simp[G']) (by simp[G']),fun _=>?_⟩
    simp only[G',aua];exact⟨Zm,IU,fun _=>trivial⟩
   ·simp only[e,aca] at h
    by_cases e2:q∈C
    ·simp[e2] at h
    ·simp only[e2,aca] at h
     exact .inr ⟨by simp[e],h,by simp[G',e],by simp[G',e],fun _=>by simpa using fun h=>e2 h,by simp[G',e],fun _ _ _=>⟨rfl,rfl,rfl⟩⟩
  ·subst hx
   obtain⟨⟨A,hA,hs⟩,p,hp,rfl⟩:=ho;simp only[G',aua] at hp;rcases Zl p hp with ⟨c,hc,q,hq,e⟩|h
   ·obtain⟨⟨B,hB,Kh⟩,_⟩:=hC c hc
    exact .inl ⟨(true,c),⟨c,hc,rfl⟩,⟨B,hB,Kh⟩,q,hq,e⟩
   ·exact .inr h
  ·show G.vn q=st'.dA q
   rw[hm.hv];simp only[St.dA,hk.vr]
  ·refine adH b hb fun c hc q hq e=>?_
   obtain⟨⟨B,hB,Kh⟩,_⟩:=hC c hc;exact hn (true,c) ⟨c,hc,rfl⟩ ⟨⟨B,hB,Kh⟩,q,hq,e⟩
  ·have h1:q≠dst:=fun e=>by rw[e,Mh] at hA;cases hA
   have h2:q∉C:=fun e=>by rw[(hC q e).2] at hp;cases hp
   exact⟨⟨A,by rw[oW,aza h1,aza h2];exact hA⟩,by simp[G',h1]⟩
 exact⟨G',OO.ok hm,fun act=>OO.et,by simp[aP,aT,G'],B4⟩
theorem ay.tq{X:mz}{st st':St}{G:Gh}{w w':World}(hm:ay X st G w){dst:Nat}{C:List Nat}{A':jG}{hd:Value}{HH:fY}
  (hC:∀ c∈C,(∃ A,st.arr c=some A∧A.sh=false)∧eU c st.pin=false) (B6:A'.sh=false) (how:A'.pd=true)
  (jr:kf (RepL (fW G.S A'.bK A'.t)) A'.t.size [hd] A'.l HH) (IU:(HH.map (·.1)).Nodup)
  (Zl:∀ p∈HH,(∃ c∈C,∃ q∈G.HA c,q.1=p.1)∨w.heap.size≤p.1) (Zm:∀ p∈HH,w'.heap[p.1]? = some p.2)
  (adH:∀ b,b<w.heap.size→(∀ c∈C,∀ q∈G.HA c,q.1≠b)→w'.heap[b]? = w.heap[b]?) (mF:w.heap.size≤w'.heap.size) (hos:w'.os=w.os) (htp:w'.tape=w.tape) (xY:w'.output=w.output)
  (hk:qS st st') (oW:∀ q,st'.arr q=if q=dst then some A' else if q∈C then none else st.arr q) (Mh:st.arr dst=none) (Ai:st.cZ true dst=false):
  ∃ G',ay X st' G' w'∧(∀ act,bM G st act→bM G' st' act)∧aP G' (.one (.mA dst)) hd∧G.Le G' true dst:=
 hm.NP hC B6 (WS jr) (fun G' e1 e2 e3=>(gR B6 how).2 (by rw[e1,e2,e3];exact jr)) IU Zl Zm adH mF hos htp xY hk oW Mh Ai
theorem ZY(u:Ty):(RX u=.dB∧u.yK=true)∨RX u=.bK:=by unfold RX;cases h:u.yK<;>simp
theorem abU{S:DB}{u:Ty}{cs:List Value}{l:List u.nw}{H:fY}{sz:Nat}{v:List Value}(h:kf (RepL (fW S true u)) sz v l H){m:Bool}(hm:m=true∨u.yK=true):kf (RepL (fW S m u)) sz v l H:=by
 rcases hm with rfl|hn
 ·exact h
 ·exact h.imp fun c H hr=>hr.imp fun _ _ _ hx=>vF hn hx
theorem abV{S:DB}{u:Ty}{l:List u.nw}{H:fY}{sz:Nat}{v:List Value}{m:Bool}(hm:m=true∨u.yK=true)(h:kf (RepL (fW S m u)) sz v l H):kf (RepL (fW S true u)) sz v l H:=by
 rcases hm with rfl|hn
 ·exact h
 ·exact h.imp fun c H hr=>hr.imp fun _ _ _ hx=>vF hn hx
theorem PO(nm:Nat)(u:Ty)(l:List u.nw):(⟨u,RX u,false,l⟩:jG).pd=true∧((⟨u,RX u,false,l⟩:jG).bK=true∨u.yK=true):=by
 rcases ZY u with ⟨h,h2⟩|h
 ·rw[h];exact⟨rfl,.inr h2⟩
 ·rw[h];exact⟨rfl,.inl rfl⟩
theorem aT.leF{G G':Gh}{F:List (Bool×Nat)}(hS:∀ b o,G.S b=some o→G'.S b=some o)(hφ:∀ o,(false,o)∉F→G'.φ o=G.φ o∧G'.pre o=G.pre o)
  (hψ:∀ a,(true,a)∉F→G'.ψ a=G.ψ a∧G.vn a≤G'.vn a∧∀ v,v≤G.vn a→G'.HV a v=G.HV a v) {l:ag} {v:Value} (hm:∀ x∈F,l.cZ x.1 x.2=false) (r:aT G l v):aT G' l v:=by
 have ha:∀ a,l.cZ true a=true→(true,a)∉F:=fun a h hf=>by rw[hm _ hf] at h;cases h
 have ho:∀ a,l.cZ false a=true→(false,a)∉F:=fun a h hf=>by rw[hm _ hf] at h;cases h
 cases l with
 |any=>trivial
 |ur=>trivial
 |uZ=>exact r
 |eV t d=>obtain⟨cs,e,hr⟩:=r;exact⟨cs,e,hr.mono hS⟩
 |nil=>exact r
 |Kz=>exact r
 |mA a=>simp only[aT,(hψ a (ha a (by simp[ag.cZ]))).1];exact r
 |np o off=>have:=hφ o (ho o (by simp[ag.cZ]));simp only[aT,this.1,this.2];exact r
 |DT a sz i off=>simp only[aT,(hψ a (ha a (by simp[ag.cZ]))).1];exact r
 |PK t d off=>obtain⟨b,arr,elem,fz,pre,cs,post,h1,h2,h3,h4⟩:=r;exact⟨b,arr,elem,fz,pre,cs,post,hS _ _ h1,h2,h3.mono hS,h4⟩
 |fn f=>exact r
 |Fb a vr sz i off=>have:=hψ a (ha a (by simp[ag.cZ]));exact u9.Au r this.1 this.2.1 this.2.2
 |nse a vr sz i off sz2 j TU=>
  have:=hψ a (ha a (by simp[ag.cZ]))
  obtain⟨b2,Ku,LF,h1,h2⟩:=r;exact⟨b2,Ku,LF,h1.Au this.1 this.2.1 this.2.2,h2⟩
 |L9 a kk n=>simp only[aT,(hψ a (ha a (by simp[ag.cZ]))).1];exact r
 |ga t l=>obtain⟨b,arr,elem,fz,cs,rest,h1,h2,h3,h4⟩:=r;exact⟨b,arr,elem,fz,cs,rest,hS _ _ h1,h2,h3.El hS,h4⟩
theorem Mp{S:DB}{nm:Nat→Nat}:∀{t:Ty} {d:t.nw} {cs:List Value} {H:fY} {off:Nat},t.rE=true→fW S true t cs d H→
  ∃ gs:List (Value×fY),H=gs.flatMap (·.2)∧All2 (fun(p:Nat×jG) (g:Value×fY)=>p.2.sh=false∧p.2.pd=true∧kf (RepL (fW S p.2.bK p.2.t)) p.2.t.size [g.1] p.2.l g.2) (zf nm t d off) gs∧
   ∀ G:Gh,G.S=S→All2 (fun(p:Nat×jG) (g:Value×fY)=>G.ψ p.1=g.1) (zf nm t d off) gs→All2 (aT G) (HC nm t d off) cs
 |.int k,d,cs,H,off,_,h=>by rw[h.1,h.2];exact⟨[],rfl,trivial,fun G _ _=>⟨⟨_,by simp[Ty.agg],rfl,rfl⟩,trivial⟩⟩
 |.bool,d,cs,H,off,_,h=>by rw[h.1,h.2];exact⟨[],rfl,trivial,fun G _ _=>⟨⟨_,by simp[Ty.agg],rfl,rfl⟩,trivial⟩⟩
 |.str,d,cs,H,off,_,h=>by rw[h.1,h.2];exact⟨[],rfl,trivial,fun G _ _=>⟨⟨_,by simp[Ty.agg],rfl,rfl⟩,trivial⟩⟩
 |.slice u,d,cs,H,off,_,h=>by
  have hs:=fW.size h
  match cs,hs,h with
  |[v],_,h=>obtain⟨k1,k2⟩:=PO (nm off) u d;exact⟨[(v,H)],by simp,⟨⟨rfl,k1,abU (cs:=[]) h k2⟩,trivial⟩,fun G _ hg=>⟨hg.1.symm,trivial⟩⟩
 |.aO a b,d,cs,H,off,hn,h=>by
  simp only[Ty.rE,Q4] at hn;obtain⟨c1,c2,H1,H2,rfl,rfl,h1,h2⟩:=h;obtain⟨g1,e1,a1,r1⟩:=Mp (nm:=nm) (off:=off) hn.1 h1;obtain⟨g2,e2,a2,r2⟩:=Mp (nm:=nm) (off:=off+a.size) hn.2 h2;refine⟨g1++g2,by rw[e1,e2,cya],a1.append a2,fun G hS hg=>?_⟩
  obtain⟨y1,y2,e,k1,k2⟩:=hg.split;have hl:y1.length=g1.length:=by rw[←k1.length,a1.length]
  obtain⟨rfl,rfl⟩:=List.append_inj e hl.symm;exact(r1 G hS k1).append (r2 G hS k2)
 |.one a,d,cs,H,off,hn,h=>by exact Mp (t:=a) hn h
 |.arr _ _,d,cs,H,off,hn,_=>by cases hn
def JA:List (Nat×jG)→List (Value×fY)→List (Nat×Value×fY)
 |p::r,g::s=>(p.1,g)::JA r s
 |_,_=>[]
theorem qt{R:Nat×jG→Value×fY→Prop}:∀{l:List (Nat×jG)} {gs:List (Value×fY)} {q:Nat} {g:Value×fY},All2 R l gs→look (JA l gs) q=some g→∃ A,look l q=some A∧R (q,A) g∧g∈gs
 |p::r,g0::gs,q,g,h,hl=>by
  obtain⟨k,A⟩:=p;simp only[JA,au] at hl ⊢;by_cases e:k=q
  ·subst e
   simp only[aua,OF] at hl ⊢;subst hl;exact⟨A,rfl,h.1,aqa ..⟩
  ·simp only[e,aca] at hl ⊢
   obtain⟨B,h1,h2,h3⟩:=qt h.2 hl;exact⟨B,h1,h2,Q8 _ h3⟩
 |[],[],_,_,_,hl=>by cases hl
 |[],_::_,_,_,h,_=>h.elim
 |_::_,[],_,_,h,_=>h.elim
theorem NW{R:Nat×jG→Value×fY→Prop}:∀{l:List (Nat×jG)} {gs:List (Value×fY)} {q:Nat} {A:jG},All2 R l gs→look l q=some A→∃ g,look (JA l gs) q=some g∧R (q,A) g
 |p::r,g0::gs,q,A,h,hl=>by
  obtain⟨k,B⟩:=p;simp only[JA,au] at hl ⊢;by_cases e:k=q
  ·subst e
   simp only[aua,OF] at hl ⊢;subst hl;exact⟨g0,rfl,h.1⟩
  ·simp only[e,aca] at hl ⊢
   exact NW h.2 hl
 |[],[],_,_,_,hl=>by cases hl
 |[],_::_,_,_,h,_=>h.elim
 |_::_,[],_,_,h,_=>h.elim
theorem aga{R:Nat×jG→Value×fY→Prop}{l:List (Nat×jG)}{gs:List (Value×fY)}{q:Nat}(h:All2 R l gs)(hl:look (JA l gs) q=none):look l q=none:=by
 cases hh:look l q with
 |none=>rfl
 |some A=>obtain⟨g,hg,_⟩:=NW h hh;rw[hl] at hg;cases hg
theorem ac5{R:Nat×jG→Value×fY→Prop}{f:Nat→Value}:∀{l:List (Nat×jG)} {gs:List (Value×fY)},All2 R l gs→(l.map (·.1)).Nodup→(∀ q g,look (JA l gs) q=some g→f q=g.1)→All2 (fun(p:Nat×jG) (g:Value×fY)=>f p.1=g.1) l gs
 |[],[],_,_,_=>trivial
 |p::r,g::gs,h,hn,hf=>by
  rw[aFa,a0a] at hn;refine⟨hf p.1 g (by simp[JA,au]),ac5 h.2 hn.2 fun q g' hq=>hf q g' ?_⟩
  simp only[JA,au];have gT:p.1≠q:=fun e=>by obtain⟨A,hA,_⟩:=qt h.2 hq;exact hn.1 (by rw[e];exact aGa (f:=(·.1)) (dY hA))
  rw[aza gT];exact hq
 |[],_::_,h,_,_=>h.elim
 |_::_,[],h,_,_=>h.elim
theorem Xl{R:Nat×jG→Value×fY→Prop}:∀{l:List (Nat×jG)} {gs:List (Value×fY)} {q q':Nat} {g g':Value×fY},All2 R l gs→((gs.flatMap (·.2)).map (·.1)).Nodup→look (JA l gs) q=some g→look (JA l gs) q' = some g'→
  ∀ p∈g.2,∀ p'∈g'.2,p.1=p'.1→q=q'
 |a::r,g0::gs,q,q',g,g',h,hn,hq,IW,p,hp,p',Ax,e=>by
  simp only[JA,au] at hq IW;rw[bJa,bra,a_a] at hn;have tail:∀{q:Nat} {g:Value×fY},look (JA r gs) q=some g→∀ p∈g.2,p.1∈(gs.flatMap (·.2)).map (·.1):=fun {q g} hq p hp=>by obtain⟨_,_,_,hg⟩:=qt h.2 hq;exact aGa (bka.2 ⟨g,hg,hp⟩)
  by_cases e1:a.1=q<;>by_cases e2:a.1=q'
  ·rw[←e1,←e2]
  ·simp only[e1,aua,OF] at hq
   simp only[e2,aca] at IW;subst hq;exact absurd e (hn.2.2 _ (aGa hp) _ (tail IW p' Ax))
  ·simp only[e1,aca] at hq
   simp only[e2,aua,OF] at IW;subst IW;exact absurd e.symm (hn.2.2 _ (aGa Ax) _ (tail hq p hp))
  ·simp only[e1,aca] at hq
   simp only[e2,aca] at IW;exact Xl h.2 hn.2.1 hq IW p hp p' Ax e
 |[],[],_,_,_,_,_,_,hq,_,_,_,_,_,_=>by cases hq
 |[],_::_,_,_,_,_,h,_,_,_,_,_,_,_,_=>h.elim
 |_::_,[],_,_,_,_,h,_,_,_,_,_,_,_,_=>h.elim
end Go.Fx
namespace Go.Fx
def GS(st:St)(x:ab):Prop:=∀ k y,st.cZ k y=false→x.cZ k y=false
theorem rA{st:St}{a:Nat}{A:jG}(h:look st.cM a=some A):st.arr a=some A:=by simp[St.arr,h]
structure YD(X:mz)(st:St)(G:Gh)(w:World)(a i o:Nat)(s1:St)(G1:Gh):Prop where
 Gl:ay X s1 G1 w
 et:∀ act,bM G st act→bM G1 s1 act
 val:∀ x v,GS st x→aP G x v→aP G1 x v
 OI:∀ x v,x.cZ false o=false→(∀ q,x.cZ true (LY a (st.dA a) q)=false)→aP G x v→aP G1 x v
 iL:s1.n=st.n∧s1.et=st.et∧s1.jh=st.jh∧s1.cD=st.cD∧s1.fK=st.fK∧s1.pin=st.pin∧s1.ER=st.ER
 none:st.dL o=none
 np:∀ off v,aT G1 (.np o off) v↔∃ A,look st.cM a=some A∧aT G (.DT a A.t.size i off) v
 ab8:∀ A off u,look st.cM a=some A→off<A.t.size→u9 G1 a (st.dA a) A.t.size i off u→u=G1.ψ (LY a (st.dA a) off)
theorem Fc{nm:Nat→Nat}:∀{t:Ty} {d:t.nw} {off:Nat} {p:Nat×jG},p∈zf nm t d off→∃ q,p.1=nm q
 |.slice u,d,off,p,h=>⟨off,by rw[Q7.1 h]⟩
 |.aO a b,d,off,p,h=>by
  rcases ala.1 h with h|h
  ·exact Fc h
  ·exact Fc h
 |.one a,d,off,p,h=>by exact Fc (t:=a) h
 |.int _,d,off,p,h=>by cases h
 |.bool,d,off,p,h=>by cases h
 |.str,d,off,p,h=>by cases h
 |.arr _ _,d,off,p,h=>by cases h
theorem Sc{X:mz}{st:St}{G:Gh}{w:World}{R:Type}{r:R}{a i o:Nat}{K:St→Option R}(h:FU st a i o K=some r)(hm:ay X st G w):
    ∃ s1 G1,YD X st G w a i o s1 G1∧K s1=some r:=by
  unfold FU at h;cases hA:look st.cM a with
  |none=>simp[hA] at h
  |some A=>
    simp only[hA] at h;split at h
    · rename_i ux
      cases hc:(A.sh ||(st.dL o).isSome||st.cZ false o||!A.t.rE) with
      |true=>simp[hc] at h
      |false=>
        simp only[hc,ana] at h;simp only[aEa,bla] at hc;obtain⟨⟨⟨dq,Pk⟩,hmo⟩,hna⟩:=hc;have Pk:st.dL o=none:=by simpa using Pk
        obtain⟨x,hx,h⟩:=awa.1 h;have hi:A.l[i]? = some x:=by simpa[bA] using hx
        generalize hnm:LY a (st.dA a)=nm at h;cases xp:(nX ((zf nm A.t x 0).map (·.1))&&(zf nm A.t x 0).all (fun p=>(st.arr p.1).isNone&&!st.cZ true p.1)) with
        |false=>simp[xp] at h
        |true=>
          simp only[xp,Q9] at h;simp only[Q4,apa,aLa] at xp;have IU:=Fa xp.1;have sU:∀ p∈zf nm A.t x 0,st.arr p.1=none∧st.cZ true p.1=false:=fun p hp=>by have:=xp.2 p hp;exact⟨by simpa using this.1,this.2⟩
          have jH:=rA hA;have ae5:A.bK=true:=by simp[jG.bK,ux]
          have jr:A.pd=true:=by simp[jG.pd,ux]
          have sy:=(gR dq jr).1 (hm.ar a A jH);rw[ae5] at sy;rcases sy with ⟨e1,_⟩|⟨b,cap,arr,elem,cells,rest,H',e1,e2,e3,e4,e5,e6⟩
          · rw[e1] at hi;simp at hi
          simp only[aHa,a7a] at e1;have FN:i<A.l.length:=(aja.1 hi).1;obtain⟨pre,t1,Hp,t2,k1,k2,k3,k4,k5⟩:=RepL.split (fun c x H hr=>fW.size hr) e6 (Nat.le_of_lt FN);have Zk:A.l.drop i=x::A.l.drop (i+1):=by
            have:=aSa FN;rw[this];congr 1
            have:=(aja.1 hi).2;exact this
          rw[Zk] at k5;obtain⟨cc,post,Hc,Hq,k6,k7,k8,k9⟩:=k5;obtain⟨gs,f1,f2,f3⟩:=Mp (nm:=nm) (off:=0) hna k8;subst k6;subst k7;have sR:=hm.ah a A jH dq (b,Obj.cells arr elem (0,0)) (by rw[e2];simp)
          have Tt:=hm.nd a A jH dq;rw[e2,k2] at Tt;let Z:=JA (zf nm A.t x 0) gs
          let G1:Gh:={G with
            φ:=fun q=>if q=o then b else G.φ q
            pre:=fun q=>if q=o then pre else G.pre q
            post:=fun q=>if q=o then post++rest else G.post q
            ψ:=fun q=>match look Z q with|some g=>g.1|none=>G.ψ q
            HA:=fun q=>match look Z q with|some g=>g.2|none=>if q=a then Hp++Hq else G.HA q
            HV:=fun q=>match look Z q with|some g=>fun _=>kp g.2|none=>G.HV q}
          let s1:St:={st with cM:=(a,{A with md:=.Dp i o})::(zf nm A.t x 0++st.cM),cg:=(o,HC nm A.t x 0)::st.cg}
          have hZa:look Z a=none:=by
            cases hz:look Z a with
            |none=>rfl
            |some g=>obtain⟨B,hB,_⟩:=qt f2 hz;have:=(sU _ (dY hB)).1;rw[jH] at this;cases this
          have hZF:∀ q g,look Z q=some g→(true,q)∈(false,o)::(zf nm A.t x 0).map (fun p=>(true,p.1)):=fun q g hz=>by obtain⟨B,hB,_⟩:=qt f2 hz;exact Q8 _ (aXa.2 ⟨_,dY hB,rfl⟩)
          have qW:All2 (aT G1) (HC nm A.t x 0) cc:=f3 G1 rfl (ac5 f2 IU fun q g hz=>by simp only[G1,Z] at *;rw[hz])
          have D7:∀ q,s1.dL q=if o=q then some (HC nm A.t x 0) else st.dL q:=fun q=>by simp only[s1,St.dL,au]
          have Nw:∀ q,s1.arr q=if a=q then some {A with md:=.Dp i o} else match look (zf nm A.t x 0) q with|some B=>some B|none=>st.arr q:=fun q=>by
            simp only[s1,St.arr,au];by_cases e:a=q
            · simp[e]
            · simp only[e,aca,NV]
              cases look (zf nm A.t x 0) q<;>rfl
          have hOa:∀ p∈G.HA a,eR G st (true,a) p.1:=fun p hp=>⟨⟨A,jH,dq⟩,p,hp,rfl⟩;have inA:∀ q g,look Z q=some g→∀ p∈g.2,p∈G.HA a:=fun q g hz p hp=>by obtain⟨_,_,_,hg⟩:=qt f2 hz;rw[e2,k2,f1];exact Q8 _ (aoa _ (axa _ (bka.2 ⟨g,hg,hp⟩)))
          have afv:∀ p∈Hp++Hq,p∈G.HA a:=fun p hp=>by
            rw[e2,k2];rcases ala.1 hp with hp|hp
            · exact Q8 _ (axa _ hp)
            · exact Q8 _ (aoa _ (aoa _ hp))
          rw[aFa,a0a] at Tt;obtain⟨hk1,hk2⟩:=Tt;have hkm:∀ p,p∈Hp++(Hc++Hq)→p.1≠b:=fun p hp e=>hk1 (by show b∈_;rw[←e];exact aGa (f:=(·.1)) hp)
          rw[bra,bra,a_a,a_a] at hk2;obtain⟨n1,⟨n2,n3,n4⟩,n5⟩:=hk2;have gH:∀ q g,look Z q=some g→∀ p∈g.2,p∈Hc:=fun q g hz p hp=>by obtain⟨_,_,_,hg⟩:=qt f2 hz;rw[f1];exact bka.2 ⟨g,hg,hp⟩
          have Ok:∀ y c,eR G1 s1 y c→(y=(false,o)∧c=b)∨(y=(true,a)∧∃ p∈Hp++Hq,p.1=c)∨(∃ q g,y=(true,q)∧look Z q=some g∧∃ p∈g.2,p.1=c)∨(y≠(false,o)∧y≠(true,a)∧(∀ q g,look Z q=some g→y≠(true,q))):=fun y c hy=>by
            obtain⟨k,q⟩:=y;cases k with
            |false=>
              obtain⟨_,rfl⟩:=hy;by_cases e:q=o
              · subst e;exact .inl ⟨rfl,by simp[G1]⟩
              · exact .inr (.inr (.inr ⟨by simpa using e,by simp,by simp⟩))
            |true=>
              obtain⟨_,p,hp,rfl⟩:=hy;cases hz:look Z q with
              |some g=>simp only[G1,hz] at hp;exact .inr (.inr (.inl ⟨q,g,rfl,hz,p,hp,rfl⟩))
              |none=>
                simp only[G1,hz] at hp;by_cases e:q=a
                · subst e
                  simp only[aua] at hp;exact .inr (.inl ⟨rfl,p,hp,rfl⟩)
                · refine .inr (.inr (.inr ⟨by simp,by simpa using e,fun q' g hz' e2=>?_⟩))
                  cases e2;rw[hz] at hz';cases hz'
          have OO:vK X st s1 G G1 w w (fun y=>y=(true,a)) (fun y=>y=(false,o)∨y=(true,a)∨∃ q g,y=(true,q)∧look Z q=some g) ((false,o)::(zf nm A.t x 0).map (fun p=>(true,p.1))):=by
            refine {
                     n:=rfl,ib:=fun _=>rfl,bl:=rfl,pn:=rfl,S:=rfl,bN:=fun l v hl hr=>?_,fm:=fun y hy=>?_,sl:=fun q=>?_,dL:=fun q ls hq=>?_,arr:=fun q B hq=>?_,
                     pd:=fun y c hy ho=>?_,pX:=fun y z c hy hz ho ho'=>?_,hv:=hm.hv,old:=fun _ _ _=>rfl,sz:=ava _,os:=rfl,tp:=rfl,out:=rfl,Vy:=fun q ls hq _=>?_,Vx:=fun q B hp hq=>?_}
            · refine aT.leF (G:=G) (G':=G1) (F:=(false,o)::(zf nm A.t x 0).map (fun p=>(true,p.1))) (fun _ _ h=>h) (fun q hq=>?_) (fun q hq=>?_) hl hr
              · have:q≠o:=fun e=>hq (by rw[e];exact aqa ..)
                simp[G1,this]
              · have:look Z q=none:=by
                  cases hz:look Z q with
                  |none=>rfl
                  |some g=>exact absurd (hZF q g hz) hq
                simp[G1,this]
            · rcases aka.1 hy with rfl|hy
              · exact hmo
              · obtain⟨p,hp,rfl⟩:=aXa.1 hy
                exact(sU p hp).2
            · cases hz:look Z q with
              |some g=>obtain⟨B,_,⟨_,_,hb⟩,_⟩:=qt f2 hz;simp only[G1,hz];exact WS hb
              |none=>simp only[G1,hz];exact hm.sl q
            · rw[D7] at hq
              by_cases e:o=q
              · subst e
                simp only[aua,OF] at hq;subst hq;refine .inl ⟨.inl rfl,arr,elem,cc,by simp only[G1,aua];exact sR,by simp only[G1,aua];rw[e3,k1];simp,?_⟩
                unfold hY;have hnb:(HC nm A.t x 0).any ag.py=false:=by
                  have key:∀(t:Ty) (d:t.nw) (off:Nat),(HC nm t d off).any ag.py=false:=by
                    intro t;induction t with
                    |aO a b NM ihb=>intro d off;simp only[HC,List.any_append,NM,ihb];rfl
                    |one a ih=>intro d off;exact ih d off
                    |_=>intro d off;rfl
                  exact key _ _ _
                rw[uI _ _ _ _ hnb];exact qW
              · simp only[e,aca] at hq
                have gT:q≠o:=fun h=>e h.symm;exact .inr ⟨by simp[gT],by simp,hq,by simp[G1,gT],by simp[G1,gT],by simp[G1,gT]⟩
            · rw[Nw] at hq
              by_cases e:a=q
              · subst e
                simp only[aua,OF] at hq;subst hq;refine .inl ⟨.inr (.inl rfl),?_,fun _=>⟨fun p hp=>?_,?_,fun gT=>by simp[jG.nest] at gT⟩⟩
                · unfold oL
                  simp only[dq,asa,aca,G1,hZa,aua];refine⟨cap,Hp,Hq,rest,post,e1,rfl,rfl,?_,e5,FN,k3,k4,k9⟩;have mg:=fW.size k8;have:arr.size=pre.length+(cc.length+(post.length+rest.length)):=by rw[←bda,e3,k1];simp
                  rw[ata];show cap * A.t.size≤pre.length+A.t.size+(post.length+rest.length);omega
                · simp only[G1,hZa,aua] at hp
                  exact hm.ah a A jH dq p (afv p hp)
                · simp only[G1,hZa,aua]
                  rw[bra,a_a];exact⟨n1,n3,fun p hp q hq=>n5 p hp q (aoa _ hq)⟩
              · simp only[e,aca] at hq
                cases hl:look (zf nm A.t x 0) q with
                |some B'=>
                  rw[hl] at hq;simp only[OF] at hq;subst hq;obtain⟨g,hz,Dq,Nx,hb3⟩:=NW f2 hl;have hz':look Z q=some g:=hz;refine .inl ⟨.inr (.inr ⟨q,g,rfl,hz⟩),(gR Dq Nx).2 ?_,fun _=>⟨fun p hp=>?_,?_,fun _=>by simp only[G1,hz']⟩⟩
                  · simp only[G1,hz'];exact hb3
                  · simp only[G1,hz'] at hp
                    exact hm.ah a A jH dq p (inA q g hz p hp)
                  · simp only[G1,hz']
                    obtain⟨_,_,_,hg⟩:=qt f2 hz;have:((gs.flatMap (·.2)).map (·.1)).Nodup:=by rw[←f1];exact n2
                    have p9:(g.2).Sublist (gs.flatMap (·.2)):=by
                      have key:∀{gs:List (Value×fY)},g∈gs→(g.2).Sublist (gs.flatMap (·.2)):=by
                        intro gs;induction gs with
                        |nil=>intro h;cases h
                        |cons y r ih=>
                          intro h;rw[bJa];rcases aka.1 h with rfl|h
                          · exact List.sublist_append_left ..
                          · exact(ih h).trans (List.sublist_append_right ..)
                      exact key hg
                    exact this.sublist (p9.map _)
                |none=>
                  rw[hl] at hq;simp only at hq;have hz:look Z q=none:=by
                    cases hz:look Z q with
                    |none=>rfl
                    |some g=>obtain⟨B',hB',_⟩:=qt f2 hz;rw[hl] at hB';cases hB'
                  have gT:q≠a:=fun h=>e h.symm;refine .inr ⟨?_,hq,by simp[G1,hz],by simp[G1,hz,gT],fun _=>by simpa using gT,by simp[G1,hz],fun i' o' e'=>?_⟩
                  · rintro(h|h|⟨q',g,h,hz'⟩)
                    · cases h
                    · cases h;exact gT rfl
                    · cases h;rw[hz] at hz';cases hz'
                  · have:o'≠o:=E8 hmo hq e'
                    simp[G1,this]
            · refine .inl ⟨(true,a),rfl,?_⟩
              rcases Ok y c ho with ⟨rfl,e⟩|⟨rfl,p,hp,rfl⟩|⟨q,g,rfl,hz,p,hp,rfl⟩|⟨g1,g2,g3⟩
              · rw[e];exact hOa (b,Obj.cells arr elem (0,0)) (by rw[e2];simp)
              · exact hOa p (afv p hp)
              · exact hOa p (inA q g hz p hp)
              · rcases hy with h|h|⟨q,g,h,hz⟩
                · exact absurd h g1
                · exact absurd h g2
                · exact absurd h (g3 q g hz)
            · have bad:∀{y:Bool×Nat},(y=(false,o)∨y=(true,a)∨∃ q g,y=(true,q)∧look Z q=some g)→¬ (y≠(false,o)∧y≠(true,a)∧(∀ q g,look Z q=some g→y≠(true,q))):=fun {y} h ⟨g1,g2,g3⟩=>by
                rcases h with h|h|⟨q,g,h,hz⟩
                · exact g1 h
                · exact g2 h
                · exact g3 q g hz h
              have inQ:∀ p∈Hp++Hq,p∈Hp++(Hc++Hq):=fun p hp=>by
                rcases ala.1 hp with hp|hp
                · exact axa _ hp
                · exact aoa _ (aoa _ hp)
              have inC:∀ p∈Hc,p∈Hp++(Hc++Hq):=fun p hp=>aoa _ (axa _ hp);have aco:∀ p∈Hp++Hq,∀ p'∈Hc,p.1≠p'.1:=fun p hp p' Ax=>by
                rcases ala.1 hp with hp|hp
                · exact n5 _ (aGa hp) _ (axa _ (aGa Ax))
                · exact fun e=>n4 _ (aGa Ax) _ (aGa hp) e.symm
              have hfl:((gs.flatMap (·.2)).map (·.1)).Nodup:=by rw[←f1];exact n2
              rcases Ok y c ho with ⟨rfl,e0⟩|⟨rfl,p,hp,rfl⟩|⟨q,g,rfl,hq,p,hp,rfl⟩|hb
              · rcases Ok z _ ho' with ⟨rfl,_⟩|⟨rfl,p',Ax,e'⟩|⟨q',g',rfl,IW,p',Ax,e'⟩|hb
                · rfl
                · exact absurd (e'.trans e0) (hkm p' (inQ p' Ax))
                · exact absurd (e'.trans e0) (hkm p' (inC p' (gH q' g' IW p' Ax)))
                · exact absurd hb (bad hz)
              · rcases Ok z _ ho' with ⟨rfl,e'⟩|⟨rfl,p',Ax,e'⟩|⟨q',g',rfl,IW,p',Ax,e'⟩|hb
                · exact absurd e' (hkm p (inQ p hp))
                · rfl
                · exact absurd e'.symm (aco p hp p' (gH q' g' IW p' Ax))
                · exact absurd hb (bad hz)
              · rcases Ok z _ ho' with ⟨rfl,e'⟩|⟨rfl,p',Ax,e'⟩|⟨q',g',rfl,IW,p',Ax,e'⟩|hb
                · exact absurd e' (hkm p (inC p (gH q g hq p hp)))
                · exact absurd e' (aco p' Ax p (gH q g hq p hp))
                · rw[Xl f2 hfl hq IW p hp p' Ax e'.symm]
                · exact absurd hb (bad hz)
              · exact absurd hb (bad hy)
            · have gT:o≠q:=fun e=>by rw[e,hq] at Pk;cases Pk
              refine⟨by rw[D7,aza gT];exact hq,?_⟩
              rintro(h|h|⟨q',g,h,_⟩)
              · cases h;exact gT rfl
              · cases h
              · cases h
            · refine⟨?_,?_⟩
              · rw[Nw]
                by_cases e:a=q
                · exact⟨_,by rw[a4a e]⟩
                · rw[aza e];split
                  · exact⟨_,rfl⟩
                  · exact⟨_,hq⟩
              · have hz:look Z q=none:=by
                  cases hz:look Z q with
                  |none=>rfl
                  |some g=>obtain⟨B',hB',_⟩:=qt f2 hz;have:=(sU _ (dY hB')).1;rw[hq] at this;cases this
                simp[G1,hz]
          refine⟨s1,G1,{Gl:=OO.ok hm,et:=fun act=>OO.et,val:=fun y v hy hv=>OO.TJ (fun z hz=>hy _ _ (OO.fm z hz)) hv,OI:=fun y v h1 h2 hv=>OO.TJ (fun z hz=>(by
            rcases aka.1 hz with rfl|hz
            · exact h1
            · obtain⟨p,hp,rfl⟩:=aXa.1 hz
              obtain⟨q,hq⟩:=Fc hp;show y.cZ true p.1=false;rw[hq,←hnm];exact h2 q)) hv,iL:=⟨rfl,rfl,rfl,rfl,rfl,rfl,rfl⟩,none:=Pk,np:=fun off v=>?_,ab8:=fun A' off u hA' XV hu=>?_},h⟩
          · simp only[aT,G1,aua]
            constructor
            · rintro rfl
              exact⟨A,hA,b,A.l.length,cap,e1,FN,by rw[k3]⟩
            · rintro⟨A',hA',b',len,cap',g1,g2,rfl⟩
              rw[hA] at hA';cases hA';rw[e1] at g1;cases g1;rw[k3]
          · rw[hA] at hA'
            cases hA';obtain⟨h1,⟨xx,nn,ccc,Mk⟩,h3,h4⟩:=hu;have hHV:G1.HV a=G.HV a:=by simp only[G1,hZa]
            rw[hHV,←hm.hv,hm.hh a A jH dq (by simp[jG.nest,ux]),e2] at h4
            simp only[kp] at h4;have ae0:=fW.size k8;have hcu:cc[off]? = some u:=by
              rw[e3,k1,←k3,a1a,aPa (by omega),bca,a1a,aRa (by omega)] at h4
              exact h4
            have key:∀(t:Ty) (d:t.nw) (N5:Nat) (cs:List Value) (j:Nat),t.rE=true→All2 (aT G1) (HC nm t d N5) cs→cs[j]? = some u→u=G1.ψ (nm (N5+j)):=by
              have As:∀{l:ag} {cs:List Value} {j:Nat} {t:Ty} {d:t.nw},l=.eV t d→(∀ v,aT G1 (.eV t d) v→∀ x n c,v≠.slice x n c)→All2 (aT G1) [l] cs→cs[j]? = some u→False:=fun {l cs j t d} hl gT hr hj=>by
                subst hl
                match cs,hr with
                |[v],hr=>
                  cases j with
                  |zero=>simp only[bba,OF] at hj;subst hj;exact gT _ hr.1 _ _ _ Mk
                  |succ j=>simp at hj
              intro t;induction t with
              |int k=>exact fun d N5 cs j _ hr hj=>(As rfl (fun v hv x n c e=>by obtain⟨cs',e1,e2⟩:=hv;simp only[Ty.agg,asa,aca] at e1;subst e1;obtain⟨e2,_⟩:=e2;simp only[aHa,a7a] at e2;rw[e] at e2;cases e2) hr hj).elim
              |bool=>exact fun d N5 cs j _ hr hj=>(As rfl (fun v hv x n c e=>by obtain⟨cs',e1,e2⟩:=hv;simp only[Ty.agg,asa,aca] at e1;subst e1;obtain⟨e2,_⟩:=e2;simp only[aHa,a7a] at e2;rw[e] at e2;cases e2) hr hj).elim
              |str=>exact fun d N5 cs j _ hr hj=>(As rfl (fun v hv x n c e=>by obtain⟨cs',e1,e2⟩:=hv;simp only[Ty.agg,asa,aca] at e1;subst e1;obtain⟨e2,_⟩:=e2;simp only[aHa,a7a] at e2;rw[e] at e2;cases e2) hr hj).elim
              |slice t _=>
                intro d N5 cs j _ hr hj
                match cs,hr with
                |[v],hr=>
                  cases j with
                  |zero=>simp only[bba,OF] at hj;subst hj;exact hr.1
                  |succ j=>simp at hj
              |aO t1 t2 ih1 ih2=>
                intro d N5 cs j hn hr hj;simp only[Ty.rE,Q4] at hn;have jI:∀(t:Ty) (d:t.nw) (o0:Nat),t.rE=true→(HC nm t d o0).length=t.size:=by
                  intro t;induction t with
                  |aO a b NM ihb=>intro d o0 hn;simp only[Ty.rE,Q4] at hn;simp only[HC,ata,NM _ _ hn.1,ihb _ _ hn.2,Ty.size]
                  |one a ih=>intro d o0 hn;exact ih d o0 hn
                  |arr n t _=>intro d o0 hn;cases hn
                  |_=>intro d o0 _;rfl
                obtain⟨y1,y2,rfl,g1,g2⟩:=All2.split (xs:=HC nm t1 d.1 N5) hr;have hl1:y1.length=t1.size:=by rw[←g1.length,jI _ _ _ hn.1]
                by_cases hj1:j<y1.length
                · rw[aRa hj1] at hj
                  exact ih1 _ _ _ _ hn.1 g1 hj
                · rw[aPa (by omega),hl1] at hj
                  have:=ih2 _ _ _ _ hn.2 g2 hj;rw[this];congr 2;omega
              |one t ih=>exact fun d N5 cs j hn hr hj=>ih d N5 cs j hn hr hj
              |arr n t _=>intro d N5 cs j hn;cases hn
            have:=key A.t x 0 cc off hna qW hcu;rw[aTa] at this;rw[hnm];exact this
    · cases h
end Go.Fx
namespace Go.Fx
theorem ay.abB{X:mz}{st:St}{G:Gh}{w:World}(hm:ay X st G w)(f:ag→ag)(Zi:∀ l,f l=.ur↔l=.ur)(hf:∀ o ls,(o,ls)∈st.cg→∀ l∈ls,∀ v,aT G l v→aT G (f l) v):
  ay X {st with cg:=st.cg.map fun p=>(p.1,p.2.map f)} G w:=by
 let st':St:={st with cg:=st.cg.map fun p=>(p.1,p.2.map f)}
 have IV:∀ o,st'.dL o=(st.dL o).map (·.map f):=fun o=>by
  show look (st.cg.map fun p=>(p.1,p.2.map f)) o=(look st.cg o).map _;induction st.cg with
  |nil=>rfl
  |cons p r ih=>
   obtain⟨k,ls⟩:=p;rw[aFa,au,au];by_cases e:k=o
   ·simp[e]
   ·simp only[e,aca];exact ih
 have nH:∀ x b,eR G st' x b→eR G st x b:=fun x b hx=>by
  obtain⟨k,n⟩:=x;cases k with
  |true=>exact hx
  |false=>obtain⟨⟨ls,hl⟩,rfl⟩:=hx;rw[IV,aIa] at hl;obtain⟨ls0,h1,_⟩:=hl;exact⟨⟨ls0,h1⟩,rfl⟩
 have Bb:∀ o j l,st'.res o j l=st.res o j l:=fun o j l=>by cases l<;>rfl
 have fd:∀(o:Nat) (ls:List ag) (vs:List Value) (j:Nat),(∀ l∈ls,∀ v,aT G l v→aT G (f l) v)→All2 (aT G) (st.jV o j ls) vs→All2 (aT G) (st'.jV o j (ls.map f)) vs:=by
  intro o ls;induction ls with
  |nil=>intro vs j _ h;exact h
  |cons l r ih=>
   intro vs j hl h
   match vs,h with
   |v::vs,h=>
    simp only[aFa,St.jV];refine⟨?_,ih vs (j+1) (fun x hx=>hl x (Q8 _ hx)) h.2⟩;rw[Bb];by_cases e:l=.ur
    ·rw[(Zi l).2 e];rw[e] at h;exact h.1
    ·have h1:st.res o j l=l:=by cases l<;>first|rfl|exact absurd rfl e
     have h2:st.res o j (f l)=f l:=by have:=fun h=>e ((Zi l).1 h);cases hf':f l<;>first|rfl|exact absurd hf' this
     rw[h2];have:=h.1;rw[h1] at this;exact hl l (aqa ..) v this
 refine {sl:=hm.sl,sh:=hm.sh,ob:=fun o ls ho=>?_,ar:=hm.ar,ah:=hm.ah,nd:=hm.nd,pX:=fun x y b hx hy=>hm.pX x y b (nH x b hx) (nH y b hy),dS:=fun x b hx=>hm.dS x b (nH x b hx),sZ:=fun x b hx=>hm.sZ x b (nH x b hx),s0:=hm.s0,sn:=hm.sn,fr:=hm.fr,sz:=hm.sz,os:=hm.os,tp:=hm.tp,out:=hm.out,pin:=fun o p h=>?_,bv:=fun o j u h=>?_,ap:=hm.ap,hv:=hm.hv,ds:=hm.ds,hh:=hm.hh}
 ·have ho:st'.dL o=some ls:=ho
  rw[IV,aIa] at ho;obtain⟨ls0,h1,rfl⟩:=ho;obtain⟨arr,elem,mid,g1,g2,g3⟩:=hm.ob o ls0 h1;exact⟨arr,elem,mid,g1,g2,fd o ls0 mid 0 (hf o ls0 (dY h1)) g3⟩
 ·obtain⟨⟨ls,h1⟩,h2⟩:=hm.pin o p h
  exact⟨⟨ls.map f,by show st'.dL o=_;rw[IV,h1];rfl⟩,h2⟩
 ·obtain⟨h1,⟨ls,h2,h3⟩,h4⟩:=hm.bv o j u h
  exact⟨h1,⟨ls.map f,by show st'.dL o=_;rw[IV,h2];rfl,by rw[bIa,h3];exact bGa some ((Zi .ur).2 rfl)⟩,h4⟩
theorem No{α:Type}:∀{l:List (Nat×α)} {L6:List Nat} {p:Nat×α},p∈pF l L6→p∈l
 |q::r,L6,p,h=>by
  simp only[pF] at h;cases hm:eU q.1 L6 with
  |true=>rw[hm,Q9] at h;exact Q8 _ (No h)
  |false=>
   rw[hm,ana] at h;rcases aka.1 h with h|h
   ·rw[h];exact aqa ..
   ·exact Q8 _ (No h)
theorem zt{α:Type}:∀{l:List (Nat×α)} {L6:List Nat} {q:Nat},q∉L6→look (pF l L6) q=look l q
 |[],_,_,_=>rfl
 |p::r,L6,q,h=>by
  obtain⟨k,v⟩:=p;simp only[pF];rw[au];cases hm:eU k L6 with
  |true=>
   rw[Q9,zt h];have gT:k≠q:=fun e=>h (by rw[←e];exact Ml.1 hm)
   rw[aza gT]
  |false=>
   rw[ana,au];by_cases e:k=q
   ·simp[e]
   ·rw[aza e,aza e,zt (fun hq=>(aka.1 hq).elim (fun e'=>e e'.symm) h)]
theorem ay.pF{X:mz}{st:St}{G:Gh}{w:World}(hm:ay X st G w):ay X {st with cg:=pF st.cg []} G w:=by
 have IV:∀ o,({st with cg:=Go.Fx.pF st.cg []}:St).dL o=st.dL o:=fun o=>zt (by simp)
 have nH:∀ x b,eR G {st with cg:=Go.Fx.pF st.cg []} x b→eR G st x b:=fun x b hx=>by
  obtain⟨k,n⟩:=x;cases k with
  |true=>exact hx
  |false=>obtain⟨⟨ls,hl⟩,e⟩:=hx;exact⟨⟨ls,by rw[←IV];exact hl⟩,e⟩
 exact {
   sl:=hm.sl,sh:=hm.sh,ob:=fun o ls ho=>(by
    obtain⟨arr,elem,mid,g1,g2,g3⟩:=hm.ob o ls (by rw[←IV];exact ho)
    refine⟨arr,elem,mid,g1,g2,?_⟩;unfold hY at g3 ⊢;rw[jW (st:=st) (fun j l=>by cases l<;>rfl)];exact g3)
   ar:=hm.ar,ah:=hm.ah,nd:=hm.nd,pX:=fun x y b hx hy=>hm.pX x y b (nH x b hx) (nH y b hy),dS:=fun x b hx=>hm.dS x b (nH x b hx),sZ:=fun x b hx=>hm.sZ x b (nH x b hx),s0:=hm.s0,sn:=hm.sn,fr:=hm.fr,sz:=hm.sz,os:=hm.os,tp:=hm.tp,out:=hm.out
   pin:=fun o p h=>(by obtain⟨⟨ls,h1⟩,h2⟩:=hm.pin o p h;exact⟨⟨ls,by rw[IV];exact h1⟩,h2⟩),bv:=fun o j u h=>(by obtain⟨h1,⟨ls,h2,h3⟩,h4⟩:=hm.bv o j u h;exact⟨h1,⟨ls,by rw[IV];exact h2,h3⟩,h4⟩),ap:=hm.ap,hv:=hm.hv,ds:=hm.ds,hh:=hm.hh}
theorem VT(a v sz:Nat)(l:ag):qs a v sz l=.ur↔l=.ur:=by cases l<;>simp[qs];rename_i a' v' sz' i' off;cases (Nat.beq a' a&&Nat.beq v' v&&Nat.beq sz' sz&&Nat.blt off sz)<;>simp
theorem UG{G:Gh}{a v sz i:Nat}{l:ag}{u:Value}(ht:∀ off u,off<sz→u9 G a v sz i off u→u=G.ψ (LY a v off))(hc:wF a v sz i [l]=true)(h:aT G l u):aT G (qs a v sz l) u:=by
 cases l with
 |Fb a' v' sz' i' off=>
  simp only[qs,wF] at hc ⊢;cases hb:(Nat.beq a' a&&Nat.beq v' v&&Nat.beq sz' sz&&Nat.blt off sz) with
  |false=>exact h
  |true=>simp only[hb,Q9,Bool.and_true] at hc ⊢;simp only[Q4] at hb;obtain⟨⟨⟨b1,b2⟩,b3⟩,b4⟩:=hb;obtain rfl:=Q5 b1;obtain rfl:=Q5 b2;obtain rfl:=Q5 b3;obtain rfl:=Q5 hc;exact ht off u (by rw[b1a] at b4;exact b4) h
 |_=>exact h
theorem KL{a v sz i:Nat}:∀{ls:List ag},wF a v sz i ls=true→∀ l∈ls,wF a v sz i [l]=true
 |x::r,h,l,hl=>by
  have hx:wF a v sz i [x]=true∧wF a v sz i r=true:=by
   cases x with
   |Fb a' v' sz' i' off=>
    simp only[wF] at h ⊢;cases hb:(Nat.beq a' a&&Nat.beq v' v&&Nat.beq sz' sz&&Nat.blt off sz) with
    |false=>simp only[hb,ana] at h;exact⟨rfl,h⟩
    |true=>simp only[hb,Q9,Q4] at h;simpa using h
   |_=>exact⟨rfl,h⟩
  rcases aka.1 hl with rfl|hl
  ·exact hx.1
  ·exact KL hx.2 l hl
theorem QW{a v sz i:Nat}:∀{l:List (Nat×List ag)},UE a v sz i l=true→∀ o ls,(o,ls)∈l→wF a v sz i ls=true
 |p::r,h,o,ls,hl=>by
  simp only[UE,Q4] at h;rcases aka.1 hl with rfl|hl
  ·exact h.1
  ·exact QW h.2 o ls hl
theorem UD{X:mz}{st:St}{G:Gh}{w:World}{R:Type}{r:R}{a sz i:Nat}{K:St→Option R}(h:BF st a sz i K=some r)(hm:ay X st G w)
  (ht:∀ off u,off<sz→u9 G a (st.dA a) sz i off u→u=G.ψ (LY a (st.dA a) off)):
  ay X {st with cg:=(pF st.cg []).map fun p=>(p.1,p.2.map (qs a (st.dA a) sz))} G w∧K {st with cg:=(pF st.cg []).map fun p=>(p.1,p.2.map (qs a (st.dA a) sz))}=some r:=by
 unfold BF at h;cases hc:UE a (st.dA a) sz i (pF st.cg []) with
 |false=>simp[hc] at h
 |true=>simp only[hc,Q9] at h;exact⟨hm.pF.abB _ (VT _ _ _) fun o ls hl l hll v hv=>UG ht (KL (QW hc o ls hl) l hll) hv,h⟩
def Ik(st:St)(q:Nat):Prop:=∃ A,look st.cM q=some A∧A.sh=false∧eU q st.pin=false∧look st.fK q=none
theorem aaf{X:mz}{st:St}{G:Gh}{w:World}(hm:ay X st G w){u:Ty}{l:ag}{d:List u.nw}{c:List Nat}{v:Value}(h:Ub st u l=some (d,c))(hr:aT G l v):
  kf (RepL (fW G.S true u)) u.size [v] d (c.flatMap G.HA)∧∀ q∈c,Ik st q:=by
 unfold Ub at h;split at h
 ·simp only[OF,aia] at h
  obtain⟨rfl,rfl⟩:=h;exact⟨.inl ⟨rfl,rfl,by rw[show v=.slice none 0 0 from hr]⟩,fun q hq=>by cases hq⟩
 ·rename_i a
  split at h
  ·rename_i A hA
   cases hc:(A.sh||!A.md.lj (RX u)||eU a st.pin ||(look st.fK a).isSome) with
   |true=>simp[hc] at h
   |false=>
    simp only[hc,ana] at h;simp only[aEa,bla] at hc;obtain⟨⟨⟨h1,h2⟩,h3⟩,h4⟩:=hc;split at h
    ·rename_i l0 hl
     simp only[OF,aia] at h;obtain⟨rfl,rfl⟩:=h;obtain⟨ety,hl⟩:=lC hl;obtain⟨At,Amd,Ash,Al⟩:=A;simp only[Ty.slice.injEq] at ety;subst ety;simp only at hl h1 h2;subst hl h1;have ux:=Md.wI h2;subst ux;obtain⟨k1,k2⟩:=PO 0 At l0;have sy:=(gR rfl k1).1 (hm.ar a _ (rA hA));have hv:v=G.ψ a:=hr;refine⟨?_,fun q hq=>?_⟩
     ·rw[hv];simp only[bJa,List.flatMap_nil,a9a]
      exact abV k2 sy
     ·rw[Q7.1 hq];exact⟨_,hA,rfl,h3,by simpa using h4⟩
    ·cases h
  ·cases h
 ·cases h
theorem WR{X:mz}{st:St}{G:Gh}{w:World}(hm:ay X st G w):∀{t:Ty} {ls r:List ag} {d:t.nw} {c:List Nat} {vs:List Value},HE st t ls=some (d,r,c)→All2 (aT G) ls vs→
  ∃ c1 c2,vs=c1++c2∧fW G.S true t c1 d (c.flatMap G.HA)∧All2 (aT G) r c2∧∀ q∈c,Ik st q:=by
 have bN:∀{t:Ty},t.agg=false→t.yK=true→∀{ls r:List ag} {d:t.nw} {c:List Nat} {vs:List Value},
   (match ls with|[]=>none|l::r=>(l.wh st t).map fun d=>(d,r,([]:List Nat)))=some (d,r,c)→All2 (aT G) ls vs→
   ∃ c1 c2,vs=c1++c2∧fW G.S true t c1 d (c.flatMap G.HA)∧All2 (aT G) r c2∧∀ q∈c,Ik st q:=by
  intro t ht hn ls r d c vs h a
  match ls,vs,h,a with
  |l::ls,v::vs,h,a=>simp only[aIa,aia] at h;obtain⟨d',hd,rfl,rfl,rfl⟩:=h;exact⟨[v],vs,rfl,vF hn (Nt hm ht hd a.1),a.2,fun q hq=>by cases hq⟩
  |[],_,h,_=>simp at h
 intro t;induction t with
 |int k=>exact fun h a=>bN rfl rfl h a
 |bool=>exact fun h a=>bN rfl rfl h a
 |str=>exact fun h a=>bN rfl rfl h a
 |slice u _=>
  intro ls r d c vs h al
  match ls,vs,h,al with
  |l::ls,v::vs,h,al=>simp only[HE,aIa,aia] at h;obtain⟨⟨d',c'⟩,hd,rfl,rfl,rfl⟩:=h;obtain⟨g1,g2⟩:=aaf hm hd al.1;exact⟨[v],vs,rfl,g1,al.2,g2⟩
  |[],_,h,_=>simp[HE] at h
 |aO a b NM ihb=>
  intro ls r d c vs h al;simp only[HE] at h;cases h1:HE st a ls with
  |none=>simp[h1] at h
  |some p=>
   obtain⟨x,r1,cc⟩:=p;simp only[h1] at h;cases h2:HE st b r1 with
   |none=>simp[h2] at h
   |some q=>
    obtain⟨y,r2,cc2⟩:=q;simp only[h2,OF,aia] at h;obtain⟨rfl,rfl,rfl⟩:=h;obtain⟨c1,c2,rfl,g1,a1,o1⟩:=NM h1 al;obtain⟨c3,c4,rfl,g2,a2,o2⟩:=ihb h2 a1;refine⟨c1++c3,c4,by simp,⟨c1,c3,_,_,rfl,by rw[cya],g1,g2⟩,a2,fun q hq=>?_⟩
    rcases ala.1 hq with hq|hq
    ·exact o1 q hq
    ·exact o2 q hq
 |one a NM=>intro ls r d c vs h al;exact NM h al
 |arr n t _=>intro ls r d c vs h al;cases h
theorem G9{X:mz}{st:St}{G:Gh}{w:World}(hm:ay X st G w):∀{c:List Nat},c.Nodup→(∀ q∈c,∃ A,st.arr q=some A∧A.sh=false)→((c.flatMap G.HA).map (·.1)).Nodup
 |[],_,_=>b5a
 |q::c,hn,h=>by rw[a0a] at hn;obtain⟨A,hA,hs⟩:=h q (aqa ..);rw[bJa,bra,a_a];refine⟨hm.nd q A hA hs,G9 hm hn.2 fun p hp=>h p (Q8 _ hp),fun b hb b' hb' e=>?_⟩;obtain⟨p,hp,rfl⟩:=aXa.1 hb;obtain⟨p',Ax,rfl⟩:=aXa.1 hb';obtain⟨q',IW,Ax⟩:=bka.1 Ax;obtain⟨B,hB,Kh⟩:=h q' (Q8 _ IW);have:=hm.pX (true,q) (true,q') p.1 ⟨⟨A,hA,hs⟩,p,hp,rfl⟩ ⟨⟨B,hB,Kh⟩,p',Ax,e.symm⟩;simp only[aia,b9a] at this;exact hn.1 (by rw[this];exact IW)
theorem Ul{G:Gh}{st:St}{o:Nat}:∀{ls:List ag} {vs:List Value} {j:Nat},All2 (aT G) (st.jV o j ls) vs→All2 (aT G) ls vs
 |[],[],_,_=>trivial
 |l::r,v::vs,j,h=>⟨by
  cases l with
  |ur=>trivial
  |_=>exact h.1,Ul h.2⟩
 |[],_::_,_,h=>h.elim
 |_::_,[],_,h=>h.elim
theorem Rw{X:mz}{st:St}{G:Gh}{w:World}{R:Type}{r:R}{a o:Nat}{K:St→Option R}(h:A0 st a o K=some r)(hm:ay X st G w)(hX:∀ p,X.pin o≠some p)(hB:∀ j u,X.bv o j≠some u):
    ∃ s1 G1,ay X s1 G1 w∧(∀ act,bM G st act→bM G1 s1 act)∧(∀ x v,aP G x v→aP G1 x v)∧K s1=some r:=by
  unfold A0 at h;split at h
  · rename_i A ls hA ho
    split at h
    · rename_i i o' ux
      cases hc:(Nat.beq o o'&&!A.sh) with
      |false=>simp[hc] at h
      |true=>
        simp only[hc,Q9] at h;simp only[Q4,aLa] at hc;obtain⟨hoo,dq⟩:=hc;obtain rfl:=Q5 hoo;split at h
        · rename_i x c hT
          cases xp:(nX c&&!eU a c) with
          |false=>simp[xp] at h
          |true=>
            simp only[xp,Q9] at h;simp only[Q4,aLa] at xp;have IU:=Fa xp.1;have hac:a∉c:=fun hm'=>by rw[Ml.2 hm'] at xp;cases xp.2
            have jH:=rA hA;obtain⟨arr,elem,mid,g1,g2,g3⟩:=hm.ob o ls ho;obtain⟨c1,c2,e0,Ba,hr0,jr⟩:=WR hm hT (Ul g3)
            match c2,hr0 with
            |[],_=>
            rw[a9a] at e0;subst e0;have Zv:∀ q∈c,∃ A,st.arr q=some A∧A.sh=false:=fun q hq=>by obtain⟨B,hB1,hB2,_⟩:=jr q hq;exact⟨B,rA hB1,hB2⟩
            have sy:=hm.ar a A jH;unfold oL at sy;simp only[dq,asa,aca,ux] at sy;obtain⟨cap,Hp,Hq,rest,Jm,k1,k2,k3,k4,k5,k6,k7,k8,k9⟩:=sy;have hml:=fW.size Ba;let HH:fY:=(G.φ o,Obj.cells arr elem (0,0))::(Hp++(c.flatMap G.HA++Hq))
            let G1:Gh:={G with
              HA:=fun q=>if q=a then HH else G.HA q
              vn:=fun q=>if q=a then G.vn a+1 else G.vn q
              HV:=fun q v=>if q=a then(if v≤G.vn a then G.HV a v else arr.toList) else G.HV q v}
            let s1:St:={st with cM:=(a,⟨A.t,.bK,false,A.l.set i x⟩)::kW (a::c) st.cM,cg:=F7 st.cg o,ER:=(a,st.dA a+1)::st.ER}
            have afc:∀ l v,aT G l v→aT G1 l v:=fun l v hr=>aT.leF (G:=G) (G':=G1) (F:=[]) (fun _ _ h=>h) (fun _ _=>⟨rfl,rfl⟩) (fun q _=>⟨rfl,by
                show G.vn q≤if q=a then G.vn a+1 else G.vn q
                by_cases e:q=a
                · subst e;simp
                · simp[e],fun v hv=>by
                show(if q=a then(if v≤G.vn a then G.HV a v else arr.toList) else G.HV q v)=G.HV q v
                by_cases e:q=a
                · subst e;simp[hv]
                · simp[e]⟩) (by simp) hr
            have D7:∀ q,s1.dL q=if o=q then none else st.dL q:=fun q=>by simp only[s1,St.dL,qe]
            have Nw:∀ q,s1.arr q=if a=q then some ⟨A.t,.bK,false,A.l.set i x⟩ else if q∈c then none else st.arr q:=fun q=>by
              simp only[s1,St.arr,au];by_cases e:a=q
              · simp[e]
              · simp only[e,aca,zr]
                have hq:q≠a:=fun h=>e h.symm;by_cases e2:q∈c
                · obtain⟨_,_,_,_,hb⟩:=jr q e2
                  simp[e2,hb]
                · simp[e2,hq]
            have hao:∀ p∈Hp++Hq,eR G st (true,a) p.1:=fun p hp=>⟨⟨A,jH,dq⟩,p,by rw[k2];exact hp,rfl⟩
            have hco:∀ p∈c.flatMap G.HA,∃ q∈c,eR G st (true,q) p.1:=fun p hp=>by obtain⟨q,hq,hp⟩:=bka.1 hp;exact⟨q,hq,Zv q hq,p,hp,rfl⟩
            have afk:eR G st (false,o) (G.φ o):=⟨⟨ls,ho⟩,rfl⟩;have Tt:(HH.map (·.1)).Nodup:=by
              simp only[HH,aFa,bra];have hpq:=hm.nd a A jH dq;rw[k2,bra,a_a] at hpq;obtain⟨m1,m2,m3⟩:=hpq;have m4:=G9 hm IU Zv;have cr:∀ p∈Hp++Hq,∀ p'∈c.flatMap G.HA,p.1≠p'.1:=fun p hp p' Ax e=>by
                obtain⟨q,hq,ho'⟩:=hco p' Ax;have:=hm.pX _ _ _ (hao p hp) (by rw[e];exact ho')
                simp only[aia,b9a] at this;exact hac (by rw[this];exact hq)
              rw[a0a,a_a,a_a];refine⟨fun gS=>?_,m1,⟨m4,m2,fun x1 h1 x2 h2 e=>?_⟩,fun x1 h1 x2 h2 e=>?_⟩
              · have:∃ y,y≠(false,o)∧eR G st y (G.φ o):=by
                  rcases ala.1 gS with gS|gS
                  · obtain⟨p,hp,e⟩:=aXa.1 gS
                    exact⟨(true,a),by simp,by rw[←e];exact hao p (axa _ hp)⟩
                  · rcases ala.1 gS with gS|gS
                    · obtain⟨p,hp,e⟩:=aXa.1 gS
                      obtain⟨q,_,hq⟩:=hco p hp;exact⟨(true,q),by simp,by rw[←e];exact hq⟩
                    · obtain⟨p,hp,e⟩:=aXa.1 gS
                      exact⟨(true,a),by simp,by rw[←e];exact hao p (aoa _ hp)⟩
                obtain⟨y,hy,hyo⟩:=this;exact hy (hm.pX _ _ _ hyo afk)
              · obtain⟨p,hp,rfl⟩:=aXa.1 h1
                obtain⟨p',Ax,rfl⟩:=aXa.1 h2;exact cr p' (aoa _ Ax) p hp e.symm
              · obtain⟨p,hp,rfl⟩:=aXa.1 h1
                rcases ala.1 h2 with h2|h2
                · obtain⟨p',Ax,rfl⟩:=aXa.1 h2
                  exact cr p (axa _ hp) p' Ax e
                · exact m3 _ (aGa hp) _ h2 e
            have OO:vK X st s1 G G1 w w (fun y=>y=(true,a)∨y=(false,o)∨∃ q∈c,y=(true,q)) (fun y=>y=(true,a)) []:=by
              refine {
                       n:=rfl,ib:=fun _=>rfl,bl:=rfl,pn:=rfl,S:=rfl,bN:=fun l v _ hr=>afc l v hr,fm:=fun y hy=>(by cases hy),sl:=hm.sl,dL:=fun q wX hq=>?_,arr:=fun q B hq=>?_,
                       pd:=fun y b hy hyo=>?_,pX:=fun y z b hy hz _ _=>hy.trans hz.symm,hv:=fun q=>?_,old:=fun _ _ _=>rfl,sz:=ava _,os:=rfl,tp:=rfl,out:=rfl,Vy:=fun q wX hq hp=>?_,Vx:=fun q B hp hq=>?_}
              · rw[D7] at hq
                by_cases e:o=q
                · simp[e] at hq
                · simp only[e,aca] at hq
                  have gT:q≠o:=fun h=>e h.symm;exact .inr ⟨by simp,by simp[gT],hq,rfl,rfl,rfl⟩
              · rw[Nw] at hq
                by_cases e:a=q
                · subst e
                  simp only[aua,OF] at hq;subst hq;refine .inl ⟨rfl,(gR rfl rfl).2 ?_,fun _=>⟨fun p hp=>?_,?_,fun _=>?_⟩⟩
                  · simp only[G1,aua]
                    rw[show(⟨A.t,Md.bK,false,A.l.set i x⟩:jG).bK=true from rfl]
                    have Kn:A.l.set i x=A.l.take i++x::A.l.drop (i+1):=List.set_eq_take_append_cons_drop.trans (by rw[a4a k6])
                    refine .inr ⟨G.φ o,cap,arr,elem,G.pre o++(mid++Jm),rest,Hp++(c.flatMap G.HA++Hq),?_,rfl,?_,?_,?_,?_⟩
                    · rw[k1];simp
                    · rw[g2,k3];simp
                    · have:arr.size=(G.pre o).length+(mid.length+(G.post o).length):=by rw[←bda,g2];simp
                      show cap * A.t.size≤arr.size;omega
                    · simpa using k5
                    · show RepL (fW G.S true A.t) _ (A.l.set i x) _
                      rw[Kn];exact k8.append ⟨mid,Jm,c.flatMap G.HA,Hq,rfl,rfl,Ba,k9⟩
                  · simp only[G1,aua] at hp
                    rcases aka.1 hp with rfl|hp
                    · exact g1
                    · rcases ala.1 hp with hp|hp
                      · exact hm.ah a A jH dq p (by rw[k2];exact axa _ hp)
                      · rcases ala.1 hp with hp|hp
                        · obtain⟨q',IW,hp⟩:=bka.1 hp
                          obtain⟨B',hB',agm⟩:=Zv q' IW;exact hm.ah q' B' hB' agm p hp
                        · exact hm.ah a A jH dq p (by rw[k2];exact aoa _ hp)
                  · simp only[G1,aua];exact Tt
                  · simp only[G1,aua,HH,kp];rw[aza (by omega)]
                · simp only[e,aca] at hq
                  by_cases e2:q∈c
                  · simp[e2] at hq
                  · simp only[e2,aca] at hq
                    have gT:q≠a:=fun h=>e h.symm;refine .inr ⟨by simp[gT],hq,rfl,by simp[G1,gT],fun _=>?_,by simp[G1,gT],fun _ _ _=>⟨rfl,rfl,rfl⟩⟩
                    rintro(h|h|⟨q',IW,h⟩)
                    · cases h;exact gT rfl
                    · cases h
                    · cases h;exact e2 IW
              · subst hy
                obtain⟨_,p,hp,rfl⟩:=hyo;simp only[G1,aua] at hp;left;rcases aka.1 hp with rfl|hp
                · exact⟨(false,o),.inr (.inl rfl),afk⟩
                · rcases ala.1 hp with hp|hp
                  · exact⟨(true,a),.inl rfl,hao p (axa _ hp)⟩
                  · rcases ala.1 hp with hp|hp
                    · obtain⟨q,hq,ho'⟩:=hco p hp
                      exact⟨(true,q),.inr (.inr ⟨q,hq,rfl⟩),ho'⟩
                    · exact⟨(true,a),.inl rfl,hao p (aoa _ hp)⟩
              · show(if q=a then G.vn a+1 else G.vn q)=s1.dA q
                simp only[s1,St.dA,au];by_cases e:q=a
                · subst e;simp;exact hm.hv q
                · have:a≠q:=fun h=>e h.symm
                  simp only[e,this,aca];exact hm.hv q
              · have gT:o≠q:=fun e=>by
                  subst e;rcases hp with ⟨p,hp⟩|⟨j,u,hu⟩
                  · exact hX p hp
                  · exact hB j u hu
                exact⟨by rw[D7,aza gT];exact hq,by simp⟩
              · refine⟨?_,rfl⟩
                rw[Nw];by_cases e:a=q
                · exact⟨_,by rw[a4a e]⟩
                · have:q∉c:=fun IW=>by
                    obtain⟨_,_,_,ON,_⟩:=jr q IW;rw[ON] at hp;cases hp
                  exact⟨B,by rw[aza e,aza this];exact hq⟩
            exact⟨s1,G1,OO.ok hm,fun act=>OO.et,fun y v hv=>OO.TJ (fun z hz=>by cases hz) hv,h⟩
        · cases h
    · cases h
  · cases h
end Go.Fx
namespace Go.Fx
section ops
variable {P:Program} {E:sb} (hE:iq P E.ia) {X:mz} {w:World} {R:Type} {r:R}
theorem QS{st:St}{G:Gh}{T:TypeId}{ti:TI}(hti:zZ P T ti)(hm:ay X st G w){o off:Nat}{vs ls c:List ag}{vx vv:Value}(jI:vs.length=ti.size)(sC:vs.all ag.cell=true)(Ga:All2 (aT G) vs vv.cells.toList)
  (ho:st.dL o=some ls) (hs:qo ls off ti.size=some c) (hb:c.any ag.py=false) (hx:aT G (.np o off) vx):
  ∃ w',(Instr.storeAt T vx vv).run P w=.ok () w'∧ay X (st.qk o (mo ls off vs)) G w':=by
 have Tx:=EW hm sC Ga;have Hn:vv.cells.size=ti.size:=by rw[←jI,Ga.length];simp
 have B4:off+ti.size≤ls.length:=by
  unfold qo at hs;cases hq:Nat.ble (off+ti.size) ls.length with
  |false=>simp[hq] at hs
  |true=>exact aUa hq
 obtain⟨arr,elem,mid,g1,g2,g3⟩:=hm.ob o ls ho;have hml:mid.length=ls.length:=by have:=All2.length g3;rw[iJ] at this;exact this.symm
 have U7:arr.size=(G.pre o).length+(mid.length+(G.post o).length):=by rw[←bda,g2];simp
 have E4:vx=.pointer (some ⟨G.φ o,(G.pre o).length+off,none⟩):=hx;have wL:(G.pre o).length+off+vv.cells.size≤arr.size:=by omega
 obtain⟨arr',k1,k2,k3,k4,k5,k6,k7⟩:=nW (G.φ o) vv.cells.toList ((G.pre o).length+off) w g1 (by simpa using wL)
 refine⟨_,by rw[E4];exact zR hti Hn (BG g1 wL) Tx,?_⟩
 refine hm.Ux ho (M8 sC) (by omega) (by rw[jI];unfold qo at hs;cases hq:Nat.ble (off+ti.size) ls.length<;>simp[hq] at hs;rw[hs];exact hb) Ga g1 g2 g3 k1 ?_ k3 k4 k5 k6 k7
 have B5:vv.cells.toList.length=ti.size:=by simpa using Hn
 rw[k2,g2,B5];exact HR _ _ _ _ _ _ (by omega)
theorem Ym{a v sz:Nat}{ls:List ag}(h:ls.all ag.cell=true):(ls.map (qs a v sz)).all ag.cell=true:=by
 rw[cKa,apa];intro l hl;have:=apa.1 h l hl;simp only[Function.comp_apply];cases l with
 |Fb a' v' sz' i' off=>simp only[qs];cases (Nat.beq a' a&&Nat.beq v' v&&Nat.beq sz' sz&&Nat.blt off sz)<;>rfl
 |_=>exact this
theorem UF{G:Gh}{a v sz i:Nat}(ht:∀ off u,off<sz→u9 G a v sz i off u→u=G.ψ (LY a v off)):∀{ls:List ag} {us:List Value},wF a v sz i ls=true→All2 (aT G) ls us→All2 (aT G) (ls.map (qs a v sz)) us
 |[],[],_,_=>trivial
 |l::ls,u::us,h,hr=>by
  refine⟨UG ht (KL h l (aqa ..)) hr.1,UF ht ?_ hr.2⟩;cases l with
  |Fb a' v' sz' i' off=>
   simp only[wF] at h;cases hb:(Nat.beq a' a&&Nat.beq v' v&&Nat.beq sz' sz&&Nat.blt off sz) with
   |false=>simp only[hb,ana] at h;exact h
   |true=>simp only[hb,Q9,Q4] at h;exact h.2
  |_=>exact h
 |[],_::_,_,h=>h.elim
 |_::_,[],_,h=>h.elim
theorem N0{X:mz}{st:St}{G:Gh}{w:World}(hm:ay X st G w){o:Nat}(h:st.dL o=none):(∀ p,X.pin o≠some p)∧∀ j u,X.bv o j≠some u:=
 ⟨fun p hp=>(by obtain⟨⟨ls,h1⟩,_⟩:=hm.pin o p hp;rw[h] at h1;cases h1),fun j u hu=>(by obtain⟨_,⟨ls,h1,_⟩,_⟩:=hm.bv o j u hu;rw[h] at h1;cases h1)⟩
include hE
theorem T4{st:St}{G:Gh}{T:TypeId}{a sz i off:Nat}{v:ab}{vx vv:Value}{K:St→Option R}(h:tJ E T a sz i off v st K=some r)(hm:ay X st G w)(hx:aT G (.DT a sz i off) vx)(hv:aP G v vv)(hw:GS st v):
  ∃ st' G' w',(Instr.storeAt T vx vv).run P w=.ok () w'∧ay X st' G' w'∧(∀ act,bM G st act→bM G' st' act)∧K st' = some r:=by
 unfold tJ at h;split at h
 ·rename_i ti vs A hT hl hA
  cases hc:(Nat.beq vs.length ti.size&&vs.all ag.cell&&Nat.beq sz A.t.size) with
  |false=>simp[hc] at h
  |true=>
   simp only[hc,Q9] at h;simp only[Q4] at hc;obtain⟨⟨jI,sC⟩,mF⟩:=hc;have jI:=Q5 jI;have mF:=Q5 mF;subst mF;have hti:=hE T ti hT;split at h
   ·rename_i ux
    obtain⟨s1,G1,O,h⟩:=Sc h hm;obtain⟨b1,b2,b3,b4,b5,b6,b7⟩:=O.iL;have adO:s1.dA a=st.dA a:=by simp only[St.dA,b7]
    have ht:∀ off u,off<A.t.size→u9 G1 a (st.dA a) A.t.size i off u→u=G1.ψ (LY a (st.dA a) off):=fun off u ho hu=>O.ab8 A off u hA ho hu;obtain⟨m2,h⟩:=UD h O.Gl (by rw[adO];exact ht)
    generalize hs2:({s1 with cg:=(pF s1.cg []).map fun p=>(p.1,p.2.map (qs a (s1.dA a) A.t.size))}:St)=s2 at m2 h
    cases hth:wF a (st.dA a) A.t.size i vs with
    |false=>simp[hth] at h
    |true=>
     simp only[hth,Q9] at h;split at h
     ·rename_i ls ho
      split at h
      ·rename_i c hs
       cases hb:c.any ag.py with
       |true=>simp[hb] at h
       |false=>
        simp only[hb,ana] at h;have Ga:=UF ht hth (mv O.Gl hl (O.val v vv hw hv));have hxp:aT G1 (.np (obN a (st.dA a)) off) vx:=(O.np off vx).2 ⟨A,hA,hx⟩;obtain⟨w',it,m3⟩:=QS (w:=w) hti m2 (by rw[List.length_map];exact jI) (Ym sC) Ga ho hs hb hxp
        obtain⟨hp1,HX⟩:=N0 hm O.none;obtain⟨s4,G4,m4,r4,_,hK⟩:=Rw h m3 hp1 HX;refine⟨s4,G4,w',it,m4,fun act ra=>r4 act ?_,hK⟩;have r1:=O.et act ra;rw[←hs2];exact⟨r1.1,r1.2.1,r1.2.2⟩
      ·cases h
     ·cases h
   ·rename_i j o ux
    cases xp:(Nat.beq j i&&Nat.ble 10000 o) with
    |false=>simp[xp] at h
    |true=>
     simp only[xp,Q9] at h;simp only[Q4] at xp;obtain rfl:=Q5 xp.1;have abm:=aUa xp.2;split at h
     ·rename_i ls ho
      split at h
      ·rename_i c hs
       cases hb:c.any ag.py with
       |true=>simp[hb] at h
       |false=>
        simp only[hb,ana] at h;have jH:=rA hA;cases dq:A.sh with
        |true=>
         have sy:=hm.ar a A jH;exfalso;unfold A0 at h;rw[show look (st.qk o (mo ls off vs)).cM a=some A from hA,kG,a4a rfl] at h
         simp only[ux,dq] at h;simp at h
        |false=>
         have sy:=hm.ar a A jH;unfold oL at sy;simp only[dq,asa,aca,ux] at sy;obtain⟨cap,Hp,Hq,rest,Jm,k1,k2,k3,k4,k5,k6,k7,k8,k9⟩:=sy;have hxp:aT G (.np o off) vx:=by obtain⟨b,len,cap',g1,g2,rfl⟩:=hx;rw[k1] at g1;cases g1;simp only[aT,k7]
         obtain⟨w',it,m3⟩:=QS (w:=w) hti hm jI sC (mv hm hl hv) ho hs hb hxp;obtain⟨s4,G4,m4,r4,_,hK⟩:=Rw h m3 (fun p hp=>by have:=X.pl o p hp;omega) (fun j u hu=>by have:=X.bl o j u hu;omega)
         exact⟨s4,G4,w',it,m4,fun act ra=>r4 act ⟨ra.1,ra.2.1,ra.2.2⟩,hK⟩
      ·cases h
     ·cases h
   ·cases h
 ·cases h
omit hE in
theorem ay.ag7{X:mz}{st:St}{G:Gh}{w w':World}(hm:ay X st G w){a b:Nat}{A A':jG}{o o':Obj}(hA:st.arr a=some A)(hs:A.sh=false)(B6:A'.sh=false)(hn:A'.nest=false)(hH:G.HA a=[(b,o)])
  (NH:∀ G':Gh,G'.S=G.S→G'.ψ a=G.ψ a→G'.HA a=[(b,o')]→oL G' a A') (hw:w'.heap[b]? = some o') (hwo:∀ k,k≠b→w'.heap[k]? = w.heap[k]?) (mF:w'.heap.size=w.heap.size) (hos:w'.os=w.os) (htp:w'.tape=w.tape) (xY:w'.output=w.output):
  ∃ G',ay X (st.gE a A') G' w'∧(∀ act,bM G st act→bM G' (st.gE a A') act):=by
 let G1:Gh:={G with HA:=fun q=>if q=a then [(b,o')] else G.HA q}
 have Pk:eR G st (true,a) b:=⟨⟨A,hA,hs⟩,(b,o),by rw[hH];simp,rfl⟩
 have OO:vK X st (st.gE a A') G G1 w w' (fun y=>y=(true,a)) (fun y=>y=(true,a)) []:=by
  refine {
     n:=rfl,ib:=fun _=>rfl,bl:=rfl,pn:=rfl,S:=rfl,bN:=fun lf v _ hr=>aT.leF (G:=G) (G':=G1) (F:=[]) (fun _ _ h=>h) (fun _ _=>⟨rfl,rfl⟩) (fun q _=>⟨rfl,ava _,fun _ _=>rfl⟩) (by simp) hr,fm:=fun y hy=>(by cases hy),sl:=hm.sl,dL:=fun q ls hq=>.inr ⟨by simp,by simp,hq,rfl,rfl,rfl⟩,arr:=fun q B hq=>?_,
     pd:=fun y c hy hyo=>?_,pX:=fun y z c hy hz _ _=>hy.trans hz.symm,hv:=hm.hv,old:=fun c hc hn=>hwo c fun e=>hn (true,a) rfl (by rw[e];exact Pk),sz:=by rw[mF];exact ava _,os:=hos,tp:=htp,out:=xY,Vy:=fun q ls hq _=>⟨hq,by simp⟩,Vx:=fun q B hp hq=>⟨?_,rfl⟩}
  ·rw[dG] at hq
   by_cases e:a=q
   ·subst e
    simp only[aua,OF] at hq;subst hq;refine .inl ⟨rfl,NH G1 rfl rfl (by simp[G1]),fun _=>⟨fun p hp=>?_,by simp[G1],fun gT=>by rw[hn] at gT;cases gT⟩⟩
    simp only[G1,aua,Q7] at hp;rw[hp];exact hw
   ·simp only[e,aca] at hq
    have gT:q≠a:=fun h=>e h.symm;exact .inr ⟨by simp[gT],hq,rfl,by simp[G1,gT],fun _=>by simp[gT],rfl,fun _ _ _=>⟨rfl,rfl,rfl⟩⟩
  ·subst hy
   obtain⟨_,p,hp,rfl⟩:=hyo;simp only[G1,aua,Q7] at hp;exact .inl ⟨(true,a),rfl,by rw[hp];exact Pk⟩
  ·rw[dG]
   by_cases e:a=q
   ·exact⟨_,by rw[a4a e]⟩
   ·exact⟨B,by rw[aza e];exact hq⟩
 exact⟨G1,OO.ok hm,fun act=>OO.et⟩
theorem T5{st:St}{G:Gh}{T:TypeId}{a k n:Nat}{v:ab}{vx vv:Value}{K:St→Option R}(h:tK E T a k v st K=some r)(hm:ay X st G w)(hx:aT G (.L9 a k n) vx)(hv:aP G v vv):
  ∃ st' G' w',(Instr.storeAt T vx vv).run P w=.ok () w'∧ay X st' G' w'∧(∀ act,bM G st act→bM G' st' act)∧K st' = some r:=by
 unfold tK at h;split at h
 ·rename_i ti l A hT hl hA
  cases hc:(Nat.beq ti.size 1&&l.cell&&!A.sh&&Md.lj A.md .arr&&Nat.beq A.t.size 1&&!A.t.agg&&A.t.yK) with
  |false=>rw[hc] at h;cases h
  |true=>
   rw[hc,Q9] at h;simp only[Q4,aLa] at hc;obtain⟨⟨⟨⟨⟨⟨hts,sC⟩,dq⟩,ux⟩,mF⟩,hag⟩,hns⟩:=hc;have hts:=Q5 hts;have mF:=Q5 mF;have ux:=Md.wI ux;split at h
   ·rename_i d hd
    obtain⟨x0,hx0,h⟩:=awa.1 h;have hi:A.l[k]? = some x0:=by simpa[bA] using hx0
    have jH:=rA hA;have Ga:=mv hm hl hv;obtain⟨b,g1,hvx⟩:=hx;obtain⟨b',arr,elem,e1,e2,e3⟩:=GT dq ux (hm.ar a A jH);rw[g1] at e1;cases e1;have sR:=hm.ah a A jH dq (b,Obj.cells arr elem (0,0)) (by rw[e2];simp)
    obtain⟨pre,cc,post,Hp,Hc,Hq,k1,k2,k3,k4,k5⟩:=RepL.at (fun c x H hr=>fW.size hr) e3 hi;obtain⟨u,hu⟩:∃ u,vv.cells.toList=[u]:=by
     have:=Ga.length
     match hvv:vv.cells.toList,this with
     |[u],_=>exact⟨u,rfl⟩
    rw[hu] at Ga;have Ba:fW G.S false A.t [u] d []:=Nt hm hag hd Ga.1;have Hn:vv.cells.size=ti.size:=by rw[hts,←bda,hu];rfl
    have aho:k<arr.size:=by
     have mg:=fW.size k4;have:arr.size=pre.length+(cc.length+post.length):=by rw[←bda,k1];simp
     have hpk:pre.length=k:=by rw[k2,mF,Nat.mul_one]
     omega
    have Tx:∀ v∈vv.cells.toList,v.oneCell' = true:=by rw[hu];exact EW hm (ls:=[l]) (by simpa using sC) Ga
    have wL:k+vv.cells.size≤arr.size:=by omega
    obtain⟨arr',g2,g3,g4,g5,g6,g7,g8⟩:=nW b vv.cells.toList k w sR (by simpa using wL)
    have hrl:=k5 [u] d [] Ba;have hH0:Hp=[]∧Hc=[]∧Hq=[]:=by have e:=bPa.1 k3.symm;have e':=bPa.1 e.2;exact⟨e.1,e'.1,e'.2⟩
    have qW:arr'.toList=pre++([u]++post):=by
     have mg:cc.length=1:=by rw[fW.size k4,mF]
     rw[g3,hu,k1];have hpk:pre.length=k:=by rw[k2,mF,Nat.mul_one]
     match cc,mg with
     |[c0],_=>rw[←hpk];simp
    obtain⟨G2,m2,r2⟩:=hm.ag7 (A':=⟨A.t,.arr,false,A.l.set k d⟩) (o':=Obj.cells arr' elem (0,0)) jH dq rfl rfl e2 (fun G' h1 h2 h3=>⟨b,arr',elem,h2.trans g1,h3,by
     rw[qW,h1];have:=hrl;rw[hH0.1,hH0.2.2] at this;exact this⟩) g2 g4 g5 g6 g7 g8
    exact⟨_,G2,_,by rw[hvx];exact zR (hE T ti hT) Hn (BG sR wL) Tx,m2,r2,h⟩
   ·cases h
 ·cases h
theorem T6{st:St}{G:Gh}{T:TypeId}{x v:ab}{vx vv:Value}{K:St→Option R}(h:tL E T x v st K=some r)(hm:ay X st G w)(hx:aP G x vx)(hv:aP G v vv)(hw:GS st v):
  ∃ st' G' w',(Instr.storeAt T vx vv).run P w=.ok () w'∧ay X st' G' w'∧(∀ act,bM G st act→bM G' st' act)∧K st' = some r:=by
 unfold tL at h;split at h
 ·rename_i a sz i off hn
  unfold WJ at hn;split at hn
  ·rename_i a' sz' i' ad8 hl
   have hxe:x=.one (.DT a' sz' i' ad8):=by cases x<;>simp[ab.bN] at hl;rw[hl]
   split at hn
   ·rename_i A hA
    cases hs:A.sh with
    |true=>simp[hs] at hn
    |false=>
     simp only[hs,ana] at hn;have e:(a',sz',i',ad8)=(a,sz,i,off):=by
      split at hn
      ·exact bta hn
      ·exact bta hn
      ·cases hn
     simp only[aia] at e;obtain⟨rfl,rfl,rfl,rfl⟩:=e;rw[hxe] at hx;exact T4 hE h hm hx hv hw
   ·cases hn
  ·cases hn
 ·split at h
  ·rename_i a k ha
   unfold ada at ha;split at ha
   ·rename_i a' k' n' hl
    cases ha;rw[show x=.one (.L9 a k n') by cases x<;>simp[ab.bN] at hl;rw[hl]] at hx
    exact T5 hE (n:=n') h hm hx hv
   ·cases ha
  ·exact Vv hE h hm hx hv
omit hE in
theorem xQ{st:St}{dst:Nat}{C:List Nat}{N:jG}(hb:∀ c∈C,look st.fK c=none)(q:Nat):({st with cM:=(dst,N)::kW C st.cM}:St).arr q=if q=dst then some N else if q∈C then none else st.arr q:=by
 simp only[St.arr,au,zr];by_cases e:dst=q
 ·simp[e]
 ·have hq:q≠dst:=fun h=>e h.symm
  simp only[e,hq,aca];by_cases e2:q∈C
  ·simp[e2,hb q e2]
  ·simp[e2]
omit hE in
theorem K7{st:St}{G:Gh}(hm:ay X st G w){t:Ty}:∀{ps:List (Nat×ab)} {vs:List (Nat×Value)} {k:Nat} {l:List t.nw} {c:List Nat},tO t k ps st=some (l,c)→All2 (fun(p:Nat×ab) (q:Nat×Value)=>p.1=q.1∧aP G p.2 q.2) ps vs→
  RepL (fW G.S true t) (vs.map fun p=>p.2.cells.toList).flatten l (c.flatMap G.HA)∧l.length=vs.length∧(∀(i:Nat) q,vs[i]? = some q→q.1=k+i∧q.2.cells.size=t.size)∧∀ q∈c,Ik st q
 |[],[],k,l,c,h,_=>by simp only[tO,OF,aia] at h;obtain⟨rfl,rfl⟩:=h;exact⟨⟨rfl,rfl⟩,rfl,fun i q hq=>by simp at hq,fun q hq=>by cases hq⟩
 |(j,v)::ps,(j',u)::vs,k,l,c,h,hp=>by
  simp only[tO] at h;cases hb:Nat.beq k j with
  |false=>simp[hb] at h
  |true=>
   simp only[hb,Q9] at h;have hkj:=Q5 hb;split at h
   ·rename_i ls hl
    split at h
    ·rename_i d c0 hT
     split at h
     ·rename_i l' c' afq
      simp only[OF,aia] at h;obtain⟨rfl,rfl⟩:=h;obtain⟨c1,c2,e0,g1,g2,g3⟩:=WR hm hT (mv hm hl hp.1.2)
      match c2,g2 with
      |[],_=>
      rw[a9a] at e0;obtain⟨r1,r2,r3,r4⟩:=K7 hm afq hp.2;refine⟨⟨c1,_,c0.flatMap G.HA,c'.flatMap G.HA,by simp[e0],by rw[cya],g1,r1⟩,by simp[r2],fun i q hq=>?_,fun q hq=>?_⟩
      ·cases i with
       |zero=>
        simp only[bba,OF] at hq;subst hq;refine⟨by have h1:=hp.1.1;simp only at h1 ⊢;omega,?_⟩
        have:=fW.size g1;rw[←e0] at this;simpa using this
       |succ i=>
        obtain⟨z1,z2⟩:=r3 i q (by simpa using hq)
        exact⟨by omega,z2⟩
      ·rcases ala.1 hq with hq|hq
       ·exact g3 q hq
       ·exact r4 q hq
     ·cases h
    ·cases h
   ·cases h
 |[],_::_,_,_,_,_,hp=>hp.elim
 |_::_,[],_,_,_,_,hp=>hp.elim
omit hE in
theorem abK{st:St}{c:List Nat}(h:∀ q∈c,Ik st q):(∀ q∈c,(∃ A,st.arr q=some A∧A.sh=false)∧eU q st.pin=false)∧∀ q∈c,look st.fK q=none:=
 ⟨fun q hq=>by obtain⟨A,h1,h2,h3,_⟩:=h q hq;exact⟨⟨A,rA h1,h2⟩,h3⟩,fun q hq=>by obtain⟨_,_,_,_,h4⟩:=h q hq;exact h4⟩
theorem KA{st:St}{G:Gh}{T:TypeId}{dst len:Nat}{hZ:List (Nat×ab)}{vs:List (Nat×Value)}{K:ab→St→Option R}(h:kN E T dst len hZ st K=some r)(hm:ay X st G w)
  (hp:All2 (fun(p:Nat×ab) (q:Nat×Value)=>p.1=q.1∧aP G p.2 q.2) hZ vs):
  ∃ av v st' G' w',(Instr.buildSlice T len vs.toArray).run P w=.ok v w'∧ay X st' G' w'∧(∀ act,bM G st act→bM G' st' act)∧aP G' av v∧K av st' = some r:=by
 unfold kN at h;split at h
 ·rename_i s b y e z hT
  cases Ag:E.ia e with
  |none=>simp[Ag] at h
  |some ei=>
   simp only[Ag] at h;cases hy:ei.ty with
   |none=>simp[hy] at h
   |some t=>
    simp only[hy] at h;cases hc:(Nat.beq len hZ.length&&Nat.beq ei.size t.size&&Nat.ble (len * ei.size) 16777216) with
    |false=>simp[hc] at h
    |true=>
     simp only[hc,Q9] at h;simp only[Q4] at hc;obtain⟨⟨Mg,xp⟩,Ny⟩:=hc;have Mg:=Q5 Mg;have xp:=Q5 xp;have Ny:=aUa Ny;split at h
     ·rename_i l c hsp ha
      cases Ai:(st.cZ true dst||!nX c) with
      |true=>simp[Ai] at h
      |false=>
       simp only[Ai,ana] at h;simp only[aEa,bla] at Ai;obtain⟨Ai,IU⟩:=Ai;have IU:=Fa IU;obtain⟨r1,l1,z1,o1⟩:=K7 hm hsp hp;obtain⟨oc1,oc2⟩:=abK o1;have B5:vs.length=len:=by rw[Mg,hp.length]
       have hu:=(hE T _ hT).slice;obtain⟨i,d,zz,i1,i2,i3,i4,i5,i6,i7,i8,i9,_⟩:=hE e ei Ag;have mg:(vs.map fun p=>p.2.cells.toList).flatten.length=len * t.size:=by rw[RepL.size (fun c x H hr=>fW.size hr) r1,l1,B5]
       let zc:Array Value:=if len * ei.size=0 then #[] else zz.cells
       let RP:List Value:=((Array.range (len * ei.size)).map (zc[· % zc.size]!)).toList
       have FN:RP.length=len * ei.size:=by simp[RP]
       have ND:=Nn ei.size vs 0 RP (fun j p hp=>by
        obtain⟨g1,g2⟩:=z1 j p hp;exact⟨g1,by rw[g2,xp]⟩) (by rw[aTa,B5,FN];exact ava _)
       rw[aTa,B5,Nat.zero_mul,List.take_zero,aQa,cla (by rw[FN];exact ava _),a9a] at ND
       let blk:Obj:=.cells (vs.map fun p=>p.2.cells.toList).flatten.toArray e (0,0);have Pi:∀ p∈c.flatMap G.HA,p.1<w.heap.size∧w.heap[p.1]? = some p.2:=fun p hp=>by obtain⟨q,hq,hp⟩:=bka.1 hp;obtain⟨⟨A,hA,hs⟩,_⟩:=oc1 q hq;have:=hm.ah q A hA hs p hp;exact⟨fQ this,this⟩
       have IQ:kf (RepL (fW G.S true t)) t.size [.slice (some ⟨w.heap.size,0,none⟩) l.length len] l ((w.heap.size,blk)::c.flatMap G.HA):=
        .inr ⟨w.heap.size,len,(vs.map fun p=>p.2.cells.toList).flatten.toArray,e,(vs.map fun p=>p.2.cells.toList).flatten,[],c.flatMap G.HA,rfl,rfl,by simp,by rw[bAa,mg];exact ava _,by rw[l1,B5];exact ava _,r1⟩
       obtain⟨G2,m2,r2,hv2,_⟩:=hm.tq (w':=w.alloc blk) (dst:=dst) (C:=c) (A':=⟨t,.bK,false,l⟩) (hd:=.slice (some ⟨w.heap.size,0,none⟩) l.length len) (HH:=(w.heap.size,blk)::c.flatMap G.HA)
        (st':={st with cM:=(dst,⟨t,.bK,false,l⟩)::kW c st.cM}) oc1 rfl rfl
        IQ
        (by
         rw[aFa,a0a];refine⟨fun gS=>?_,G9 hm IU fun q hq=>(oc1 q hq).1⟩;obtain⟨p,hp,e⟩:=aXa.1 gS;have:=(Pi p hp).1;simp only at e;omega)
        (fun p hp=>by
         rcases aka.1 hp with rfl|hp
         ·exact .inr (ava _)
         ·obtain⟨q,hq,hp⟩:=bka.1 hp
          exact .inl ⟨q,hq,p,hp,rfl⟩)
        (fun p hp=>by
         rcases aka.1 hp with rfl|hp
         ·exact uq w _
         ·rw[iM w _ (Pi p hp).1];exact(Pi p hp).2)
        (fun b hb _=>iM w _ hb) (by rw[se];omega) rfl rfl rfl (qS.cM _ _) (xQ oc2) ha Ai
       refine⟨_,_,_,G2,_,?_,m2,r2,hv2,h⟩;have h24:¬ (2 ^ 24<len * i.size):=by rw[i3];omega
       have mF:=(hE e ei Ag).size w;have D5:(Array.range (len * ei.size)).map (zc[· % zc.size]!)=RP.toArray:=(Array.toArray_toList (xs:=(Array.range (len * ei.size)).map (zc[· % zc.size]!))).symm
       by_cases h0:len * ei.size=0
       ·have hzc:zc = #[]:=by simp[zc,h0]
        rw[hzc] at D5;simp only[Instr.buildSlice,aKa,aCa hu,aDa,mF,Sem.run_ite,aza (show ¬ (len * ei.size > 2 ^ 24) by omega),h0,aua,a8a]
        rw[h0] at D5;rw[D5];simp only[ND];simp[newRow,l1,B5,blk]
       ·have hzc:zc=zz.cells:=by simp[zc,h0]
        rw[hzc] at D5;simp only[Instr.buildSlice,aKa,aCa hu,aDa,mF,Sem.run_ite,aza (show ¬ (len * ei.size > 2 ^ 24) by omega),h0,aca,a8a,zeroValue,typeInfo,run_program,i1,i5]
        rw[D5];simp only[ND];simp[newRow,l1,B5,blk]
     ·cases h
 ·cases h
end ops
end Go.Fx
