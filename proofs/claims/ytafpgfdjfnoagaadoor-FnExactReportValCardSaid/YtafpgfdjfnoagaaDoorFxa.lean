/- Parts: Fx1, Fx2, Fx3, Fx4, Fx49, Fx5, Fx6, Fx7, Fx8, Fx9. -/
import Derived.Calls
import Derived.Orders
import Derived.KernelRfl
import Derived.Below
import Derived.Deep.MidRow
import Derived.Laws.AppendOwn
import Derived.Laws.MakeOwn
import Derived.Laws.Strings
import Derived.Tactics
import Derived.ChangeKeysEq
/- The framework, first text: typed data, how memory holds it, and the states of the abstract interpreter. -/
namespace Go.Fx

/-! ### Types and data -/
inductive Ty where
  | int (k : IntKind) | bool | str | slice (t : Ty) | pair (a b : Ty) | one (a : Ty) | arr (n : Nat) (t : Ty)

def Ty.beq : Ty → Ty → Bool
  | .int k, .int k' => decide (k = k')
  | .bool, .bool => true
  | .str, .str => true
  | .slice t, .slice u => t.beq u
  | .pair a b, .pair c d => a.beq c && b.beq d
  | .one a, .one b => a.beq b
  | .arr n a, .arr m b => Nat.beq n m && a.beq b
  | _, _ => false

theorem Ty.eq_of_beq : ∀ {t u : Ty}, t.beq u = true → t = u
  | .int k, u, h => by cases u <;> simp_all [Ty.beq]
  | .bool, u, h => by cases u <;> simp_all [Ty.beq]
  | .str, u, h => by cases u <;> simp_all [Ty.beq]
  | .slice t, u, h => by cases u <;> simp_all [Ty.beq]; exact Ty.eq_of_beq h
  | .pair a b, u, h => by cases u <;> simp_all [Ty.beq]; exact ⟨Ty.eq_of_beq h.1, Ty.eq_of_beq h.2⟩
  | .one a, u, h => by cases u <;> simp_all [Ty.beq]; exact Ty.eq_of_beq h
  | .arr n a, u, h => by cases u <;> simp_all [Ty.beq]; exact Ty.eq_of_beq h.2

abbrev Str := List UInt8
@[reducible] def Ty.den : Ty → Type
  | .int _ => Int | .bool => Bool | .str => Str | .slice t => List t.den | .pair a b => a.den × b.den | .one a => a.den | .arr _ t => List t.den

/-- The kinds of cells that are compared. -/
inductive Kd where
  | int (k : IntKind) | bool | str
def kindsT : Ty → Option (List Kd)
  | .int k => some [.int k]
  | .bool => some [.bool]
  | .str => some [.str]
  | .pair a b => (match kindsT a, kindsT b with | some x, some y => some (x ++ y) | _, _ => none)
  | .one a => kindsT a
  | _ => none

/-- How many cells a value of the type has. -/
def Ty.size : Ty → Nat
  | .pair a b => a.size + b.size | .one a => a.size | .arr n t => n * t.size | _ => 1
def Ty.agg : Ty → Bool
  | .pair _ _ => true | .one _ => true | .arr _ _ => true | _ => false

def cast? (t u : Ty) (d : t.den) : Option u.den :=
  if h : t.beq u = true then some (cast (congrArg Ty.den (Ty.eq_of_beq h)) d) else none

theorem cast?_some {t u : Ty} {d : t.den} {x : u.den} (h : cast? t u d = some x) : ∃ e : t = u, x = e ▸ d := by
  unfold cast? at h
  split at h
  · rename_i hb
    have e := Ty.eq_of_beq hb
    subst e
    exact ⟨rfl, (Option.some.inj h).symm⟩
  · cases h

/-! ### How memory holds data -/
abbrev Heap := List (Nat × Obj)
abbrev Mem := Nat → Option Obj

def RepL {α : Type} (R : List Value → α → Heap → Prop) : List Value → List α → Heap → Prop
  | cs, [], H => cs = [] ∧ H = []
  | cs, x :: l, H => ∃ c1 c2 H1 H2, cs = c1 ++ c2 ∧ H = H1 ++ H2 ∧ R c1 x H1 ∧ RepL R c2 l H2

def strV (s : Str) : Value := .string ⟨s.toArray⟩

def ShBody {α : Type} (S : Mem) (RL : List Value → List α → Heap → Prop) (cs : List Value) (l : List α) (H : Heap) : Prop :=
  H = [] ∧ ((l = [] ∧ ∃ base cap, cs = [.slice base 0 cap]) ∨
    ∃ b cap arr elem fz pre cells rest, cs = [.slice (some ⟨b, pre.length, none⟩) l.length cap] ∧ S b = some (.cells arr elem fz) ∧
      arr.toList = pre ++ (cells ++ rest) ∧ RL cells l [] ∧ l.length ≤ cap)

def OwnBody {α : Type} (RL : List Value → List α → Heap → Prop) (sz : Nat) (cs : List Value) (l : List α) (H : Heap) : Prop :=
  (l = [] ∧ H = [] ∧ cs = [.slice none 0 0]) ∨
    ∃ b cap arr elem cells rest H', cs = [.slice (some ⟨b, 0, none⟩) l.length cap] ∧ H = (b, Obj.cells arr elem (0, 0)) :: H' ∧
      arr.toList = cells ++ rest ∧ cap * sz ≤ arr.size ∧ l.length ≤ cap ∧ RL cells l H'

def Rep (S : Mem) (m : Bool) : (t : Ty) → List Value → t.den → Heap → Prop
  | .int k, cs, d, H => cs = [.int k d] ∧ H = []
  | .bool, cs, d, H => cs = [.bool d] ∧ H = []
  | .str, cs, d, H => cs = [strV d] ∧ H = []
  | .slice t, cs, l, H => if m = true then OwnBody (RepL (Rep S m t)) t.size cs l H else ShBody S (RepL (Rep S m t)) cs l H
  | .pair a b, cs, d, H => ∃ c1 c2 H1 H2, cs = c1 ++ c2 ∧ H = H1 ++ H2 ∧ Rep S m a c1 d.1 H1 ∧ Rep S m b c2 d.2 H2
  | .one a, cs, d, H => Rep S m a cs d H
  | .arr n t, cs, l, H => RepL (Rep S m t) cs l H ∧ l.length = n

section RepL
variable {α : Type} {R R' : List Value → α → Heap → Prop}

theorem RepL.imp (h : ∀ c x H, R c x H → R' c x H) : ∀ {cs : List Value} {l : List α} {H : Heap}, RepL R cs l H → RepL R' cs l H
  | _, [], _, hh => hh
  | _, _ :: _, _, ⟨c1, c2, H1, H2, e1, e2, r, rl⟩ => ⟨c1, c2, H1, H2, e1, e2, h _ _ _ r, RepL.imp h rl⟩

theorem RepL.size {n : Nat} (hn : ∀ c x H, R c x H → c.length = n) : ∀ {cs : List Value} {l : List α} {H : Heap}, RepL R cs l H → cs.length = l.length * n
  | _, [], _, hh => by rw [hh.1]; simp
  | _, _ :: _, _, ⟨c1, c2, H1, H2, e1, e2, r, rl⟩ => by
    have := hn _ _ _ r; have := RepL.size hn rl
    rw [e1, List.length_append, List.length_cons, Nat.add_mul]; omega

theorem RepL.append : ∀ {cs cs' : List Value} {l l' : List α} {H H' : Heap}, RepL R cs l H → RepL R cs' l' H' → RepL R (cs ++ cs') (l ++ l') (H ++ H')
  | _, cs', [], l', _, H', hh, hh' => by obtain ⟨rfl, rfl⟩ := hh; exact hh'
  | _, cs', _ :: _, l', _, H', ⟨c1, c2, H1, H2, e1, e2, r, rl⟩, hh' =>
    ⟨c1, c2 ++ cs', H1, H2 ++ H', by rw [e1, List.append_assoc], by rw [e2, List.append_assoc], r, RepL.append rl hh'⟩

/-- The part of one element, and the whole with another element there. -/
theorem RepL.at {n : Nat} (hn : ∀ c x H, R c x H → c.length = n) : ∀ {cs : List Value} {l : List α} {H : Heap} {i : Nat} {x : α}, RepL R cs l H → l[i]? = some x →
    ∃ pre c post Hp Hc Hq, cs = pre ++ (c ++ post) ∧ pre.length = i * n ∧ H = Hp ++ (Hc ++ Hq) ∧ R c x Hc ∧
      ∀ c' x' Hc', R c' x' Hc' → RepL R (pre ++ (c' ++ post)) (l.set i x') (Hp ++ (Hc' ++ Hq))
  | _, [], _, i, x, _, hi => by simp at hi
  | _, y :: l, _, 0, x, ⟨c1, c2, H1, H2, e1, e2, r, rl⟩, hi => by
    obtain rfl : y = x := by simpa using hi
    exact ⟨[], c1, c2, [], H1, H2, e1, by simp, e2, r, fun c' x' Hc' r' => ⟨c', c2, Hc', H2, rfl, rfl, r', rl⟩⟩
  | _, y :: l, _, i + 1, x, ⟨c1, c2, H1, H2, e1, e2, r, rl⟩, hi => by
    obtain ⟨pre, c, post, Hp, Hc, Hq, f1, f2, f3, f4, f5⟩ := RepL.at hn rl (by simpa using hi)
    refine ⟨c1 ++ pre, c, post, H1 ++ Hp, Hc, Hq, ?_, ?_, ?_, f4, fun c' x' Hc' r' => ?_⟩
    · rw [e1, f1, List.append_assoc]
    · have := hn _ _ _ r; rw [List.length_append, f2, Nat.add_mul]; omega
    · rw [e2, f3, List.append_assoc]
    · exact ⟨c1, _, H1, _, by rw [List.append_assoc], by rw [List.append_assoc], r, f5 _ _ _ r'⟩

theorem RepL.split {n : Nat} (hn : ∀ c x H, R c x H → c.length = n) : ∀ {k : Nat} {cs : List Value} {l : List α} {H : Heap}, RepL R cs l H → k ≤ l.length →
    ∃ c1 c2 H1 H2, cs = c1 ++ c2 ∧ H = H1 ++ H2 ∧ c1.length = k * n ∧ RepL R c1 (l.take k) H1 ∧ RepL R c2 (l.drop k) H2
  | 0, cs, l, H, h, _ => ⟨[], cs, [], H, rfl, rfl, by simp, ⟨rfl, rfl⟩, h⟩
  | k + 1, _, [], _, _, hk => by simp at hk
  | k + 1, _, y :: l, _, ⟨c1, c2, H1, H2, e1, e2, r, rl⟩, hk => by
    obtain ⟨d1, d2, K1, K2, f1, f2, f3, f4, f5⟩ := RepL.split hn rl (k := k) (by simpa using hk)
    refine ⟨c1 ++ d1, d2, H1 ++ K1, K2, by rw [e1, f1, List.append_assoc], by rw [e2, f2, List.append_assoc], ?_, ⟨c1, d1, H1, K1, rfl, rfl, r, f4⟩, f5⟩
    have := hn _ _ _ r; rw [List.length_append, f3, Nat.add_mul]; omega

theorem RepL.noHeap (hR : ∀ c x H, R c x H → H = []) : ∀ {cs : List Value} {l : List α} {H : Heap}, RepL R cs l H → H = []
  | _, [], _, h => h.2
  | _, _ :: _, _, ⟨c1, c2, H1, H2, e1, e2, r, rl⟩ => by rw [e2, hR _ _ _ r, RepL.noHeap hR rl]; rfl

theorem RepL.nil_right : ∀ {cs : List Value} {l : List α} {H : Heap}, RepL R cs l H → H = [] → RepL R cs l []
  | _, _, _, h, e => e ▸ h
end RepL

theorem Rep.size {S : Mem} {m : Bool} : ∀ {t : Ty} {cs : List Value} {d : t.den} {H : Heap}, Rep S m t cs d H → cs.length = t.size
  | .int _, _, _, _, h => by rw [h.1]; rfl
  | .bool, _, _, _, h => by rw [h.1]; rfl
  | .str, _, _, _, h => by rw [h.1]; rfl
  | .slice t, cs, l, H, h => by
    simp only [Rep] at h
    split at h
    · rcases h with ⟨_, _, rfl⟩ | ⟨b, cap, arr, elem, cells, rest, H', rfl, _⟩ <;> rfl
    · rcases h with ⟨_, ⟨_, base, cap, rfl⟩ | ⟨b, cap, arr, elem, fz, pre, cells, rest, rfl, _⟩⟩ <;> rfl
  | .pair a b, cs, d, H, h => by
    obtain ⟨c1, c2, H1, H2, rfl, rfl, h1, h2⟩ := h
    have := Rep.size h1; have := Rep.size h2
    simp only [Ty.size, List.length_append]; omega
  | .one a, cs, d, H, h => by exact Rep.size (t := a) h
  | .arr n t, cs, l, H, h => by
    have := RepL.size (n := t.size) (fun c x H hx => Rep.size hx) h.1
    rw [this, h.2]; rfl

theorem Rep.mono {S S' : Mem} (hS : ∀ b o, S b = some o → S' b = some o) {m : Bool} : ∀ {t : Ty} {cs : List Value} {d : t.den} {H : Heap}, Rep S m t cs d H → Rep S' m t cs d H
  | .int _, _, _, _, h => h
  | .bool, _, _, _, h => h
  | .str, _, _, _, h => h
  | .slice t, cs, l, H, h => by
    have ih : ∀ c x H, Rep S m t c x H → Rep S' m t c x H := fun c x H h => Rep.mono hS h
    cases m with
    | true =>
      rcases h with h | ⟨b, cap, arr, elem, cells, rest, H', e1, e2, e3, e4, e5, e6⟩
      · exact .inl h
      · exact .inr ⟨b, cap, arr, elem, cells, rest, H', e1, e2, e3, e4, e5, e6.imp ih⟩
    | false =>
      rcases h with ⟨hH, h | ⟨b, cap, arr, elem, fz, pre, cells, rest, e1, e2, e3, e4, elc⟩⟩
      · exact ⟨hH, .inl h⟩
      · exact ⟨hH, .inr ⟨b, cap, arr, elem, fz, pre, cells, rest, e1, hS _ _ e2, e3, e4.imp ih, elc⟩⟩
  | .pair a b, cs, d, H, h => by
    obtain ⟨c1, c2, H1, H2, rfl, rfl, h1, h2⟩ := h
    exact ⟨c1, c2, H1, H2, rfl, rfl, h1.mono hS, h2.mono hS⟩
  | .one a, cs, d, H, h => by exact Rep.mono (t := a) hS h
  | .arr n t, cs, l, H, h => ⟨RepL.imp (fun c x H hx => Rep.mono hS hx) h.1, h.2⟩

theorem Rep.noHeap {S : Mem} : ∀ {t : Ty} {cs : List Value} {d : t.den} {H : Heap}, Rep S false t cs d H → H = []
  | .int _, _, _, _, h => h.2
  | .bool, _, _, _, h => h.2
  | .str, _, _, _, h => h.2
  | .slice t, _, _, _, h => h.1
  | .pair a b, _, _, _, h => by
    obtain ⟨c1, c2, H1, H2, rfl, rfl, h1, h2⟩ := h
    rw [Rep.noHeap h1, Rep.noHeap h2]; rfl
  | .one a, _, _, _, h => by exact Rep.noHeap (t := a) h
  | .arr n t, cs, l, H, h => RepL.noHeap (fun c x H hx => Rep.noHeap hx) h.1

theorem RepL.share {α : Type} {R R' : List Value → α → Heap → Prop} {S' : Mem} (h : ∀ c x H, (∀ p ∈ H, S' p.1 = some p.2) → R c x H → R' c x []) :
    ∀ {cs : List Value} {l : List α} {H : Heap}, (∀ p ∈ H, S' p.1 = some p.2) → RepL R cs l H → RepL R' cs l []
  | _, [], _, _, hh => ⟨hh.1, rfl⟩
  | _, _ :: _, _, hp, ⟨c1, c2, H1, H2, e1, e2, r, rl⟩ =>
    ⟨c1, c2, [], [], e1, rfl, h _ _ _ (fun p hm => hp p (by rw [e2]; exact List.mem_append_left _ hm)) r,
      RepL.share h (fun p hm => hp p (by rw [e2]; exact List.mem_append_right _ hm)) rl⟩

/-- What was owned is given away: it is read in shared memory from now on. -/
theorem Rep.share {S S' : Mem} (hS : ∀ b o, S b = some o → S' b = some o) : ∀ {m : Bool} {t : Ty} {cs : List Value} {d : t.den} {H : Heap},
    (∀ p ∈ H, S' p.1 = some p.2) → Rep S m t cs d H → Rep S' false t cs d []
  | _, .int _, _, _, _, _, h => ⟨h.1, rfl⟩
  | _, .bool, _, _, _, _, h => ⟨h.1, rfl⟩
  | _, .str, _, _, _, _, h => ⟨h.1, rfl⟩
  | m, .slice t, cs, l, H, hp, h => by
    have ih : ∀ c x H, (∀ p ∈ H, S' p.1 = some p.2) → Rep S m t c x H → Rep S' false t c x [] := fun c x H hp h => Rep.share hS hp h
    cases m with
    | true =>
      rcases h with ⟨rfl, rfl, rfl⟩ | ⟨b, cap, arr, elem, cells, rest, H', rfl, rfl, e3, e4, e5, e6⟩
      · exact ⟨rfl, .inl ⟨rfl, none, 0, rfl⟩⟩
      · exact ⟨rfl, .inr ⟨b, cap, arr, elem, (0, 0), [], cells, rest, rfl, hp (b, Obj.cells arr elem (0, 0)) (List.mem_cons_self ..), e3,
          e6.share ih (fun p hm => hp p (List.mem_cons_of_mem _ hm)), e5⟩⟩
    | false =>
      rcases h with ⟨rfl, h | ⟨b, cap, arr, elem, fz, pre, cells, rest, e1, e2, e3, e4, elc⟩⟩
      · exact ⟨rfl, .inl h⟩
      · exact ⟨rfl, .inr ⟨b, cap, arr, elem, fz, pre, cells, rest, e1, hS _ _ e2, e3, e4.share ih (by simp), elc⟩⟩
  | m, .pair a b, cs, d, H, hp, h => by
    obtain ⟨c1, c2, H1, H2, rfl, rfl, h1, h2⟩ := h
    exact ⟨c1, c2, [], [], rfl, rfl, h1.share hS (fun p hm => hp p (List.mem_append_left _ hm)), h2.share hS (fun p hm => hp p (List.mem_append_right _ hm))⟩
  | m, .one a, cs, d, H, hp, h => by exact Rep.share (t := a) hS hp h
  | m, .arr n t, cs, l, H, hp, h => ⟨h.1.share (fun c x H hp hx => Rep.share hS hp hx) hp, h.2⟩

end Go.Fx

/- The framework, second text: the abstract states, and the abstract interpreter of the model's code. Definitions alone. -/
namespace Go.Fx

/-! ### Small operations that may fail of the printed functions -/
def idx {α : Type} (l : List α) (i : Int) : Option α := bif decide (0 ≤ i) then l[i.toNat]? else none
def sub {α : Type} (l : List α) (i j : Int) : Option (List α) :=
  bif decide (0 ≤ i) && decide (i ≤ j) && decide (j ≤ (l.length : Int)) then some ((l.take j.toNat).drop i.toNat) else none
def app {α : Type} (l m : List α) : Option (List α) := bif decide (l.length + m.length ≤ 4294967296) then some (l ++ m) else none
def mkl {α : Type} (n : Int) (x : α) : Option (List α) := bif decide (0 ≤ n) && decide (n ≤ 4294967296) then some (List.replicate n.toNat x) else none
abbrev w64 (x : Int) : Int := IntKind.i64.wrap x
def bitop (op : BinOp) (k : IntKind) (x y : Int) : Int :=
  k.wrap (match op with
    | .and => (BitVec.ofInt k.bits x &&& BitVec.ofInt k.bits y).toNat
    | .or => (BitVec.ofInt k.bits x ||| BitVec.ofInt k.bits y).toNat
    | .xor => (BitVec.ofInt k.bits x ^^^ BitVec.ofInt k.bits y).toNat
    | _ => 0)

/-! ### Abstract values and states -/
inductive Leaf where
  | any | und | bas
  | dat (t : Ty) (d : t.den)
  | nil | nilp
  | hdl (a : Nat)
  | ptr (o off : Nat)
  | elt (a sz i off : Nat)
  | she (t : Ty) (d : t.den) (off : Nat)
  | fn (f : FuncId)
  | ga (t : Ty) (l : List t.den)

inductive AVal where
  | one (l : Leaf) | agg (ls : List Leaf) | tup (vs : List (Bool × List Leaf)) | ifc (t : TypeId) (ls : List Leaf)

/-- Flat: what the elements point to is shared; deep: it is owned as well; lent: the i-th element is an object of its own; mp: a map's entries. -/
inductive Md where
  | flat | deep | lent (i o : Nat) | mp
structure Arr where
  t : Ty
  md : Md
  sh : Bool
  l : List t.den
def Arr.deep (A : Arr) : Bool := match A.md with | .flat => false | _ => true
/-- Whether it can be given away as it is. -/
def Arr.own (A : Arr) : Bool := match A.md with | .flat => true | .deep => true | _ => false
def Arr.lentTo (x : Nat) (A : Arr) : Bool := match A.md with | .lent _ o => Nat.beq o x | _ => false
def Arr.isMp (A : Arr) : Bool := match A.md with | .mp => true | _ => false

/-- A state: what can change (registers, objects, arrays), and behind it what stays as it is (`b..`). -/
structure St where
  n : Nat
  regs : List (Nat × AVal)
  objs : List (Nat × List Leaf)
  arrs : List (Nat × Arr)
  bregs : List (Nat × AVal)
  bleaves : List (Nat × Nat × Leaf)
  barrs : List (Nat × Arr)

def look {α : Type} : List (Nat × α) → Nat → Option α
  | [], _ => none
  | (k, v) :: r, i => bif Nat.beq k i then some v else look r i
def lookL : List (Nat × Nat × Leaf) → Nat → Nat → Option Leaf
  | [], _, _ => none
  | (o, j, l) :: r, o', j' => bif Nat.beq o o' && Nat.beq j j' then some l else lookL r o' j'
def del {α : Type} : List (Nat × α) → Nat → List (Nat × α)
  | [], _ => []
  | (k, v) :: r, i => bif Nat.beq k i then del r i else (k, v) :: del r i

def St.reg (st : St) (i : Nat) : Option AVal := (match look st.regs i with | some v => some v | none => look st.bregs i)
def St.obj (st : St) (o : Nat) : Option (List Leaf) := look st.objs o
def St.arr (st : St) (a : Nat) : Option Arr := (match look st.arrs a with | some v => some v | none => look st.barrs a)
/-- A leaf of an object, the unchanging ones looked up. -/
def St.res (st : St) (o j : Nat) : Leaf → Leaf
  | .bas => (match lookL st.bleaves o j with | some l => l | none => .any)
  | l => l
def St.resl (st : St) (o : Nat) : Nat → List Leaf → List Leaf
  | _, [] => []
  | j, l :: r => st.res o j l :: St.resl st o (j + 1) r
def St.setReg (st : St) (i : Nat) (v : AVal) : St := { st with regs := (i, v) :: st.regs }
def St.setObj (st : St) (o : Nat) (ls : List Leaf) : St := { st with objs := (o, ls) :: st.objs }
def St.setArr (st : St) (a : Nat) (A : Arr) : St := { st with arrs := (a, A) :: st.arrs }

/-- Whether a leaf names an array (`true`) or an object. -/
def Leaf.ment (k : Bool) (x : Nat) : Leaf → Bool
  | .hdl a => k && Nat.beq a x
  | .elt a _ _ _ => k && Nat.beq a x
  | .ptr o _ => !k && Nat.beq o x
  | _ => false
def AVal.ment (k : Bool) (x : Nat) : AVal → Bool
  | .one l => l.ment k x
  | .agg ls => ls.any (Leaf.ment k x)
  | .tup vs => vs.any fun p => p.2.any (Leaf.ment k x)
  | .ifc _ ls => ls.any (Leaf.ment k x)
/-- No place of the state names it. -/
def St.ment (st : St) (k : Bool) (x : Nat) : Bool :=
  st.regs.any (fun p => p.2.ment k x) || st.bregs.any (fun p => p.2.ment k x) || st.objs.any (fun p => p.2.any (Leaf.ment k x)) || st.bleaves.any (fun p => p.2.2.ment k x) ||
    (!k && (st.arrs.any (fun p => p.2.lentTo x) || st.barrs.any (fun p => p.2.lentTo x)))

def AVal.leaf : AVal → Leaf
  | .one l => l
  | _ => .any

/-- The cells of a datum, each a leaf. -/
def explode : (t : Ty) → t.den → List Leaf
  | .int k, d => [.dat (.int k) d]
  | .bool, d => [.dat .bool d]
  | .str, d => [.dat .str d]
  | .slice t, d => [.dat (.slice t) d]
  | .pair a b, d => explode a d.1 ++ explode b d.2
  | .one a, d => explode a d
  | .arr _ t, l => l.flatMap (explode t)

def Leaf.get (st : St) (t : Ty) : Leaf → Option t.den
  | .dat u d => cast? u t d
  | .nil => (match t with | .slice _ => some [] | _ => none)
  | .hdl a => (match st.arr a with | some A => (if A.sh then cast? (.slice A.t) t A.l else none) | none => none)
  | _ => none

def implN {α : Type} (f : List Leaf → Option (α × List Leaf)) : Nat → List Leaf → Option (List α × List Leaf)
  | 0, ls => some ([], ls)
  | n + 1, ls => (match f ls with
    | some (x, r) => (match implN f n r with | some (xs, r') => some (x :: xs, r') | none => none)
    | none => none)
def implode (st : St) : (t : Ty) → List Leaf → Option (t.den × List Leaf)
  | .int k, ls => (match ls with | [] => none | l :: r => (l.get st (.int k)).map fun d => (d, r))
  | .bool, ls => (match ls with | [] => none | l :: r => (l.get st .bool).map fun d => (d, r))
  | .str, ls => (match ls with | [] => none | l :: r => (l.get st .str).map fun d => (d, r))
  | .slice t, ls => (match ls with | [] => none | l :: r => (l.get st (.slice t)).map fun d => (d, r))
  | .pair a b, ls => (match implode st a ls with
    | some (x, r) => (match implode st b r with | some (y, r') => some ((x, y), r') | none => none)
    | none => none)
  | .one a, ls => implode st a ls
  | .arr n t, ls => implN (implode st t) n ls

def AVal.get (st : St) (t : Ty) : AVal → Option t.den
  | .one l => l.get st t
  | .agg ls => (bif t.agg then (match implode st t ls with | some (d, []) => some d | _ => none) else none)
  | _ => none

/-- What one cell may be given. -/
def Leaf.cell : Leaf → Bool
  | .any => false
  | .und => false
  | .bas => false
  | .dat t _ => !t.agg
  | _ => true
def Leaf.isBas : Leaf → Bool
  | .bas => true
  | _ => false

/-- The leaves of a value that is stored: its cells. -/
def AVal.leaves : AVal → Option (List Leaf)
  | .one (.dat (.pair a b) d) => some (explode (.pair a b) d)
  | .one (.dat (.one a) d) => some (explode (.one a) d)
  | .one (.dat (.arr n a) d) => some (explode (.arr n a) d)
  | .one l => (bif l.cell then some [l] else none)
  | .agg ls => some ls
  | _ => none

/-- An owned array is given away: it is data from now on. -/
def St.share1 (st : St) : Leaf → Option St
  | .hdl a => (match look st.arrs a with
    | some A => (bif A.sh then some st else bif A.own then some (st.setArr a { A with sh := true }) else none)
    | none => (match look st.barrs a with | some A => (bif A.sh then some st else none) | none => none))
  | _ => some st
def St.shareL (st : St) : List Leaf → Option St
  | [] => some st
  | l :: r => (match st.share1 l with | some st' => st'.shareL r | none => none)
def AVal.shared (st : St) : AVal → Option St
  | .one l => st.share1 l
  | .agg ls => st.shareL ls
  | .tup _ => none
  | .ifc _ ls => st.shareL ls

def ofConst : Value → AVal
  | .int k n => .one (.dat (.int k) n)
  | .bool b => .one (.dat .bool b)
  | .string s => .one (.dat .str s.data.toList)
  | .slice none 0 0 => .one .nil
  | .pointer none => .one .nilp
  | _ => .one .any

/-- What a zero cell holds. -/
def zeroLeaf : Value → Leaf
  | .int k n => .dat (.int k) n
  | .bool b => .dat .bool b
  | .string s => .dat .str s.data.toList
  | .slice none 0 0 => .nil
  | .pointer none => .nilp
  | _ => .any

/-! ### What is known of the program -/
inductive TD where
  | int (k : IntKind) | bool | str | slice (e : TypeId) | struct (fs : List (Nat × TypeId)) | ptr (e : TypeId) | arr (n : Nat) (e : TypeId) | other
structure TI where
  size : Nat
  bytes : Nat
  ty : Option Ty
  desc : TD
  zero : List Value

/-- A part of the memory that a state tells of: cells of an object, an array. -/
inductive Pat where
  | o (ob off n : Nat) | a (ar : Nat)

structure CSem where
  run : {R : Type} → Nat → List AVal → St → (AVal → St → Option R) → (AVal → St → Option R) → Option R
  foot : List AVal → St → List Pat
structure LoopSem where
  run : {R : Type} → St → (Exit → St → Option R) → (AVal → St → Option R) → Option R

structure GA where
  t : Ty
  l : List t.den
structure Env where
  gt : Nat → Option GA
  tab : Nat → Option TI
  sem : Nat → Option CSem
  loops : Nat → Option LoopSem
  oname : Nat → Nat

def ev (E : Env) (st : St) : Operand → AVal
  | .tmp t => (match st.reg t with | some v => v | none => .one .any)
  | .const v => ofConst v
  | .func f => .one (.fn f)
  | .global g => (match E.gt g with | some D => .one (.ga D.t D.l) | none => .one .any)

def putK {R : Type} (dst : Option Tmp) (v : AVal) (st : St) (K : St → Option R) : Option R :=
  match dst with
  | none => K st
  | some d => bif (look st.bregs d).isSome || Nat.ble st.n d then none else K (st.setReg d v)

def slots (l : List Leaf) (off n : Nat) : Option (List Leaf) := bif Nat.ble (off + n) l.length then some ((l.drop off).take n) else none
def place {α : Type} (l : List α) (off : Nat) (v : List α) : List α := l.take off ++ (v ++ l.drop (off + v.length))

def packV (agg : Bool) (ls : List Leaf) : AVal := bif agg then .agg ls else (match ls with | [l] => .one l | _ => .one .any)
def TD.agg : TD → Bool
  | .struct _ => true
  | .arr _ _ => true
  | _ => false

/-! ### Structs compared -/
def lkOk : List Kd → List Leaf → Bool
  | [], [] => true
  | .int k :: r, .dat (.int k') _ :: s => decide (k = k') && lkOk r s
  | .bool :: r, .dat .bool _ :: s => lkOk r s
  | .str :: r, .dat .str _ :: s => lkOk r s
  | _, _ => false
def eqL1 : Leaf → Leaf → Option Bool
  | .dat (.int _) a, .dat (.int _) b => some (a == b)
  | .dat .bool a, .dat .bool b => some (a == b)
  | .dat .str a, .dat .str b => some (a == b)
  | _, _ => none
def eqLv : List Leaf → List Leaf → Option Bool
  | [x], [y] => eqL1 x y
  | x :: r, y :: s => (match eqL1 x y, eqLv r s with | some a, some b => some (a && b) | _, _ => none)
  | _, _ => none

/-! ### One operation -/
section exec
variable (E : Env) {R : Type}

def opLoad (T : TypeId) (x : AVal) (st : St) (K : AVal → St → Option R) : Option R :=
  match E.tab T with
  | none => none
  | some ti =>
    match x.leaf with
    | .ptr o off => (match st.obj o with
      | some ls => (match slots (st.resl o 0 ls) off ti.size with | some c => K (packV ti.desc.agg c) st | none => none)
      | none => none)
    | .she t d off => (match slots (explode t d) off ti.size with | some c => K (packV ti.desc.agg c) st | none => none)
    | .ga t l => (match ti.desc with
      | .arr n _ => (bif Nat.beq l.length n && Nat.beq ti.size (n * t.size) then K (.one (.dat (.arr n t) l)) st else none)
      | _ => none)
    | .elt a sz i off => (match st.arr a with
      | some A => (bif A.deep || A.sh || !Nat.beq sz A.t.size then none else (idx A.l (i : Int)).bind fun x => match slots (explode A.t x) off ti.size with | some c => K (packV ti.desc.agg c) st | none => none)
      | none => none)
    | _ => none

def opStore (T : TypeId) (x v : AVal) (st : St) (K : St → Option R) : Option R :=
  match E.tab T, v.leaves with
  | some ti, some vs =>
    bif Nat.beq vs.length ti.size && vs.all Leaf.cell then
      (match x.leaf with
      | .ptr o off => (match st.obj o with
        | some ls => (match slots ls off ti.size with
          | some c => (bif c.any Leaf.isBas then none else K (st.setObj o (place ls off vs)))
          | none => none)
        | none => none)
      | .elt a sz i off => (match st.shareL vs with
        | none => none
        | some st' => (match look st'.arrs a with
          | some A => (bif A.deep || A.sh || !Nat.beq sz A.t.size then none else
              (idx A.l (i : Int)).bind fun x => (bif Nat.ble (off + ti.size) A.t.size then (match implode st' A.t (place (explode A.t x) off vs) with
                | some (x', []) => K (st'.setArr a { A with l := A.l.set i x' })
                | _ => none) else none))
          | none => none))
      | _ => none)
    else none
  | _, _ => none

def opFieldAddr (T : TypeId) (x : AVal) (f : Nat) (st : St) (K : AVal → St → Option R) : Option R :=
  match E.tab T with
  | some { desc := .struct fs, .. } => (match fs[f]? with
    | some (foff, ft) => (match E.tab ft with
      | some fi => (bif Nat.beq fi.size 0 then none else match x.leaf with
        | .ptr o off => K (.one (.ptr o (off + foff))) st
        | .she t d off => K (.one (.she t d (off + foff))) st
        | .elt a sz i off => K (.one (.elt a sz i (off + foff))) st
        | _ => none)
      | none => none)
    | none => none)
  | _ => none

def opField (T : TypeId) (x : AVal) (f : Nat) (st : St) (K : AVal → St → Option R) : Option R :=
  match E.tab T, x.leaves with
  | some { desc := .struct fs, .. }, some ls => (match fs[f]? with
    | some (foff, ft) => (match E.tab ft with
      | some fi => (match slots ls foff fi.size with | some c => K (packV fi.desc.agg c) st | none => none)
      | none => none)
    | none => none)
  | _, _ => none

def AVal.isAgg : AVal → Bool
  | .agg _ => true
  | .one (.dat (.pair _ _) _) => true
  | .one (.dat (.one _) _) => true
  | .one (.dat (.arr _ _) _) => true
  | _ => false
def AVal.int? : AVal → Option (IntKind × Int)
  | .one (.dat (.int k) d) => some (k, d)
  | _ => none
def AVal.bool? : AVal → Option Bool
  | .one (.dat .bool d) => some d
  | _ => none
def AVal.str? : AVal → Option Str
  | .one (.dat .str d) => some d
  | _ => none

def opIndexAddr (T : TypeId) (x i : AVal) (st : St) (K : AVal → St → Option R) : Option R :=
  match E.tab T, i.int? with
  | some { desc := .slice e, .. }, some (_, n) => (match E.tab e with
    | some ei => (match x.leaf with
      | .dat (.slice t) l => (bif Nat.beq ei.size t.size then (idx l n).bind fun d => K (.one (.she t d 0)) st else none)
      | .hdl a => (match st.arr a with
        | some A => (bif Nat.beq ei.size A.t.size && !A.isMp then (idx A.l n).bind fun d => (bif A.sh then K (.one (.she A.t d 0)) st else K (.one (.elt a A.t.size n.toNat 0)) st) else none)
        | none => none)
      | _ => none)
    | none => none)
  | _, _ => none

def opIndex (T : TypeId) (x i : AVal) (st : St) (K : AVal → St → Option R) : Option R :=
  match E.tab T with
  | some { desc := .str, .. } => (match x.str?, i.int? with
    | some s, some (_, n) => (idx s n).bind fun b => K (.one (.dat (.int .u8) (b.toNat : Int))) st
    | _, _ => none)
  | some { desc := .arr m e, .. } => (match x, i.int?, E.tab e with
    | .one (.dat (.arr m' t) l), some (_, n), some ei => (bif Nat.beq m m' && Nat.beq ei.size t.size && (bif t.agg then ei.desc.agg else !ei.desc.agg) then (idx l n).bind fun d => K (.one (.dat t d)) st else none)
    | _, _, _ => none)
  | _ => none

def boundOf (d : Int) : Option AVal → Option Int
  | none => some d
  | some v => v.int?.map (·.2)

def opSlice (T : TypeId) (dst : Nat) (x : AVal) (lo hi mx : Option AVal) (st : St) (K : AVal → St → Option R) : Option R :=
  match E.tab T, mx with
  | some { desc := .str, .. }, none => (match x.str? with
    | some s => (match boundOf 0 lo, boundOf (s.length : Int) hi with
      | some i, some j => (sub s i j).bind fun r => K (.one (.dat .str r)) st
      | _, _ => none)
    | none => none)
  | some { desc := .slice e, .. }, none => (match E.tab e with
    | some ei => (match x.leaf with
      | .dat (.slice t) l => (bif Nat.beq ei.size t.size then (match boundOf 0 lo, boundOf (l.length : Int) hi with
        | some i, some j => (sub l i j).bind fun r => K (.one (.dat (.slice t) r)) st
        | _, _ => none) else none)
      | .hdl a => (match st.arr a with
        | some A => (bif Nat.beq ei.size A.t.size then
            (bif A.sh then (match boundOf 0 lo, boundOf (A.l.length : Int) hi with
              | some i, some j => (sub A.l i j).bind fun r => K (.one (.dat (.slice A.t) r)) st
              | _, _ => none)
            else (match lo, hi with
              | none, some h => (match h.int? with
                | some (_, j) => (bif A.deep || (look st.arrs a).isNone || (look st.barrs a).isSome || (st.arr dst).isSome || st.ment true dst then none else (sub A.l 0 j).bind fun r =>
                    K (.one (.hdl dst)) { st with arrs := (dst, { A with l := r }) :: del st.arrs a })
                | none => none)
              | _, _ => none)) else none)
        | none => none)
      | _ => none)
    | none => none)
  | _, _ => none

def opBin (op : BinOp) (T : TypeId) (x y : AVal) (K : AVal → Option R) : Option R :=
  match x, y with
  | .one (.dat (.int k) a), .one (.dat (.int k') b) =>
    (match op with
    | .shl => bif decide (b < 0) then none else K (.one (.dat (.int k) (k.wrap (a * 2 ^ (min b.toNat k.bits)))))
    | .shr => bif decide (b < 0) then none else K (.one (.dat (.int k) (a.fdiv (2 ^ (min b.toNat k.bits)))))
    | _ => bif !decide (k = k') then none else
      (match op with
      | .add => K (.one (.dat (.int k) (k.wrap (a + b))))
      | .sub => K (.one (.dat (.int k) (k.wrap (a - b))))
      | .mul => K (.one (.dat (.int k) (k.wrap (a * b))))
      | .quo => bif decide (b = 0) then none else K (.one (.dat (.int k) (k.wrap (a.tdiv b))))
      | .rem => bif decide (b = 0) then none else K (.one (.dat (.int k) (a.tmod b)))
      | .and => K (.one (.dat (.int k) (bitop .and k a b)))
      | .or => K (.one (.dat (.int k) (bitop .or k a b)))
      | .xor => K (.one (.dat (.int k) (bitop .xor k a b)))
      | .eql => K (.one (.dat .bool (a == b)))
      | .neq => K (.one (.dat .bool (a != b)))
      | .lss => K (.one (.dat .bool (decide (a < b))))
      | .leq => K (.one (.dat .bool (decide (a ≤ b))))
      | .gtr => K (.one (.dat .bool (decide (a > b))))
      | .geq => K (.one (.dat .bool (decide (a ≥ b))))
      | _ => none))
  | .one (.dat .str a), .one (.dat .str b) =>
    (match op with
    | .add => (app a b).bind fun c => K (.one (.dat .str c))
    | .eql => K (.one (.dat .bool (a == b)))
    | .neq => K (.one (.dat .bool (!(a == b))))
    | _ => none)
  | .one (.dat .bool a), .one (.dat .bool b) =>
    (match E.tab T, op with
    | some { desc := .bool, .. }, .eql => K (.one (.dat .bool (a == b)))
    | some { desc := .bool, .. }, .neq => K (.one (.dat .bool (!(a == b))))
    | _, _ => none)
  | x, y => (match E.tab T, x.leaves, y.leaves with
    | some ti, some ls, some ms => (match ti.ty.bind kindsT with
      | some ks => (bif ti.desc.agg && x.isAgg && y.isAgg && lkOk ks ls && lkOk ks ms then (match op, eqLv ls ms with
        | .eql, some e => K (.one (.dat .bool e))
        | .neq, some e => K (.one (.dat .bool (!e)))
        | _, _ => none) else none)
      | none => none)
    | _, _, _ => none)

def opUn (op : UnOp) (x : AVal) (K : AVal → Option R) : Option R :=
  match op, x with
  | .neg, .one (.dat (.int k) a) => K (.one (.dat (.int k) (k.wrap (0 - a))))
  | .not, .one (.dat .bool b) => K (.one (.dat .bool (!b)))
  | _, _ => none

def opConvert (S D : TypeId) (x : AVal) (st : St) (K : AVal → St → Option R) : Option R :=
  match E.tab S, E.tab D with
  | some si, some di => (match si.desc, di.desc, x with
    | _, .int k, .one (.dat (.int _) n) => K (.one (.dat (.int k) (k.wrap n))) st
    | .str, .str, .one (.dat .str s) => K (.one (.dat .str s)) st
    | .slice e, .str, .one l => (match E.tab e, l with
      | some { desc := .int .u8, .. }, .dat (.slice (.int .u8)) l => K (.one (.dat .str (l.map fun n => UInt8.ofNat n.toNat))) st
      | some { desc := .int .u8, .. }, .hdl a => (match st.arr a with
        | some A => (bif A.sh || A.own then (match cast? (.slice A.t) (.slice (.int .u8)) A.l with
          | some l => K (.one (.dat .str (l.map fun n => UInt8.ofNat n.toNat))) st
          | none => none) else none)
        | none => none)
      | _, _ => none)
    | _, _, _ => none)
  | _, _ => none

def buildParts (fs : List (Nat × TypeId)) (zs : List Leaf) : List (Nat × AVal) → Option (List Leaf)
  | [] => some zs
  | (i, v) :: r => (match fs[i]?, v.leaves with
    | some (off, t), some ls => (match E.tab t with
      | some ti => (bif Nat.beq ls.length ti.size && Nat.ble (off + ls.length) zs.length then buildParts fs (place zs off ls) r else none)
      | none => none)
    | _, _ => none)

def opBuild (T : TypeId) (parts : List (Nat × AVal)) (st : St) (K : AVal → St → Option R) : Option R :=
  match E.tab T with
  | some ti => (match ti.desc with
    | .struct fs => (bif fs.all fun p => (E.tab p.2).isSome then (match buildParts E fs (ti.zero.map zeroLeaf) parts with | some ls => K (.agg ls) st | none => none) else none)
    | _ => none)
  | none => none

/-- The elements of a slice that is written out, in order. -/
def sliceParts (t : Ty) : Nat → List (Nat × AVal) → St → Option (List t.den × St)
  | _, [], st => some ([], st)
  | i, (j, v) :: r, st => bif Nat.beq i j then (match v.shared st with
      | some st' => (match v.get st' t with
        | some d => (match sliceParts t (i + 1) r st' with | some (l, st'') => some (d :: l, st'') | none => none)
        | none => none)
      | none => none) else none

def opBuildSlice (T : TypeId) (dst len : Nat) (parts : List (Nat × AVal)) (st : St) (K : AVal → St → Option R) : Option R :=
  match E.tab T with
  | some { desc := .slice e, .. } => (match E.tab e with
    | some ei => (match ei.ty with
      | some t => (bif Nat.beq len parts.length && Nat.beq ei.size t.size && Nat.ble (len * ei.size) 16777216 then
          (match sliceParts t 0 parts st with
          | some (l, st') => (match st'.arr dst with
            | none => (bif st'.ment true dst then none else K (.one (.hdl dst)) (st'.setArr dst ⟨t, .flat, false, l⟩))
            | some _ => none)
          | none => none) else none)
      | none => none)
    | none => none)
  | _ => none

def zeroOf : (t : Ty) → t.den
  | .int _ => 0 | .bool => false | .str => [] | .slice _ => [] | .pair a b => (zeroOf a, zeroOf b) | .one a => zeroOf a | .arr n t => List.replicate n (zeroOf t)
def chkN (f : List Value → Option (List Value)) : Nat → List Value → Option (List Value)
  | 0, l => some l
  | n + 1, l => (match f l with | some r => chkN f n r | none => none)

/-- The zero cells of a type, and what is left. -/
def zchk : (t : Ty) → List Value → Option (List Value)
  | .int k, .int k' n :: r => bif decide (k = k') && decide (n = 0) then some r else none
  | .bool, .bool false :: r => some r
  | .str, .string s :: r => (match s.data.toList with | [] => some r | _ => none)
  | .slice _, .slice none 0 0 :: r => some r
  | .pair a b, l => (match zchk a l with | some r => zchk b r | none => none)
  | .one a, l => zchk a l
  | .arr n t, l => chkN (zchk t) n l
  | _, _ => none

def opMakeSlice (T : TypeId) (dst : Nat) (len cap : AVal) (st : St) (K : AVal → St → Option R) : Option R :=
  match E.tab T, len.int?, cap.int? with
  | some { desc := .slice e, .. }, some (.i64, n), some (.i64, c) => (match E.tab e with
    | some ei => (match ei.ty, st.arr dst with
      | some t, none => (bif Nat.beq ei.size t.size && Nat.ble ei.bytes 16384 && !st.ment true dst && (match zchk t ei.zero with | some [] => true | _ => false) then
          (mkl c (zeroOf t)).bind fun z => (sub z 0 n).bind fun l => K (.one (.hdl dst)) (st.setArr dst ⟨t, .flat, false, l⟩) else none)
      | _, _ => none)
    | none => none)
  | _, _, _ => none

/-- An object is made: a variable of its own. -/
def opNew (T : TypeId) (o : Nat) (ls : List Leaf) (st : St) (K : AVal → St → Option R) : Option R :=
  match E.tab T, st.obj o with
  | some ti, none => (bif Nat.beq ls.length ti.size && !ls.any Leaf.isBas && !st.ment false o && !ls.any (Leaf.ment false o) then K (.one (.ptr o 0)) (st.setObj o ls) else none)
  | _, _ => none

def lenOf (st : St) : Leaf → Option Int
  | .dat .str s => some (s.length : Int)
  | .dat (.slice _) l => some (l.length : Int)
  | .nil => some 0
  | .hdl a => (match st.arr a with | some A => (bif A.isMp then none else some (A.l.length : Int)) | none => none)
  | _ => none

def opAppend (T : TypeId) (dst : Nat) (s x : AVal) (st : St) (K : AVal → St → Option R) : Option R :=
  match E.tab T with
  | some { desc := .slice e, .. } => (match E.tab e with
    | some ei => (match ei.ty with
      | none => none
      | some t => (bif Nat.beq ei.size t.size && Nat.ble ei.bytes 16384 then
        (match x.shared st with
        | none => none
        | some st1 => (match x.get st1 (.slice t), st1.arr dst with
          | some m, none => (bif st1.ment true dst then none else match s.leaf with
            | .nil => (app ([] : List t.den) m).bind fun r => K (.one (.hdl dst)) (st1.setArr dst ⟨t, .flat, false, r⟩)
            | .hdl a => (match look st1.arrs a with
              | some A => (bif A.sh || A.deep || (look st1.barrs a).isSome then none else
                (match cast? (.slice A.t) (.slice t) A.l with
                | some l => (app l m).bind fun r => K (.one (.hdl dst)) { st1 with arrs := (dst, ⟨t, .flat, false, r⟩) :: del st1.arrs a }
                | none => none))
              | none => none)
            | _ => none)
          | _, _ => none)) else none))
    | none => none)
  | _ => none

def foldInt (k : IntKind) (f : Int → Int → Int) (a : Int) : List AVal → Option Int
  | [] => some a
  | v :: r => (match v.int? with | some (_, b) => foldInt k f (f a b) r | none => none)

def opBuiltin (b : Builtin) (dst : Nat) (argTypes : List TypeId) (vs : List AVal) (st : St) (K : AVal → St → Option R) : Option R :=
  match b, vs with
  | .len, [v] => (match (argTypes[0]?).bind E.tab with
    | some { desc := .str, .. } => (match v.str? with | some s => K (.one (.dat (.int .i64) (s.length : Int))) st | none => none)
    | some { desc := .slice _, .. } => (match lenOf st v.leaf, v.str? with | some n, none => K (.one (.dat (.int .i64) n)) st | _, _ => none)
    | _ => none)
  | .append, [s, x] => (match argTypes with
    | [t, u] => (bif Nat.beq t u then opAppend E t dst s x st K else none)
    | _ => none)
  | .min, v :: r => (match v.int? with
    | some (k, a) => (match foldInt k (fun x y => bif decide (y < x) then y else x) a r with | some n => K (.one (.dat (.int k) n)) st | none => none)
    | none => none)
  | .max, v :: r => (match v.int? with
    | some (k, a) => (match foldInt k (fun x y => bif decide (y > x) then y else x) a r with | some n => K (.one (.dat (.int k) n)) st | none => none)
    | none => none)
  | _, _ => none

def dstN : Option Tmp → Nat
  | some d => d
  | none => 0

/-- One operation: `K` where it yields a value, `KP` where it panics. -/
def exec1 (o : Oper) (st : St) (K : AVal → St → Option R) (KP : AVal → St → Option R) : Option R :=
  match o.op with
  | .move x => K (ev E st x) st
  | .assign x => K (ev E st x) st
  | .pick c a b => (match (ev E st c).bool? with | some c => bif c then K (ev E st a) st else K (ev E st b) st | none => none)
  | .nilCheck x => (match (ev E st x).leaf with
    | .ptr _ _ => K (ev E st x) st
    | .she _ _ _ => K (ev E st x) st
    | .elt _ _ _ _ => K (ev E st x) st
    | _ => none)
  | .alloc T => (match E.tab T with | some ti => opNew E T (E.oname (dstN o.dst)) (ti.zero.map zeroLeaf) st K | none => none)
  | .box T x => (match (ev E st x).leaves with | some ls => opNew E T (E.oname (dstN o.dst)) ls st K | none => none)
  | .build T parts => opBuild E T (parts.toList.map fun p => (p.1, ev E st p.2)) st K
  | .buildSlice T len parts => opBuildSlice E T (dstN o.dst) len (parts.toList.map fun p => (p.1, ev E st p.2)) st K
  | .load T x => opLoad E T (ev E st x) st K
  | .store T x v => opStore E T (ev E st x) (ev E st v) st fun st' => K (.one .und) st'
  | .binOp op T x y _ => opBin E op T (ev E st x) (ev E st y) fun v => K v st
  | .unOp op _ x => opUn op (ev E st x) fun v => K v st
  | .convert S D x => opConvert E S D (ev E st x) st K
  | .makeSlice T l c => opMakeSlice E T (dstN o.dst) (ev E st l) (ev E st c) st K
  | .slice T x lo hi mx => opSlice E T (dstN o.dst) (ev E st x) (lo.map (ev E st)) (hi.map (ev E st)) (mx.map (ev E st)) st K
  | .fieldAddr T x f => opFieldAddr E T (ev E st x) f st K
  | .field T x f => bif (ev E st x).isAgg then opField E T (ev E st x) f st K else none
  | .indexAddr T x i => opIndexAddr E T (ev E st x) (ev E st i) st K
  | .index T x i => opIndex E T (ev E st x) (ev E st i) st K
  | .extract x n => (match ev E st x with | .tup vs => (match vs[n]? with | some p => K (packV p.1 p.2) st | none => none) | _ => none)
  | .call c => (match c.callee with
    | .builtin b => opBuiltin E b (dstN o.dst) c.argTypes.toList (c.args.toList.map (ev E st)) st K
    | .value (.func f) => (match E.sem f with | some s => s.run (dstN o.dst) (c.args.toList.map (ev E st)) st K KP | none => none)
    | _ => none)
  | .makeInterface T x => (match E.tab T with
    | some ti => (match ti.desc, (ev E st x).leaves with
      | .other, _ => none
      | _, some ls => K (.ifc T ls) st
      | _, none => none)
    | none => none)
  | .panic x => (match ev E st x with | .ifc t ls => KP (.ifc t ls) st | _ => none)
  | _ => none
end exec

/-! ### A region, and code -/
def guardDst (all : List Oper) (j : Nat) : Option Nat := (all[j]?).bind (·.dst)
/-! ### Regions that draw their order: an order in which what only reads comes first -/
def eb (e : Edge) : Bool := match e.ground with | .textOnly _ => false | .gcOnly _ => false | _ => true
def memN : Nat → List Nat → Bool
  | _, [] => false
  | x, y :: r => Nat.beq x y || memN x r
def uniN : List Nat → List Nat → List Nat
  | [], m => m
  | x :: r, m => bif memN x m then uniN r m else uniN r (x :: m)
/-- What each operation waits for, at one remove or more. -/
def ancs : List Oper → List (List Nat) → List (List Nat)
  | [], acc => acc
  | o :: r, acc => ancs r (acc ++ [o.after.toList.foldl (fun m e => bif eb e then uniN (e.on :: acc.getD e.on []) m else m) []])
def isStill : Op → Bool
  | .move _ => true | .assign _ => true | .pick _ _ _ => true | .nilCheck _ => true | .build _ _ => true | .load _ _ => true
  | .binOp _ _ _ _ _ => true | .unOp _ _ _ => true | .convert _ _ _ => true | .slice _ _ _ _ _ => true | .fieldAddr _ _ _ => true
  | .field _ _ _ => true | .indexAddr _ _ _ => true | .index _ _ _ => true | .extract _ _ => true | .makeInterface _ _ => true
  | .call c => (match c.callee with
    | .builtin b => (match b with | .len => true | .min => true | .max => true | _ => false)
    | _ => false)
  | _ => false
def tmpsOf : List Operand → List Nat
  | [] => []
  | .tmp t :: r => t :: tmpsOf r
  | _ :: r => tmpsOf r
/-- The temporaries that an operation looks at. -/
def looks (all : List Oper) (o : Oper) : List Nat :=
  (match o.guard with | some (j, _) => (match guardDst all j with | some g => [g] | none => []) | none => []) ++ tmpsOf o.op.operands.toList
def dstIn (o : Oper) (l : List Nat) : Bool := match o.dst with | some d => memN d l | none => false
/-- Operations that are carried out in their turn alone: those that change something, and those whose place another one reads ahead of them. -/
def inTurn (all : List Oper) (A : List (List Nat)) (k : Nat) (o : Oper) : Bool :=
  !isStill o.op || all.zipIdx.any fun p => dstIn o (looks all p.1) && !memN k (A.getD p.2 [])
def rdy (all : List Oper) (done : List Nat) (i : Nat) : Bool :=
  !memN i done && (match all[i]? with | some o => o.after.toList.all fun e => !eb e || memN e.on done | none => false)
/-- Whether an operation may be carried out ahead of its turn. -/
def still (all : List Oper) (A : List (List Nat)) (k : Nat) : Bool := match all[k]? with | some o => !inTurn all A k o | none => false
/-- The orders: what only reads comes first; what changes something in each order that may be drawn. -/
def canons (all : List Oper) (A : List (List Nat)) : Nat → List Nat → List (List Nat)
  | 0, _ => [[]]
  | n + 1, done => (match (List.range all.length).filter (rdy all done) with
    | [] => [[]]
    | i :: r => (match (i :: r).find? (still all A) with
      | some k => (canons all A n (k :: done)).map (k :: ·)
      | none => (i :: r).flatMap fun k => (canons all A n (k :: done)).map (k :: ·)))
def dstsOk : List Oper → Bool
  | [] => true
  | o :: r => !(match o.dst with | some d => r.any fun p => (match p.dst with | some e => Nat.beq d e | none => false) | none => false) && dstsOk r
/-- Who reads what another one writes waits for it, or is waited for. -/
def waits (all : List Oper) (A : List (List Nat)) : Bool :=
  all.zipIdx.all fun p => all.zipIdx.all fun q => Nat.beq p.2 q.2 || !dstIn q.1 (looks all p.1) || memN q.2 (A.getD p.2 []) || memN p.2 (A.getD q.2 [])
def noSelect (all : List Oper) : Bool := all.all fun o => match o.op with | .select _ _ => false | _ => true
def drawOk (all : List Oper) (A : List (List Nat)) : Bool :=
  dstsOk all && waits all A && noSelect all && all.zipIdx.all (fun p => !dstIn p.1 (looks all p.1) && p.1.after.toList.all fun e => !eb e || Nat.blt e.on p.2)

def disj : Pat → Pat → Bool
  | .o a i n, .o b j m => !Nat.beq a b || Nat.ble (i + n) j || Nat.ble (j + m) i
  | .a x, .a y => !Nat.beq x y
  | _, _ => true
def hdlsL : List Leaf → List Pat
  | [] => []
  | .hdl a :: r => .a a :: hdlsL r
  | _ :: r => hdlsL r
def AVal.hdls : AVal → List Pat
  | .one l => hdlsL [l]
  | .agg ls => hdlsL ls
  | .ifc _ ls => hdlsL ls
  | .tup _ => []
def hdlsV : List AVal → List Pat
  | [] => []
  | v :: r => v.hdls ++ hdlsV r

section draw
variable (E : Env) {R : Type}
def sizeOfT (T : TypeId) : Nat := match E.tab T with | some ti => ti.size | none => 0
/-- What an operation that only reads reads of the memory. -/
def reads (o : Oper) (st : St) : List Pat :=
  match o.op with
  | .load T x => (match (ev E st x).leaf with | .ptr ob off => [.o ob off (sizeOfT E T)] | .elt a _ _ _ => [.a a] | _ => [])
  | .convert _ _ x => hdlsL [(ev E st x).leaf]
  | .slice _ x _ _ _ => hdlsL [(ev E st x).leaf]
  | .indexAddr _ x _ => hdlsL [(ev E st x).leaf]
  | .call c => hdlsV (c.args.toList.map (ev E st))
  | _ => []
/-- Whether it only reads, as things stand. -/
def dynOk (o : Oper) (st : St) : Bool :=
  match o.op with
  | .slice _ x _ _ _ => (match (ev E st x).leaf with
    | .hdl a => (match st.arr a with | some A => A.sh | none => false)
    | _ => true)
  | _ => true
/-- What an operation may change of the memory. -/
def writes (o : Oper) (st : St) : List Pat :=
  match o.op with
  | .store T x v => (match (ev E st x).leaf with
    | .ptr ob off => [.o ob off (sizeOfT E T)]
    | .elt a _ _ _ => .a a :: (ev E st v).hdls
    | _ => [])
  | .buildSlice _ _ ps => hdlsV (ps.toList.map fun p => ev E st p.2)
  | .call c => (match c.callee with
    | .builtin _ => hdlsV (c.args.toList.map (ev E st))
    | .value (.func f) => (match E.sem f with | some s => s.foot (c.args.toList.map (ev E st)) st | none => [])
    | _ => [])
  | .slice _ x _ _ _ => hdlsL [(ev E st x).leaf]
  | _ => []
def apartAll (rs ws : List Pat) : Bool := rs.all fun p => ws.all fun q => disj p q

/-- One operation of such a region, wanted. -/
def stepD (all : List Oper) (A : List (List Nat)) (i : Nat) (o : Oper) (log : List (Nat × List Pat)) (st : St) (K : List (Nat × List Pat) → St → Option R) (KP : AVal → St → Option R) : Option R :=
  bif inTurn all A i o then
    (bif log.all (fun p => memN p.1 (A.getD i []) || apartAll p.2 (writes E o st)) then
      exec1 E o st (fun v st' => putK o.dst v st' (K log)) KP else none)
  else (bif dynOk E o st then exec1 E o st (fun v st' => putK o.dst v st' (K ((i, reads E o st) :: log))) (fun _ _ => none) else none)
def runD1 (all : List Oper) (A : List (List Nat)) (i : Nat) (log : List (Nat × List Pat)) (st : St) (K : List (Nat × List Pat) → St → Option R) (KP : AVal → St → Option R) : Option R :=
  match all[i]? with
  | none => none
  | some o => (match o.guard with
    | none => stepD E all A i o log st K KP
    | some (j, want) => (match guardDst all j with
      | none => none
      | some g => (match st.reg g with
        | some (.one (.dat .bool c)) =>
          (bif c then
            (bif want then stepD E all A i o log (st.setReg g (.one (.dat .bool true))) K KP
              else putK o.dst (.one .und) (st.setReg g (.one (.dat .bool true))) (K log))
          else
            (bif want then putK o.dst (.one .und) (st.setReg g (.one (.dat .bool false))) (K log)
              else stepD E all A i o log (st.setReg g (.one (.dat .bool false))) K KP))
        | some (.one .und) => putK o.dst (.one .und) st (K log)
        | _ => none)))
def runD (all : List Oper) (A : List (List Nat)) : List Nat → List (Nat × List Pat) → St → (St → Option R) → (AVal → St → Option R) → Option R
  | [], _, st, K, _ => K st
  | i :: rest, log, st, K, KP => runD1 E all A i log st (fun lg s => runD all A rest lg s K KP) KP
def covers (ops : List Oper) (l : List Nat) : Bool := (List.range ops.length).all fun i => memN i l
def runR (ops : List Oper) (st : St) (K : St → Option R) (KP : AVal → St → Option R) : Option R :=
  bif drawOk ops (ancs ops []) then
    (match canons ops (ancs ops []) ops.length [] with
    | [l] => (bif covers ops l then runD E ops (ancs ops []) l [] st K KP else none)
    | _ => none)
  else none
end draw

section run
variable (E : Env) {R : Type}

def runOps (all : List Oper) : List Oper → St → (St → Option R) → (AVal → St → Option R) → Option R
  | [], st, K, _ => K st
  | o :: rest, st, K, KP =>
    match o.guard with
    | none => exec1 E o st (fun v st' => putK o.dst v st' fun s => runOps all rest s K KP) KP
    | some (j, want) => (match guardDst all j with
      | none => none
      | some g => (match st.reg g with
        | some (.one (.dat .bool c)) =>
          (bif c then
            (bif want then exec1 E o (st.setReg g (.one (.dat .bool true))) (fun v st' => putK o.dst v st' fun s => runOps all rest s K KP) KP
              else putK o.dst (.one .und) (st.setReg g (.one (.dat .bool true))) fun s => runOps all rest s K KP)
          else
            (bif want then putK o.dst (.one .und) (st.setReg g (.one (.dat .bool false))) fun s => runOps all rest s K KP
              else exec1 E o (st.setReg g (.one (.dat .bool false))) (fun v st' => putK o.dst v st' fun s => runOps all rest s K KP) KP))
        | some (.one .und) => putK o.dst (.one .und) st fun s => runOps all rest s K KP
        | _ => none))

/-- The abstract run of code. Exits: as the model's. A panic's value is a leaf list under `Exit.panic`'s own continuation. -/
noncomputable def runC (c : Code) : St → (Exit → St → Option R) → (AVal → St → Option R) → Option R :=
  Code.rec (motive := fun _ => St → (Exit → St → Option R) → (AVal → St → Option R) → Option R)
    (fun st K _ => K .normal st)
    (fun id ops draw st K KP => bif draw then (match E.loops (id + 1000000) with | some L => L.run st K KP | none => runR E ops.toList st (fun s => K .normal s) KP) else runOps E ops.toList ops.toList st (fun s => K .normal s) KP)
    (fun _ _ ra rb st K KP => ra st (fun e s => match e with | .normal => rb s K KP | e => K e s) KP)
    (fun c _ _ rt re st K KP => match (ev E st c).bool? with | some b => bif b then rt st K KP else re st K KP | none => none)
    (fun id _ rb st K KP => match E.loops id with
      | some L => L.run st K KP
      | none => rb st (fun e s => match e with | .exit i => (bif Nat.beq i id then K .normal s else K (.exit i) s) | e => K e s) KP)
    (fun _ _ _ _ _ => none)
    (fun _ _ _ _ _ _ _ _ _ => none)
    (fun id st K _ => K (.exit id) st)
    (fun _ _ _ _ _ => none)
    (fun _ _ _ _ => none)
    (fun _ _ _ _ => none)
    (fun st K _ => K .ret st)
    (fun _ _ _ _ => none) c
end run

end Go.Fx

/- The framework, third text: what an abstract state says of a frame and a world. -/
namespace Go.Fx
set_option linter.unusedVariables false

def All2 {α β : Type} (R : α → β → Prop) : List α → List β → Prop
  | [], [] => True
  | x :: xs, y :: ys => R x y ∧ All2 R xs ys
  | _, _ => False

section All2
variable {α β : Type} {R R' : α → β → Prop}
theorem All2.length : ∀ {xs : List α} {ys : List β}, All2 R xs ys → xs.length = ys.length
  | [], [], _ => rfl
  | _ :: _, _ :: _, h => by simp [All2.length h.2]
  | [], _ :: _, h => h.elim
  | _ :: _, [], h => h.elim
theorem All2.imp (f : ∀ x y, R x y → R' x y) : ∀ {xs : List α} {ys : List β}, All2 R xs ys → All2 R' xs ys
  | [], [], _ => trivial
  | _ :: _, _ :: _, h => ⟨f _ _ h.1, All2.imp f h.2⟩
  | [], _ :: _, h => h.elim
  | _ :: _, [], h => h.elim
theorem All2.impMem : ∀ {xs : List α} {ys : List β}, (∀ x y, x ∈ xs → R x y → R' x y) → All2 R xs ys → All2 R' xs ys
  | [], [], _, _ => trivial
  | _ :: _, _ :: _, f, h => ⟨f _ _ (by simp) h.1, All2.impMem (fun x y hx => f x y (by simp [hx])) h.2⟩
  | [], _ :: _, _, h => h.elim
  | _ :: _, [], _, h => h.elim
theorem All2.append : ∀ {xs xs' : List α} {ys ys' : List β}, All2 R xs ys → All2 R xs' ys' → All2 R (xs ++ xs') (ys ++ ys')
  | [], _, [], _, _, h => h
  | _ :: _, _, _ :: _, _, h, h' => ⟨h.1, All2.append h.2 h'⟩
  | [], _, _ :: _, _, h, _ => h.elim
  | _ :: _, _, [], _, h, _ => h.elim
theorem All2.split : ∀ {xs xs' : List α} {ys : List β}, All2 R (xs ++ xs') ys → ∃ y1 y2, ys = y1 ++ y2 ∧ All2 R xs y1 ∧ All2 R xs' y2
  | [], _, ys, h => ⟨[], ys, rfl, trivial, h⟩
  | x :: xs, xs', y :: ys, h => by
    obtain ⟨y1, y2, rfl, h1, h2⟩ := All2.split (xs := xs) h.2
    exact ⟨y :: y1, y2, rfl, ⟨h.1, h1⟩, h2⟩
  | _ :: _, _, [], h => h.elim
theorem All2.take : ∀ (n : Nat) {xs : List α} {ys : List β}, All2 R xs ys → All2 R (xs.take n) (ys.take n)
  | 0, _, _, _ => by simp [All2]
  | n + 1, [], [], _ => trivial
  | n + 1, _ :: _, _ :: _, h => ⟨h.1, All2.take n h.2⟩
  | n + 1, [], _ :: _, h => h.elim
  | n + 1, _ :: _, [], h => h.elim
theorem All2.drop : ∀ (n : Nat) {xs : List α} {ys : List β}, All2 R xs ys → All2 R (xs.drop n) (ys.drop n)
  | 0, _, _, h => h
  | n + 1, [], [], _ => trivial
  | n + 1, _ :: _, _ :: _, h => All2.drop n h.2
  | n + 1, [], _ :: _, h => h.elim
  | n + 1, _ :: _, [], h => h.elim
theorem All2.get : ∀ {i : Nat} {xs : List α} {ys : List β} {x : α}, All2 R xs ys → xs[i]? = some x → ∃ y, ys[i]? = some y ∧ R x y
  | 0, _ :: _, _ :: _, _, h, e => by cases e; exact ⟨_, rfl, h.1⟩
  | i + 1, _ :: _, _ :: _, _, h, e => by simpa using All2.get (i := i) h.2 (by simpa using e)
  | _, [], _, _, _, e => by simp at e
  | _, _ :: _, [], _, h, _ => h.elim
end All2

/-! ### What is known beside the state -/
structure Gh where
  S : Mem
  φ : Nat → Nat
  pre : Nat → List Value
  post : Nat → List Value
  ψ : Nat → Value
  HA : Nat → Heap

def RelL (G : Gh) : Leaf → Value → Prop
  | .any, _ => True
  | .bas, _ => True
  | .und, v => v = undef
  | .dat t d, v => ∃ cs, (if t.agg = true then v = .agg cs.toArray else cs = [v]) ∧ Rep G.S false t cs d []
  | .nil, v => v = .slice none 0 0
  | .nilp, v => v = .pointer none
  | .hdl a, v => v = G.ψ a
  | .ptr o off, v => v = .pointer (some ⟨G.φ o, (G.pre o).length + off, none⟩)
  | .elt a sz i off, v => ∃ b len cap, G.ψ a = .slice (some ⟨b, 0, none⟩) len cap ∧ i < len ∧ v = .pointer (some ⟨b, i * sz + off, none⟩)
  | .she t d off, v => ∃ b arr elem fz pre cs post, G.S b = some (.cells arr elem fz) ∧ arr.toList = pre ++ (cs ++ post) ∧ Rep G.S false t cs d [] ∧
      v = .pointer (some ⟨b, pre.length + off, none⟩)
  | .fn f, v => v = .func (.func f) #[] #[]
  | .ga t l, v => ∃ b arr elem fz cells rest, G.S b = some (.cells arr elem fz) ∧ arr.toList = cells ++ rest ∧ RepL (Rep G.S false t) cells l [] ∧ v = .pointer (some ⟨b, 0, none⟩)

def RelV (G : Gh) : AVal → Value → Prop
  | .one l, v => RelL G l v
  | .agg ls, v => ∃ cs : List Value, v = .agg cs.toArray ∧ All2 (RelL G) ls cs
  | .tup vs, v => ∃ us : List Value, v = .tuple us.toArray ∧ All2 (fun (p : Bool × List Leaf) u =>
      if p.1 = true then ∃ cs : List Value, u = .agg cs.toArray ∧ All2 (RelL G) p.2 cs else ∃ l, p.2 = [l] ∧ RelL G l u) vs us
  | .ifc t ls, v => ∃ u cs, v = .iface t u ∧ u.cells.toList = cs ∧ All2 (RelL G) ls cs

def LeavesRel (G : Gh) (st : St) (o : Nat) : Nat → List Leaf → List Value → Prop := fun j ls vs => All2 (RelL G) (st.resl o j ls) vs

structure Ctx where
  S0 : Mem
  own0 : Nat → Prop
  w0 : World
  pin : Nat → Option (Nat × List Value × List Value)
  pl : ∀ o p, pin o = some p → o < 10000
  bv : Nat → Nat → Option Value
  bl : ∀ o j u, bv o j = some u → o < 10000

def Owns (G : Gh) (st : St) : Bool × Nat → Nat → Prop
  | (false, o), b => (∃ ls, st.obj o = some ls) ∧ b = G.φ o
  | (true, a), b => (∃ A, st.arr a = some A ∧ A.sh = false) ∧ ∃ p ∈ G.HA a, p.1 = b

/-- An array one of whose elements is an object of its own. -/
def LentBody {α : Type} (RL : List Value → List α → Heap → Prop) (sz : Nat) (v : Value) (l : List α) (H : Heap) (i b : Nat) (pre post : List Value) : Prop :=
  ∃ cap Hp Hq rest post', v = .slice (some ⟨b, 0, none⟩) l.length cap ∧ H = Hp ++ Hq ∧ post = post' ++ rest ∧ cap * sz ≤ pre.length + sz + post.length ∧
    l.length ≤ cap ∧ i < l.length ∧ pre.length = i * sz ∧ RL pre (l.take i) Hp ∧ RL post' (l.drop (i + 1)) Hq
/-- A map: its entries in the order in which they came. -/
def MapBody {α : Type} (RL : List Value → List α → Heap → Prop) (v : Value) (l : List α) (H : Heap) : Prop :=
  ∃ r es clock, v = .map (some r) ∧ H = [(r, Obj.map es clock)] ∧ RL (es.toList.flatMap fun e => [e.key, e.val]) l []

def ArrRel (G : Gh) (a : Nat) (A : Arr) : Prop :=
  if A.sh = true then ShBody G.S (RepL (Rep G.S false A.t)) [G.ψ a] A.l []
  else match A.md with
    | .flat => OwnBody (RepL (Rep G.S false A.t)) A.t.size [G.ψ a] A.l (G.HA a)
    | .deep => OwnBody (RepL (Rep G.S true A.t)) A.t.size [G.ψ a] A.l (G.HA a)
    | .lent i o => LentBody (RepL (Rep G.S true A.t)) A.t.size (G.ψ a) A.l (G.HA a) i (G.φ o) (G.pre o) (G.post o)
    | .mp => MapBody (RepL (Rep G.S false A.t)) (G.ψ a) A.l (G.HA a)

def SlV (v : Value) : Prop := (∃ b n c, v = .slice b n c) ∨ ∃ r, v = .map r

structure RelM (X : Ctx) (st : St) (G : Gh) (w : World) : Prop where
  sl : ∀ a, SlV (G.ψ a)
  sh : ∀ b o, G.S b = some o → w.heap[b]? = some o
  ob : ∀ o ls, st.obj o = some ls → ∃ arr elem mid, w.heap[G.φ o]? = some (.cells arr elem (0, 0)) ∧ arr.toList = G.pre o ++ (mid ++ G.post o) ∧ LeavesRel G st o 0 ls mid
  ar : ∀ a A, st.arr a = some A → ArrRel G a A
  ah : ∀ a A, st.arr a = some A → A.sh = false → ∀ p ∈ G.HA a, w.heap[p.1]? = some p.2
  nd : ∀ a A, st.arr a = some A → A.sh = false → ((G.HA a).map (·.1)).Nodup
  dis : ∀ x y b, Owns G st x b → Owns G st y b → x = y
  dS : ∀ x b, Owns G st x b → G.S b = none
  inn : ∀ x b, Owns G st x b → X.own0 b ∨ X.w0.heap.size ≤ b
  s0 : ∀ b o, X.S0 b = some o → G.S b = some o
  sn : ∀ b o, G.S b = some o → X.S0 b = some o ∨ X.own0 b ∨ X.w0.heap.size ≤ b
  fr : ∀ b, b < X.w0.heap.size → ¬ X.own0 b → w.heap[b]? = X.w0.heap[b]?
  sz : X.w0.heap.size ≤ w.heap.size
  os : w.os = X.w0.os
  tp : w.tape = X.w0.tape
  out : w.output = X.w0.output
  pin : ∀ o p, X.pin o = some p → (∃ ls, st.obj o = some ls) ∧ p = (G.φ o, G.pre o, G.post o)
  bv : ∀ o j u, X.bv o j = some u → (∃ lf, lookL st.bleaves o j = some lf) ∧ (∃ ls, st.obj o = some ls ∧ ls[j]? = some .bas) ∧
    ∃ arr elem, w.heap[G.φ o]? = some (.cells arr elem (0, 0)) ∧ arr.toList[(G.pre o).length + j]? = some u

def RelR (G : Gh) (st : St) (a : Act) : Prop :=
  a.defers = [] ∧ a.tmps.size = st.n ∧ ∀ i v, st.reg i = some v → RelV G v (a.tmps.getD i undef)

/-! ### Lists by number -/
section look
variable {α : Type}
theorem nbeq_false {k i : Nat} (h : k ≠ i) : Nat.beq k i = false := by
  cases hb : Nat.beq k i with
  | false => rfl
  | true => exact absurd (Nat.eq_of_beq_eq_true hb) h
theorem look_cons (k : Nat) (v : α) (l : List (Nat × α)) (i : Nat) : look ((k, v) :: l) i = if k = i then some v else look l i := by
  simp only [look]
  by_cases h : k = i
  · subst h; simp
  · simp [nbeq_false h, h]
theorem look_del (l : List (Nat × α)) (a i : Nat) : look (del l a) i = if a = i then none else look l i := by
  induction l with
  | nil => simp [look, del]
  | cons p l ih =>
    obtain ⟨k, v⟩ := p
    by_cases h : k = a
    · subst h
      have : Nat.beq k k = true := by simp
      simp only [del, this, cond_true, ih, look_cons]
      split <;> rfl
    · have := nbeq_false h
      simp only [del, this, cond_false, look_cons, ih]
      by_cases h2 : k = i
      · subst h2; simp [Ne.symm h]
      · simp [h2]
theorem look_mem {l : List (Nat × α)} {i : Nat} {v : α} (h : look l i = some v) : (i, v) ∈ l := by
  induction l with
  | nil => simp [look] at h
  | cons p l ih =>
    obtain ⟨k, u⟩ := p
    rw [look_cons] at h
    split at h
    · rename_i e; subst e; cases h; simp
    · exact List.mem_cons_of_mem _ (ih h)
theorem lookL_mem : ∀ {l : List (Nat × Nat × Leaf)} {o j : Nat} {v : Leaf}, lookL l o j = some v → (o, j, v) ∈ l
  | [], _, _, _, h => by cases h
  | (o', j', v') :: r, o, j, v, h => by
    simp only [lookL] at h
    cases hb : (Nat.beq o' o && Nat.beq j' j) with
    | true =>
      simp only [hb, cond_true, Option.some.injEq] at h
      simp only [Bool.and_eq_true] at hb
      rw [Nat.eq_of_beq_eq_true hb.1, Nat.eq_of_beq_eq_true hb.2, h]; simp
    | false => simp only [hb, cond_false] at h; exact List.mem_cons_of_mem _ (lookL_mem h)
end look

section St
variable {st : St}
theorem reg_setReg (i : Nat) (v : AVal) (j : Nat) : (st.setReg i v).reg j = if i = j then some v else st.reg j := by
  simp only [St.reg, St.setReg, look_cons]
  by_cases h : i = j <;> simp [h]
@[simp] theorem obj_setReg (i : Nat) (v : AVal) (o : Nat) : (st.setReg i v).obj o = st.obj o := rfl
@[simp] theorem arr_setReg (i : Nat) (v : AVal) (a : Nat) : (st.setReg i v).arr a = st.arr a := rfl
@[simp] theorem res_setReg (i : Nat) (v : AVal) (o j : Nat) (l : Leaf) : (st.setReg i v).res o j l = st.res o j l := by cases l <;> rfl
theorem obj_setObj (o : Nat) (ls : List Leaf) (q : Nat) : (st.setObj o ls).obj q = if o = q then some ls else st.obj q := by
  simp only [St.obj, St.setObj, look_cons]
@[simp] theorem reg_setObj (o : Nat) (ls : List Leaf) (i : Nat) : (st.setObj o ls).reg i = st.reg i := rfl
@[simp] theorem arr_setObj (o : Nat) (ls : List Leaf) (a : Nat) : (st.setObj o ls).arr a = st.arr a := rfl
@[simp] theorem res_setObj (q : Nat) (ls : List Leaf) (o j : Nat) (l : Leaf) : (st.setObj q ls).res o j l = st.res o j l := by cases l <;> rfl
theorem arr_setArr (a : Nat) (A : Arr) (b : Nat) : (st.setArr a A).arr b = if a = b then some A else st.arr b := by
  simp only [St.arr, St.setArr, look_cons]
  by_cases h : a = b <;> simp [h]
@[simp] theorem reg_setArr (a : Nat) (A : Arr) (i : Nat) : (st.setArr a A).reg i = st.reg i := rfl
@[simp] theorem obj_setArr (a : Nat) (A : Arr) (o : Nat) : (st.setArr a A).obj o = st.obj o := rfl
@[simp] theorem res_setArr (a : Nat) (A : Arr) (o j : Nat) (l : Leaf) : (st.setArr a A).res o j l = st.res o j l := by cases l <;> rfl
end St

theorem resl_congr {st st' : St} {o : Nat} (h : ∀ j l, st'.res o j l = st.res o j l) : ∀ (j : Nat) (ls : List Leaf), st'.resl o j ls = st.resl o j ls
  | _, [] => rfl
  | j, l :: r => by simp [St.resl, h, resl_congr h (j + 1) r]
theorem resl_length (st : St) (o : Nat) : ∀ (j : Nat) (ls : List Leaf), (st.resl o j ls).length = ls.length
  | _, [] => rfl
  | j, l :: r => by simp [St.resl, resl_length st o (j + 1) r]
theorem resl_append (st : St) (o : Nat) : ∀ (j : Nat) (l m : List Leaf), st.resl o j (l ++ m) = st.resl o j l ++ st.resl o (j + l.length) m
  | _, [], m => by simp [St.resl]
  | j, x :: l, m => by
    simp only [List.cons_append, St.resl, List.length_cons]
    rw [resl_append st o (j + 1) l m, show j + 1 + l.length = j + (l.length + 1) by omega]

/-! ### Other ghosts -/
/-- The ghosts agree but for one named thing; what is shared has grown. -/
structure Gh.Le (G G' : Gh) (k : Bool) (x : Nat) : Prop where
  S : ∀ b o, G.S b = some o → G'.S b = some o
  φ : ∀ o, (k = false → o ≠ x) → G'.φ o = G.φ o
  pre : ∀ o, (k = false → o ≠ x) → G'.pre o = G.pre o
  post : ∀ o, (k = false → o ≠ x) → G'.post o = G.post o
  ψ : ∀ a, (k = true → a ≠ x) → G'.ψ a = G.ψ a

theorem RelL.le {G G' : Gh} {k : Bool} {x : Nat} (h : G.Le G' k x) {l : Leaf} {v : Value} (hm : l.ment k x = false) (r : RelL G l v) : RelL G' l v := by
  cases l with
  | any => trivial
  | bas => trivial
  | und => exact r
  | dat t d => obtain ⟨cs, e, hr⟩ := r; exact ⟨cs, e, hr.mono h.S⟩
  | nil => exact r
  | nilp => exact r
  | hdl a =>
    have : G'.ψ a = G.ψ a := h.ψ a (fun hk e => by subst hk e; simp [Leaf.ment] at hm)
    simp only [RelL, this]; exact r
  | ptr o off =>
    have hne : k = false → o ≠ x := fun hk e => by subst hk e; simp [Leaf.ment] at hm
    simp only [RelL, h.φ o hne, h.pre o hne]; exact r
  | elt a sz i off =>
    have : G'.ψ a = G.ψ a := h.ψ a (fun hk e => by subst hk e; simp [Leaf.ment] at hm)
    simp only [RelL, this]; exact r
  | she t d off =>
    obtain ⟨b, arr, elem, fz, pre, cs, post, h1, h2, h3, h4⟩ := r
    exact ⟨b, arr, elem, fz, pre, cs, post, h.S _ _ h1, h2, h3.mono h.S, h4⟩
  | fn f => exact r
  | ga t l =>
    obtain ⟨b, arr, elem, fz, cs, rest, h1, h2, h3, h4⟩ := r
    exact ⟨b, arr, elem, fz, cs, rest, h.S _ _ h1, h2, h3.imp fun _ _ _ h' => h'.mono h.S, h4⟩

theorem all2_le {G G' : Gh} {k : Bool} {x : Nat} (h : G.Le G' k x) {ls : List Leaf} {vs : List Value} (hm : ls.any (Leaf.ment k x) = false) (r : All2 (RelL G) ls vs) : All2 (RelL G') ls vs :=
  r.impMem fun l v hl hr => hr.le h (by
    have := List.any_eq_false.1 hm l hl
    simpa using this)

theorem RelV.le {G G' : Gh} {k : Bool} {x : Nat} (h : G.Le G' k x) {a : AVal} {v : Value} (hm : a.ment k x = false) (r : RelV G a v) : RelV G' a v := by
  cases a with
  | one l => exact RelL.le h hm r
  | agg ls => obtain ⟨cs, e, hr⟩ := r; exact ⟨cs, e, all2_le h hm hr⟩
  | tup vs =>
    obtain ⟨us, e, hr⟩ := r
    refine ⟨us, e, hr.impMem fun p u hp hpu => ?_⟩
    have hm' : p.2.any (Leaf.ment k x) = false := by
      have := List.any_eq_false.1 hm p hp
      simpa using this
    split at hpu
    · rename_i hc; simp only [hc, if_true]; obtain ⟨cs, e, hr⟩ := hpu; exact ⟨cs, e, all2_le h hm' hr⟩
    · rename_i hc
      obtain ⟨l, e, hr⟩ := hpu
      simp only [Bool.not_eq_true] at hc
      simp only [hc, Bool.false_eq_true, if_false]
      exact ⟨l, e, hr.le h (by rw [e] at hm'; simpa using hm')⟩
  | ifc t ls => obtain ⟨u, cs, e1, e2, hr⟩ := r; exact ⟨u, cs, e1, e2, all2_le h hm hr⟩

/-! ### Arrays under other ghosts -/
theorem OwnBody.imp {α : Type} {RL RL' : List Value → List α → Heap → Prop} {sz : Nat} {cs : List Value} {l : List α} {H : Heap} (f : ∀ c H, RL c l H → RL' c l H) (h : OwnBody RL sz cs l H) : OwnBody RL' sz cs l H := by
  rcases h with h | ⟨b, cap, arr, elem, cells, rest, H', e1, e2, e3, e4, e5, e6⟩
  · exact .inl h
  · exact .inr ⟨b, cap, arr, elem, cells, rest, H', e1, e2, e3, e4, e5, f _ _ e6⟩
theorem ShBody.imp {α : Type} {S S' : Mem} {RL RL' : List Value → List α → Heap → Prop} {cs : List Value} {l : List α} {H : Heap} (hS : ∀ b o, S b = some o → S' b = some o) (f : ∀ c H, RL c l H → RL' c l H) (h : ShBody S RL cs l H) : ShBody S' RL' cs l H := by
  rcases h with ⟨e, h1 | ⟨b, cap, arr, elem, fz, pre, cells, rest, q1, q2, q3, q4, q5⟩⟩
  · exact ⟨e, .inl h1⟩
  · exact ⟨e, .inr ⟨b, cap, arr, elem, fz, pre, cells, rest, q1, hS _ _ q2, q3, f _ _ q4, q5⟩⟩

theorem RepL.monoS {S S' : Mem} (hS : ∀ b o, S b = some o → S' b = some o) {m : Bool} {t : Ty} {cs : List Value} {l : List t.den} {H : Heap} (h : RepL (Rep S m t) cs l H) : RepL (Rep S' m t) cs l H := h.imp fun _ _ _ h => h.mono hS

/-- A value is represented in smaller shared memory only by what it is in the greater. -/
theorem ArrRel.mono {G G' : Gh} {a a' : Nat} {A : Arr} (hS : ∀ b o, G.S b = some o → G'.S b = some o) (hψ : G'.ψ a' = G.ψ a) (hH : G'.HA a' = G.HA a)
    (hl : ∀ i o, A.md = .lent i o → G'.φ o = G.φ o ∧ G'.pre o = G.pre o ∧ G'.post o = G.post o) (h : ArrRel G a A) : ArrRel G' a' A := by
  unfold ArrRel at h ⊢
  rw [hψ, hH]
  split
  · rename_i hs
    simp only [hs, if_true] at h
    exact h.imp hS fun c H h => h.monoS hS
  · rename_i hs
    simp only [hs, if_false, Bool.false_eq_true] at h
    split
    · rename_i hm; simp only [hm] at h; exact h.imp fun c H h => h.monoS hS
    · rename_i hm; simp only [hm] at h; exact h.imp fun c H h => h.monoS hS
    · rename_i i o hm
      simp only [hm] at h
      obtain ⟨e1, e2, e3⟩ := hl i o hm
      rw [e1, e2, e3]
      obtain ⟨cap, Hp, Hq, rest, post', q1, q2, q3, q4, q5, q6, q7, q8, q9⟩ := h
      exact ⟨cap, Hp, Hq, rest, post', q1, q2, q3, q4, q5, q6, q7, q8.monoS hS, q9.monoS hS⟩
    · rename_i hm
      simp only [hm] at h
      obtain ⟨r, es, clock, e1, e2, e3⟩ := h
      exact ⟨r, es, clock, e1, e2, e3.monoS hS⟩

theorem arrRel_own {G : Gh} {a : Nat} {A : Arr} (hs : A.sh = false) (hw : A.own = true) : ArrRel G a A ↔ OwnBody (RepL (Rep G.S A.deep A.t)) A.t.size [G.ψ a] A.l (G.HA a) := by
  obtain ⟨At, md, sh, Al⟩ := A
  simp only at hs
  subst hs
  cases md <;> simp [Arr.own] at hw <;> rfl
theorem arrRel_flat {G : Gh} {a : Nat} {t : Ty} {l : List t.den} : ArrRel G a ⟨t, .flat, false, l⟩ ↔ OwnBody (RepL (Rep G.S false t)) t.size [G.ψ a] l (G.HA a) := Iff.rfl
theorem arrRel_sh {G : Gh} {a : Nat} {A : Arr} (hs : A.sh = true) : ArrRel G a A ↔ ShBody G.S (RepL (Rep G.S false A.t)) [G.ψ a] A.l [] := by
  unfold ArrRel; rw [if_pos hs]
theorem deep_flat {A : Arr} (h : A.deep = false) : A.md = .flat := by
  obtain ⟨At, md, sh, Al⟩ := A
  cases md <;> simp [Arr.deep] at h; rfl
theorem flat_own {A : Arr} (h : A.deep = false) : A.own = true := by
  have := deep_flat h; simp [Arr.own, this]
theorem arrRel_slice {G : Gh} {a : Nat} {A : Arr} (hs : A.sh = false) (hm : A.isMp = false) (h : ArrRel G a A) : (A.l = [] ∧ G.ψ a = .slice none 0 0) ∨ ∃ b cap, G.ψ a = .slice (some ⟨b, 0, none⟩) A.l.length cap := by
  have own : ∀ {RL : List Value → List A.t.den → Heap → Prop} {sz : Nat} {H : Heap}, OwnBody RL sz [G.ψ a] A.l H → (A.l = [] ∧ G.ψ a = .slice none 0 0) ∨ ∃ b cap, G.ψ a = .slice (some ⟨b, 0, none⟩) A.l.length cap := fun {RL sz H} h => by
    rcases h with ⟨e1, e2, e3⟩ | ⟨b, cap, arr, elem, cells, rest, H', e1, _⟩
    · simp only [List.cons.injEq, and_true] at e3; exact .inl ⟨e1, e3⟩
    · simp only [List.cons.injEq, and_true] at e1; exact .inr ⟨b, cap, e1⟩
  unfold ArrRel at h
  rw [if_neg (by simp [hs])] at h
  split at h
  · exact own h
  · exact own h
  · obtain ⟨cap, Hp, Hq, rest, post', e, _⟩ := h; exact .inr ⟨_, cap, e⟩
  · rename_i e; simp [Arr.isMp, e] at hm
end Go.Fx

/- The framework, fourth text: steps that change the state alone (giving away), and the operations that change no memory. -/
namespace Go.Fx
set_option linter.unusedVariables false
set_option linter.unusedSimpArgs false

/-! ### What is shared grows -/
structure Gh.Sub (G G' : Gh) : Prop where
  S : ∀ b o, G.S b = some o → G'.S b = some o
  φ : G'.φ = G.φ
  pre : G'.pre = G.pre
  post : G'.post = G.post
  ψ : G'.ψ = G.ψ
  HA : G'.HA = G.HA

theorem Gh.Sub.refl (G : Gh) : G.Sub G := ⟨fun _ _ h => h, rfl, rfl, rfl, rfl, rfl⟩
theorem Gh.Sub.trans {G G' G'' : Gh} (h : G.Sub G') (k : G'.Sub G'') : G.Sub G'' :=
  ⟨fun b o e => k.S b o (h.S b o e), k.φ.trans h.φ, k.pre.trans h.pre, k.post.trans h.post, k.ψ.trans h.ψ, k.HA.trans h.HA⟩

theorem RelL.sub {G G' : Gh} (h : G.Sub G') {l : Leaf} {v : Value} (r : RelL G l v) : RelL G' l v := by
  cases l with
  | any => trivial
  | bas => trivial
  | und => exact r
  | dat t d => obtain ⟨cs, e, hr⟩ := r; exact ⟨cs, e, hr.mono h.S⟩
  | nil => exact r
  | nilp => exact r
  | hdl a => simp only [RelL, h.ψ]; exact r
  | ptr o off => simp only [RelL, h.φ, h.pre]; exact r
  | elt a sz i off => simp only [RelL, h.ψ]; exact r
  | she t d off =>
    obtain ⟨b, arr, elem, fz, pre, cs, post, h1, h2, h3, h4⟩ := r
    exact ⟨b, arr, elem, fz, pre, cs, post, h.S _ _ h1, h2, h3.mono h.S, h4⟩
  | fn f => exact r
  | ga t l =>
    obtain ⟨b, arr, elem, fz, cs, rest, h1, h2, h3, h4⟩ := r
    exact ⟨b, arr, elem, fz, cs, rest, h.S _ _ h1, h2, h3.imp fun _ _ _ h' => h'.mono h.S, h4⟩

theorem RelV.sub {G G' : Gh} (h : G.Sub G') {a : AVal} {v : Value} (r : RelV G a v) : RelV G' a v := by
  cases a with
  | one l => exact RelL.sub h r
  | agg ls => obtain ⟨cs, e, hr⟩ := r; exact ⟨cs, e, hr.imp fun _ _ => RelL.sub h⟩
  | tup vs =>
    obtain ⟨us, e, hr⟩ := r
    refine ⟨us, e, hr.imp fun p u hpu => ?_⟩
    split at hpu
    · rename_i hc; simp only [hc, if_true]; obtain ⟨cs, e, hr⟩ := hpu; exact ⟨cs, e, hr.imp fun _ _ => RelL.sub h⟩
    · rename_i hc
      obtain ⟨l, e, hr⟩ := hpu
      simp only [Bool.not_eq_true] at hc
      simp only [hc, Bool.false_eq_true, if_false]
      exact ⟨l, e, hr.sub h⟩
  | ifc t ls => obtain ⟨u, cs, e1, e2, hr⟩ := r; exact ⟨u, cs, e1, e2, hr.imp fun _ _ => RelL.sub h⟩

theorem RelR.sub {G G' : Gh} (h : G.Sub G') {st st' : St} (hn : st'.n = st.n) (hreg : ∀ i, st'.reg i = st.reg i) {a : Act} (r : RelR G st a) : RelR G' st' a :=
  ⟨r.1, r.2.1.trans hn.symm, fun i v hv => (r.2.2 i v (by rw [← hreg i]; exact hv)).sub h⟩

/-- What a giving away keeps. -/
structure Kept (st st' : St) : Prop where
  n : st'.n = st.n
  reg : ∀ i, st'.reg i = st.reg i
  obj : ∀ o, st'.obj o = st.obj o
  res : ∀ o j l, st'.res o j l = st.res o j l
  bl : st'.bleaves = st.bleaves

theorem Kept.refl (st : St) : Kept st st := ⟨rfl, fun _ => rfl, fun _ => rfl, fun _ _ _ => rfl, rfl⟩
theorem Kept.trans {a b c : St} (h : Kept a b) (k : Kept b c) : Kept a c :=
  ⟨k.n.trans h.n, fun i => (k.reg i).trans (h.reg i), fun o => (k.obj o).trans (h.obj o), fun o j l => (k.res o j l).trans (h.res o j l), k.bl.trans h.bl⟩

theorem nodup_find {H : Heap} (hn : (H.map (·.1)).Nodup) {p : Nat × Obj} (hp : p ∈ H) : H.find? (fun q => q.1 == p.1) = some p := by
  induction H with
  | nil => cases hp
  | cons q H ih =>
    simp only [List.map_cons, List.nodup_cons] at hn
    rcases List.mem_cons.1 hp with rfl | hp
    · simp
    · have hne : q.1 ≠ p.1 := fun e => hn.1 (by rw [e]; exact List.mem_map_of_mem hp)
      simp [hne, ih hn.2 hp]

theorem share1_ok {X : Ctx} {st st' : St} {G : Gh} {w : World} {l : Leaf} (h : st.share1 l = some st') (hm : RelM X st G w) :
    ∃ G', RelM X st' G' w ∧ G.Sub G' ∧ Kept st st' := by
  have triv : st' = st → ∃ G', RelM X st' G' w ∧ G.Sub G' ∧ Kept st st' := fun e => by subst e; exact ⟨G, hm, .refl G, .refl _⟩
  cases l with
  | hdl a =>
    simp only [St.share1] at h
    cases hA : look st.arrs a with
    | none =>
      simp only [hA] at h
      cases hB : look st.barrs a with
      | none => simp [hB] at h
      | some A => cases hs : A.sh <;> simp [hB, hs] at h; exact triv h.symm
    | some A =>
      simp only [hA] at h
      cases hs : A.sh with
      | true => simp [hs] at h; exact triv h.symm
      | false =>
        cases hw : A.own with
        | false => simp [hs, hw] at h
        | true =>
        simp only [hs, hw, cond_false, cond_true, Option.some.injEq] at h
        subst h
        have harr : st.arr a = some A := by simp [St.arr, hA]
        have hown : ∀ p ∈ G.HA a, Owns G st (true, a) p.1 := fun p hp => ⟨⟨A, harr, hs⟩, p, hp, rfl⟩
        have hnd := hm.nd a A harr hs
        let S' : Mem := fun b => match (G.HA a).find? (fun q => q.1 == b) with | some p => some p.2 | none => G.S b
        have hS' : ∀ p ∈ G.HA a, S' p.1 = some p.2 := fun p hp => by simp only [S', nodup_find hnd hp]
        have hSS : ∀ b o, G.S b = some o → S' b = some o := fun b o hb => by
          simp only [S']
          cases hf : (G.HA a).find? (fun q => q.1 == b) with
          | none => exact hb
          | some p =>
            have hp := List.mem_of_find?_eq_some hf
            have hpb : p.1 = b := by simpa using List.find?_some hf
            have := hm.dS _ _ (hown p hp)
            rw [hpb, hb] at this; cases this
        have hSc : ∀ b o, S' b = some o → G.S b = some o ∨ (b, o) ∈ G.HA a := fun b o hb => by
          simp only [S'] at hb
          cases hf : (G.HA a).find? (fun q => q.1 == b) with
          | none => rw [hf] at hb; exact .inl hb
          | some p =>
            rw [hf] at hb
            have hp := List.mem_of_find?_eq_some hf
            have hpb : p.1 = b := by simpa using List.find?_some hf
            cases hb; subst hpb; exact .inr hp
        have hsub : G.Sub { G with S := S' } := ⟨hSS, rfl, rfl, rfl, rfl, rfl⟩
        have hOwn : ∀ x b, Owns { G with S := S' } (st.setArr a { A with sh := true }) x b → Owns G st x b ∧ x ≠ (true, a) := fun x b hx => by
          obtain ⟨k, n⟩ := x
          cases k with
          | false => exact ⟨hx, by simp⟩
          | true =>
            obtain ⟨⟨B, hB, hBs⟩, hp⟩ := hx
            rw [arr_setArr] at hB
            by_cases e : a = n
            · simp only [e, if_true, Option.some.injEq] at hB; rw [← hB] at hBs; cases hBs
            · simp only [e, if_false] at hB
              exact ⟨⟨⟨B, hB, hBs⟩, hp⟩, by simp; exact fun h => e h.symm⟩
        refine ⟨{ G with S := S' }, ?_, hsub, ⟨rfl, fun _ => rfl, fun _ => rfl, fun o j l => by simp, rfl⟩⟩
        refine { sl := hm.sl, sh := ?_, ob := ?_, ar := ?_, ah := ?_, nd := ?_, dis := ?_, dS := ?_, inn := ?_, s0 := ?_, sn := ?_, fr := hm.fr, sz := hm.sz, os := hm.os, tp := hm.tp, out := hm.out, pin := hm.pin, bv := hm.bv }
        · intro b o hb
          rcases hSc b o hb with h | h
          · exact hm.sh b o h
          · exact hm.ah a A harr hs _ h
        · intro o ls ho
          obtain ⟨arr, elem, mid, h1, h2, h3⟩ := hm.ob o ls ho
          refine ⟨arr, elem, mid, h1, h2, ?_⟩
          unfold LeavesRel at h3 ⊢
          rw [resl_congr (st := st) (fun j l => by simp)]
          exact h3.imp fun _ _ => RelL.sub hsub
        · intro b B hB
          rw [arr_setArr] at hB
          by_cases e : a = b
          · subst e
            simp only [if_true, Option.some.injEq] at hB
            subst hB
            have h0 := hm.ar a A harr
            replace h0 := (arrRel_own hs hw).1 h0
            refine (arrRel_sh rfl).2 ?_
            rcases h0 with ⟨h1, h2, h3⟩ | ⟨b, cap, arr, elem, cells, rest, H', e1, e2, e3, e4, e5, e6⟩
            · exact ⟨rfl, .inl ⟨h1, none, 0, h3⟩⟩
            · refine ⟨rfl, .inr ⟨b, cap, arr, elem, (0, 0), [], cells, rest, e1, hS' (b, Obj.cells arr elem (0, 0)) (by rw [e2]; simp), e3, ?_, e5⟩⟩
              exact e6.share (S' := S') (fun c x H hp hr => Rep.share hSS hp hr) (fun p hp => hS' p (by rw [e2]; simp [hp]))
          · simp only [e, if_false] at hB
            exact (hm.ar b B hB).mono hSS rfl rfl (fun _ _ _ => ⟨rfl, rfl, rfl⟩)
        · intro b B hB hBs
          rw [arr_setArr] at hB
          by_cases e : a = b
          · simp only [e, if_true, Option.some.injEq] at hB; rw [← hB] at hBs; cases hBs
          · simp only [e, if_false] at hB; exact hm.ah b B hB hBs
        · intro b B hB hBs
          rw [arr_setArr] at hB
          by_cases e : a = b
          · simp only [e, if_true, Option.some.injEq] at hB; rw [← hB] at hBs; cases hBs
          · simp only [e, if_false] at hB; exact hm.nd b B hB hBs
        · exact fun x y b hx hy => hm.dis x y b (hOwn x b hx).1 (hOwn y b hy).1
        · intro x b hx
          obtain ⟨h1, h2⟩ := hOwn x b hx
          cases hS : S' b with
          | none => exact hS
          | some o =>
            rcases hSc b o hS with h | h
            · rw [hm.dS x b h1] at h; cases h
            · exact absurd (hm.dis x (true, a) b h1 (hown (b, o) h)) h2
        · exact fun x b hx => hm.inn x b (hOwn x b hx).1
        · exact fun b o hb => hSS b o (hm.s0 b o hb)
        · intro b o hb
          rcases hSc b o hb with h | h
          · exact hm.sn b o h
          · exact .inr (hm.inn _ _ (hown (b, o) h))
  | _ => simp only [St.share1, Option.some.injEq] at h; exact triv h.symm

theorem shareL_ok {X : Ctx} {w : World} : ∀ {ls : List Leaf} {st st' : St} {G : Gh}, st.shareL ls = some st' → RelM X st G w →
    ∃ G', RelM X st' G' w ∧ G.Sub G' ∧ Kept st st'
  | [], st, st', G, h, hm => by
    simp only [St.shareL, Option.some.injEq] at h; subst h; exact ⟨G, hm, .refl G, .refl _⟩
  | l :: ls, st, st', G, h, hm => by
    simp only [St.shareL] at h
    cases h1 : st.share1 l with
    | none => simp [h1] at h
    | some st1 =>
      simp only [h1] at h
      obtain ⟨G1, m1, s1, k1⟩ := share1_ok h1 hm
      obtain ⟨G2, m2, s2, k2⟩ := shareL_ok h m1
      exact ⟨G2, m2, s1.trans s2, k1.trans k2⟩

theorem shared_ok {X : Ctx} {w : World} {v : AVal} {st st' : St} {G : Gh} (h : v.shared st = some st') (hm : RelM X st G w) :
    ∃ G', RelM X st' G' w ∧ G.Sub G' ∧ Kept st st' := by
  cases v with
  | one l => exact share1_ok h hm
  | agg ls => exact shareL_ok h hm
  | tup vs => cases h
  | ifc t ls => exact shareL_ok h hm

end Go.Fx

/- The framework: structs of whole numbers, bools and strings, compared. -/
namespace Go.Fx
set_option linter.unusedVariables false
set_option linter.unusedSimpArgs false

def KdV : Kd → Value → Prop
  | .int k, v => ∃ n, v = .int k n
  | .bool, v => ∃ b, v = .bool b
  | .str, v => ∃ s, v = .string s
def cellEq : Value → Value → Bool
  | .int _ a, .int _ b => a == b
  | .bool a, .bool b => a == b
  | .string a, .string b => a == b
  | _, _ => false
def allEq : List Value → List Value → Bool
  | x :: r, y :: s => cellEq x y && allEq r s
  | _, _ => true
def eqFs (P : Program) (f : TypeId → Option (List Kd)) : List Field → Option (List Kd)
  | [] => some []
  | fl :: r => (match f fl.type, eqFs P f r with
    | some ks, some l => (bif fl.name != "_" && Nat.beq (P.cellsOf fl.type) ks.length && Nat.blt 0 ks.length then some (ks ++ l) else none)
    | _, _ => none)
def offs (P : Program) : List Field → Nat → Bool
  | [], _ => true
  | fl :: r, o => Nat.beq fl.offset o && offs P r (o + P.cellsOf fl.type)
/-- The cells' kinds of a type that is compared cell by cell. -/
def eqChk (P : Program) : Nat → TypeId → Option (List Kd)
  | 0, _ => none
  | m + 1, t => (match P.underlying t with
    | some .bool => some [.bool]
    | some (.int k) => some [.int k]
    | some .string => some [.str]
    | some (.struct fs) => (bif !P.stoodInHeld t && offs P fs.toList 0 then eqFs P (eqChk P m) fs.toList else none)
    | _ => none)

def IsV (P : Program) (t : TypeId) (xs : List Value) (x : Value) : Prop :=
  match P.underlying t with
  | some (.struct _) => x = .agg xs.toArray
  | _ => xs = [x]

section
variable {P : Program} (w : World)

theorem part_ok {m : Nat} {e : TypeId} {ks : List Kd} (h : eqChk P m e = some ks) (hc : P.cellsOf e = ks.length) {xs : Array Value} {off : Nat} (hl : off + ks.length ≤ xs.size) :
    ∃ a, (part e xs off).run P w = .ok a w ∧ IsV P e ((xs.toList.drop off).take ks.length) a := by
  cases m with
  | zero => cases h
  | succ m =>
    simp only [eqChk] at h
    have scal : ∀ {d : TypeDesc}, P.underlying e = some d → ks.length = 1 → (∀ fs, d ≠ .struct fs) → (isAgg e).run P w = .ok false w → ∃ a, (part e xs off).run P w = .ok a w ∧ IsV P e ((xs.toList.drop off).take ks.length) a := fun {d} hu h1 hs hg => by
      have hlt : off < xs.size := by omega
      refine ⟨xs[off], ?_, ?_⟩
      · simp [part, hg, hlt]
      · unfold IsV
        rw [hu]
        cases d <;> first | exact absurd rfl (hs _) | (simp only []; rw [h1]; apply List.ext_getElem?; intro i; cases i with
          | zero => simp [hlt]
          | succ i => simp; omega)
    split at h
    · rename_i hu; cases h; exact scal hu rfl (fun fs e => by cases e) (by simp [isAgg, run_underlying hu])
    · rename_i k hu; cases h; exact scal hu rfl (fun fs e => by cases e) (by simp [isAgg, run_underlying hu])
    · rename_i hu; cases h; exact scal hu rfl (fun fs e => by cases e) (by simp [isAgg, run_underlying hu])
    · rename_i fs hu
      obtain ⟨i, hi⟩ := info_of_underlying hu
      refine ⟨.agg (xs.extract off (off + P.cellsOf e)), by simp [part, isAgg, run_underlying hu, run_sizeOf w hi], ?_⟩
      unfold IsV
      rw [hu]
      simp only []
      rw [hc]
      congr 1
      apply Array.toList_inj.1
      rw [Array.toList_extract]
      simp [List.extract]
    · cases h

theorem allEq_append : ∀ {xs ys xs' ys' : List Value}, xs.length = ys.length → allEq (xs ++ xs') (ys ++ ys') = (allEq xs ys && allEq xs' ys')
  | [], [], _, _, _ => by simp [allEq]
  | x :: r, y :: s, xs', ys', h => by simp only [List.cons_append, allEq, allEq_append (xs := r) (ys := s) (by simpa using h), Bool.and_assoc]
  | [], _ :: _, _, _, h => by simp at h
  | _ :: _, [], _, _, h => by simp at h

def EqBelow (P : Program) (m : Nat) : Prop := ∀ (t : TypeId) (ks : List Kd), eqChk P m t = some ks → ∀ (d : Nat) (w : World) (x y : Value) (xs ys : List Value), All2 KdV ks xs → All2 KdV ks ys → IsV P t xs x → IsV P t ys y →
  (Op.equalIn (d + m) t x y).run P w = .ok (allEq xs ys) w
theorem all2_take {α β : Type} {R : α → β → Prop} : ∀ {ks ls : List α} {xs : List β}, All2 R (ks ++ ls) xs → All2 R ks (xs.take ks.length) ∧ All2 R ls (xs.drop ks.length)
  | [], ls, xs, h => ⟨by simp [All2], by simpa using h⟩
  | k :: ks, ls, x :: xs, h => by
    obtain ⟨h1, h2⟩ := h
    obtain ⟨h3, h4⟩ := all2_take (ks := ks) h2
    exact ⟨⟨h1, by simpa using h3⟩, by simpa using h4⟩
  | k :: ks, ls, [], h => h.elim

theorem fields_ok {m d : Nat} (ih : EqBelow P m) (xs ys : Array Value) : ∀ {fs : List Field} {off : Nat} {ks : List Kd}, eqFs P (eqChk P m) fs = some ks → offs P fs off = true → All2 KdV ks (xs.toList.drop off) → All2 KdV ks (ys.toList.drop off) →
    (Op.eqFields (d + m) xs ys fs).run P w = .ok (allEq (xs.toList.drop off) (ys.toList.drop off)) w
  | [], off, ks, h, _, hx, hy => by
    cases h
    have e1 : xs.toList.drop off = [] := by cases hq : xs.toList.drop off with
      | nil => rfl
      | cons a r => rw [hq] at hx; exact hx.elim
    rw [e1]; simp [Op.eqFields, allEq]
  | f :: r, off, ks, h, ho, hx, hy => by
    simp only [eqFs] at h
    split at h
    · rename_i k1 k2 h1 h2
      cases hb : (f.name != "_" && Nat.beq (P.cellsOf f.type) k1.length && Nat.blt 0 k1.length) with
      | false => rw [hb] at h; cases h
      | true =>
        rw [hb] at h
        cases h
        simp only [Bool.and_eq_true, bne_iff_ne] at hb
        obtain ⟨⟨hn, hc⟩, hpos⟩ := hb
        have hpos : 0 < k1.length := by simpa [Nat.blt_eq] using hpos
        have hc := Nat.eq_of_beq_eq_true hc
        simp only [offs, Bool.and_eq_true] at ho
        obtain ⟨ho1, ho2⟩ := ho
        have ho1 := Nat.eq_of_beq_eq_true ho1
        obtain ⟨x1, x2⟩ := all2_take hx
        obtain ⟨y1, y2⟩ := all2_take hy
        rw [List.drop_drop] at x2 y2
        have lx : off + k1.length ≤ xs.size := by
          have := All2.length hx
          simp at this
          omega
        have ly : off + k1.length ≤ ys.size := by
          have := All2.length hy
          simp at this
          omega
        obtain ⟨a, p1, v1⟩ := part_ok w h1 hc (xs := xs) (off := off) lx
        obtain ⟨b, p2, v2⟩ := part_ok w h1 hc (xs := ys) (off := off) ly
        have he := ih f.type k1 h1 d w a b _ _ x1 y1 v1 v2
        rw [hc] at ho2
        have ht := fields_ok (d := d) ih xs ys (fs := r) (off := off + k1.length) h2 ho2 x2 y2
        have e3 : xs.toList.drop off = (xs.toList.drop off).take k1.length ++ xs.toList.drop (off + k1.length) := by rw [← List.drop_drop, List.take_append_drop]
        have e4 : ys.toList.drop off = (ys.toList.drop off).take k1.length ++ ys.toList.drop (off + k1.length) := by rw [← List.drop_drop, List.take_append_drop]
        have hl : ((xs.toList.drop off).take k1.length).length = ((ys.toList.drop off).take k1.length).length := by rw [← All2.length x1, ← All2.length y1]
        rw [e3, e4, allEq_append hl]
        simp only [Op.eqFields, hn, ne_eq, not_false_eq_true, if_true, Sem.run_bind, ho1, p1, p2, he, Result.andThen_ok]
        cases allEq ((xs.toList.drop off).take k1.length) ((ys.toList.drop off).take k1.length) with
        | false => simp
        | true => simpa using ht
    · cases h

theorem eqBelow : ∀ m, EqBelow P m
  | 0 => fun t ks h => by cases h
  | m + 1 => fun t ks h d w x y xs ys hx hy vx vy => by
    simp only [eqChk] at h
    unfold IsV at vx vy
    split at h
    · rename_i hu
      cases h
      rw [hu] at vx vy
      simp only at vx vy
      subst vx vy
      obtain ⟨⟨a, rfl⟩, _⟩ := hx
      obtain ⟨⟨b, rfl⟩, _⟩ := hy
      rw [← Nat.add_assoc, Op.equalIn]
      simp [run_underlying hu, allEq, cellEq]
    · rename_i k hu
      cases h
      rw [hu] at vx vy
      simp only at vx vy
      subst vx vy
      obtain ⟨⟨a, rfl⟩, _⟩ := hx
      obtain ⟨⟨b, rfl⟩, _⟩ := hy
      rw [← Nat.add_assoc, Op.equalIn]
      simp [run_underlying hu, allEq, cellEq]
    · rename_i hu
      cases h
      rw [hu] at vx vy
      simp only at vx vy
      subst vx vy
      obtain ⟨⟨a, rfl⟩, _⟩ := hx
      obtain ⟨⟨b, rfl⟩, _⟩ := hy
      rw [← Nat.add_assoc, Op.equalIn]
      simp [run_underlying hu, allEq, cellEq]
    · rename_i fs hu
      cases hb : (!P.stoodInHeld t && offs P fs.toList 0) with
      | false => rw [hb] at h; cases h
      | true =>
        rw [hb] at h
        simp only [Bool.and_eq_true, Bool.not_eq_true'] at hb
        simp only [cond_true] at h
        rw [hu] at vx vy
        simp only at vx vy
        subst vx vy
        have hfs : P.fieldsOf t = fs := by simp [Program.fieldsOf, hu]
        rw [← Nat.add_assoc, run_equalIn_struct w (d + m) t _ _ (by rw [hfs]; exact hu) hb.1, hfs]
        have := fields_ok w (d := d) (eqBelow m) xs.toArray ys.toArray h hb.2 (by simpa using hx) (by simpa using hy)
        simpa using this
    · cases h

theorem guard_ok : ∀ {m : Nat} {t : TypeId} {ks : List Kd}, eqChk P m t = some ks → ∀ d, P.eqGuardType (d + m) t = false
  | 0, t, ks, h, d => by cases h
  | m + 1, t, ks, h, d => by
    simp only [eqChk] at h
    rw [← Nat.add_assoc, Program.eqGuardType]
    split at h
    · rename_i hu; simp [hu]
    · rename_i k hu; simp [hu]
    · rename_i hu; simp [hu]
    · rename_i fs hu
      simp only [hu]
      cases hb : (!P.stoodInHeld t && offs P fs.toList 0) with
      | false => rw [hb] at h; cases h
      | true =>
        rw [hb] at h
        simp only [cond_true] at h
        have key : ∀ {l : List Field} {ks : List Kd}, eqFs P (eqChk P m) l = some ks → ∀ f ∈ l, P.eqGuardType (d + m) f.type = false := by
          intro l
          induction l with
          | nil => intro ks _ f hf; cases hf
          | cons f r ih =>
            intro ks h g hg
            simp only [eqFs] at h
            split at h
            · rename_i k1 k2 h1 h2
              rcases List.mem_cons.1 hg with rfl | hg
              · exact guard_ok h1 d
              · exact ih h2 g hg
            · cases h
        rw [Array.any_eq_false']
        intro f hf
        simp [key h f (Array.mem_toList_iff.2 hf)]
    · cases h
end
end Go.Fx

/- The framework, fifth text: what is known of the program's types; reading; the operations that change no memory. -/
namespace Go.Fx
set_option linter.unusedVariables false
set_option linter.unusedSimpArgs false

def TDok : TD → TypeDesc → Prop
  | .int k, .int k' => k = k'
  | .bool, .bool => True
  | .str, .string => True
  | .slice e, .slice e' => e = e'
  | .struct fs, .struct fields => fs = fields.toList.map fun f => (f.offset, f.type)
  | .ptr e, .pointer e' => e = e'
  | .arr n e, .array n' e' => n = n' ∧ e = e'
  | .other, d => d.isRow = false ∧ (match d with | .int _ | .string | .slice _ => False | _ => True)
  | _, _ => False

def TIok (P : Program) (t : TypeId) (ti : TI) : Prop :=
  ∃ i d z, P.info? t = some i ∧ P.underlying t = some d ∧ i.size = ti.size ∧ i.bytes = ti.bytes ∧ i.zero = some z ∧ z.cells.toList = ti.zero ∧ TDok ti.desc d ∧
    (ti.desc.agg = false → ti.size = 1) ∧ ti.zero.length = ti.size ∧ ∀ ks, ti.desc.agg = true → ti.ty.bind kindsT = some ks → eqChk P 6 t = some ks

def TabOk (P : Program) (tab : Nat → Option TI) : Prop := ∀ t ti, tab t = some ti → TIok P t ti

theorem TDok.row {x : TD} {d : TypeDesc} (h : TDok x d) : d.isRow = x.agg := by
  cases x <;> cases d <;> simp_all [TDok, TypeDesc.isRow, TD.agg]

/-! ### Reading -/
theorem flat_ok {α : Type} {G : Gh} {R : List Value → α → Heap → Prop} {f : α → List Leaf} (hf : ∀ c x, R c x [] → All2 (RelL G) (f x) c) : ∀ {l : List α} {cs : List Value} {H : Heap}, H = [] → RepL R cs l H → All2 (RelL G) (l.flatMap f) cs
  | [], cs, H, _, h => by rw [h.1]; trivial
  | x :: l, cs, H, hH, ⟨c1, c2, H1, H2, e1, e2, r, rl⟩ => by
    obtain ⟨rfl, rfl⟩ := List.append_eq_nil_iff.1 (hH ▸ e2.symm : H1 ++ H2 = [])
    rw [e1, List.flatMap_cons]
    exact (hf _ _ r).append (flat_ok hf rfl rl)
theorem explode_ok {G : Gh} : ∀ {t : Ty} {d : t.den} {cs : List Value}, Rep G.S false t cs d [] → All2 (RelL G) (explode t d) cs
  | .int k, d, cs, h => by rw [h.1]; exact ⟨⟨_, by simp [Ty.agg], rfl, rfl⟩, trivial⟩
  | .bool, d, cs, h => by rw [h.1]; exact ⟨⟨_, by simp [Ty.agg], rfl, rfl⟩, trivial⟩
  | .str, d, cs, h => by rw [h.1]; exact ⟨⟨_, by simp [Ty.agg], rfl, rfl⟩, trivial⟩
  | .slice t, d, cs, h => by
    have hs := Rep.size h
    match cs, hs, h with
    | [v], _, h => exact ⟨⟨[v], by simp [Ty.agg], h⟩, trivial⟩
  | .pair a b, d, cs, h => by
    obtain ⟨c1, c2, H1, H2, rfl, hH, h1, h2⟩ := h
    obtain ⟨rfl, rfl⟩ := List.append_eq_nil_iff.1 hH.symm
    exact (explode_ok h1).append (explode_ok h2)
  | .one a, d, cs, h => by exact explode_ok (t := a) h
  | .arr n t, d, cs, h => flat_ok (fun c x hx => explode_ok (t := t) hx) rfl h.1

theorem get_ok {X : Ctx} {st : St} {G : Gh} {w : World} (hm : RelM X st G w) {t : Ty} {l : Leaf} {d : t.den} {v : Value} (h : l.get st t = some d) (r : RelL G l v) : RelL G (.dat t d) v := by
  cases l with
  | dat u e =>
    obtain ⟨rfl, rfl⟩ := cast?_some h
    exact r
  | nil =>
    cases t with
    | slice t =>
      simp only [Leaf.get, Option.some.injEq] at h; subst h
      simp only [RelL] at r; subst r
      exact ⟨_, by simp [Ty.agg], rfl, .inl ⟨rfl, none, 0, rfl⟩⟩
    | _ => simp [Leaf.get] at h
  | hdl a =>
    simp only [Leaf.get] at h
    cases hA : st.arr a with
    | none => simp [hA] at h
    | some A =>
      cases hs : A.sh with
      | false => simp [hA, hs] at h
      | true =>
        simp only [hA, hs, if_true] at h
        obtain ⟨e, hd⟩ := cast?_some h
        subst e
        subst hd
        have := hm.ar a A hA
        replace this := (arrRel_sh hs).1 this
        simp only [RelL] at r; subst r
        exact ⟨[G.ψ a], by simp [Ty.agg], this⟩
  | _ => simp [Leaf.get] at h

theorem get_leaf {X : Ctx} {st : St} {G : Gh} {w : World} (hm : RelM X st G w) {t : Ty} (ht : t.agg = false) {l : Leaf} {d : t.den} {v : Value} (h : l.get st t = some d) (r : RelL G l v) :
    Rep G.S false t [v] d [] := by
  obtain ⟨cs, e, hr⟩ := get_ok hm h r
  simp only [ht, Bool.false_eq_true, if_false] at e
  subst e; exact hr

theorem implode_ok {X : Ctx} {st : St} {G : Gh} {w : World} (hm : RelM X st G w) : ∀ {t : Ty} {ls r : List Leaf} {d : t.den} {vs : List Value}, implode st t ls = some (d, r) → All2 (RelL G) ls vs →
    ∃ c1 c2, vs = c1 ++ c2 ∧ Rep G.S false t c1 d [] ∧ All2 (RelL G) r c2 := by
  have leaf : ∀ {t : Ty}, t.agg = false → ∀ {ls r : List Leaf} {d : t.den} {vs : List Value},
      (match ls with | [] => none | l :: r => (l.get st t).map fun d => (d, r)) = some (d, r) → All2 (RelL G) ls vs →
      ∃ c1 c2, vs = c1 ++ c2 ∧ Rep G.S false t c1 d [] ∧ All2 (RelL G) r c2 := by
    intro t ht ls r d vs h a
    match ls, vs, h, a with
    | l :: ls, v :: vs, h, a =>
      simp only [Option.map_eq_some_iff, Prod.mk.injEq] at h
      obtain ⟨d', hd, rfl, rfl⟩ := h
      exact ⟨[v], vs, rfl, get_leaf hm ht hd a.1, a.2⟩
    | [], _, h, _ => simp at h
  intro t
  induction t with
  | int k => exact fun h a => leaf rfl h a
  | bool => exact fun h a => leaf rfl h a
  | str => exact fun h a => leaf rfl h a
  | slice t _ => exact fun h a => leaf rfl h a
  | pair a b iha ihb =>
    intro ls r d vs h al
    simp only [implode] at h
    cases h1 : implode st a ls with
    | none => simp [h1] at h
    | some p =>
      obtain ⟨x, r1⟩ := p
      simp only [h1] at h
      cases h2 : implode st b r1 with
      | none => simp [h2] at h
      | some q =>
        obtain ⟨y, r2⟩ := q
        simp only [h2, Option.some.injEq, Prod.mk.injEq] at h
        obtain ⟨rfl, rfl⟩ := h
        obtain ⟨c1, c2, rfl, g1, a1⟩ := iha h1 al
        obtain ⟨c3, c4, rfl, g2, a2⟩ := ihb h2 a1
        exact ⟨c1 ++ c3, c4, by simp, ⟨c1, c3, [], [], rfl, rfl, g1, g2⟩, a2⟩
  | one a iha =>
    intro ls r d vs h al
    exact iha h al
  | arr n t ih =>
    intro ls r d vs h al
    have key : ∀ (n : Nat) {ls r : List Leaf} {d : List t.den} {vs : List Value}, implN (implode st t) n ls = some (d, r) → All2 (RelL G) ls vs →
        ∃ c1 c2, vs = c1 ++ c2 ∧ (RepL (Rep G.S false t) c1 d [] ∧ d.length = n) ∧ All2 (RelL G) r c2 := by
      intro n
      induction n with
      | zero =>
        intro ls r d vs h al
        simp only [implN, Option.some.injEq, Prod.mk.injEq] at h
        obtain ⟨rfl, rfl⟩ := h
        exact ⟨[], vs, rfl, ⟨⟨rfl, rfl⟩, rfl⟩, al⟩
      | succ n ihn =>
        intro ls r d vs h al
        simp only [implN] at h
        cases h1 : implode st t ls with
        | none => simp [h1] at h
        | some p =>
          obtain ⟨x, r1⟩ := p
          simp only [h1] at h
          cases h2 : implN (implode st t) n r1 with
          | none => simp [h2] at h
          | some q =>
            obtain ⟨y, r2⟩ := q
            simp only [h2, Option.some.injEq, Prod.mk.injEq] at h
            obtain ⟨rfl, rfl⟩ := h
            obtain ⟨c1, c2, rfl, g1, a1⟩ := ih h1 al
            obtain ⟨c3, c4, rfl, ⟨g2, g3⟩, a2⟩ := ihn h2 a1
            exact ⟨c1 ++ c3, c4, by simp, ⟨⟨c1, c3, [], [], rfl, rfl, g1, g2⟩, by simp [g3]⟩, a2⟩
    exact key n h al

theorem avget_ok {X : Ctx} {st : St} {G : Gh} {w : World} (hm : RelM X st G w) {t : Ty} {v : AVal} {d : t.den} {x : Value} (h : v.get st t = some d) (r : RelV G v x) : RelL G (.dat t d) x := by
  cases v with
  | one l => exact get_ok hm h r
  | agg ls =>
    simp only [AVal.get] at h
    cases ht : t.agg with
    | false => simp [ht] at h
    | true =>
      simp only [ht, cond_true] at h
      cases hi : implode st t ls with
      | none => simp [hi] at h
      | some p =>
        obtain ⟨e, r'⟩ := p
        cases r' with
        | cons => simp [hi] at h
        | nil =>
          simp only [hi, Option.some.injEq] at h; subst h
          obtain ⟨cs, rfl, ha⟩ := r
          obtain ⟨c1, c2, rfl, g1, a1⟩ := implode_ok hm hi ha
          cases c2 with
          | cons => exact a1.elim
          | nil => exact ⟨c1, by simp [ht], g1⟩
  | tup vs => simp [AVal.get] at h
  | ifc t' ls => simp [AVal.get] at h

theorem cell_val {X : Ctx} {st : St} {G : Gh} {w : World} (hm : RelM X st G w) {l : Leaf} {v : Value} (hc : l.cell = true) (r : RelL G l v) : v.oneCell' = true ∧ v.cells = #[v] := by
  cases l with
  | any => cases hc
  | bas => cases hc
  | und => cases hc
  | dat t d =>
    obtain ⟨cs, e, hr⟩ := r
    simp only [Leaf.cell, Bool.not_eq_true'] at hc
    simp only [hc, Bool.false_eq_true, if_false] at e
    subst e
    cases t with
    | int k => cases hr.1; exact ⟨rfl, rfl⟩
    | bool => cases hr.1; exact ⟨rfl, rfl⟩
    | str => cases hr.1; exact ⟨rfl, rfl⟩
    | slice t =>
      rcases hr with ⟨_, ⟨_, base, cap, h⟩ | ⟨b, cap, arr, elem, fz, pre, cells, rest, h, _⟩⟩ <;> cases h <;> exact ⟨rfl, rfl⟩
    | pair a b => cases hc
    | one a => cases hc
    | arr n a => cases hc
  | nil => cases r; exact ⟨rfl, rfl⟩
  | nilp => cases r; exact ⟨rfl, rfl⟩
  | hdl a => rcases hm.sl a with ⟨b, n, c, h⟩ | ⟨q, h⟩ <;> (simp only [RelL] at r; rw [r, h]; exact ⟨rfl, rfl⟩)
  | ptr o off => cases r; exact ⟨rfl, rfl⟩
  | elt a sz i off => obtain ⟨b, len, cap, h1, h2, rfl⟩ := r; exact ⟨rfl, rfl⟩
  | she t d off => obtain ⟨b, arr, elem, fz, pre, cs, post, h1, h2, h3, rfl⟩ := r; exact ⟨rfl, rfl⟩
  | fn f => cases r; exact ⟨rfl, rfl⟩
  | ga t l => obtain ⟨b, arr, elem, fz, cs, rest, h1, h2, h3, rfl⟩ := r; exact ⟨rfl, rfl⟩

theorem leaves_ok {X : Ctx} {st : St} {G : Gh} {w : World} (hm : RelM X st G w) {v : AVal} {ls : List Leaf} {x : Value} (h : v.leaves = some ls) (r : RelV G v x) : All2 (RelL G) ls x.cells.toList := by
  have key : ∀ l : Leaf, v = .one l → l.cell = true → ls = [l] → All2 (RelL G) ls x.cells.toList := fun l hv hc hl => by
    subst hv hl
    rw [(cell_val hm hc r).2]; exact ⟨r, trivial⟩
  have dt : ∀ (t : Ty) (d : t.den), v = .one (.dat t d) → t.agg = true → ls = explode t d → All2 (RelL G) ls x.cells.toList := fun t d hv ht hl => by
    subst hv hl
    obtain ⟨cs, e, hr⟩ := r
    simp only [ht, if_true] at e
    subst e
    exact explode_ok hr
  unfold AVal.leaves at h
  split at h
  · simp only [Option.some.injEq] at h; exact dt _ _ rfl rfl h.symm
  · simp only [Option.some.injEq] at h; exact dt _ _ rfl rfl h.symm
  · simp only [Option.some.injEq] at h; exact dt _ _ rfl rfl h.symm
  · rename_i l _ _ _
    cases hc : l.cell <;> simp [hc] at h
    exact key l rfl hc h.symm
  · simp only [Option.some.injEq] at h; subst h
    obtain ⟨cs, rfl, ha⟩ := r
    exact ha
  · cases h

theorem slots_ok {α β : Type} {R : α → β → Prop} {ls : List α} {vs : List β} {off n : Nat} {c : List α} (a : All2 R ls vs) (h : (bif Nat.ble (off + n) ls.length then some ((ls.drop off).take n) else none) = some c) :
    ∃ pre mid post, vs = pre ++ (mid ++ post) ∧ pre.length = off ∧ mid.length = n ∧ All2 R c mid := by
  cases hb : Nat.ble (off + n) ls.length with
  | false => simp [hb] at h
  | true =>
    have hle : off + n ≤ ls.length := Nat.le_of_ble_eq_true hb
    simp only [hb, cond_true, Option.some.injEq] at h
    subst h
    have hl := a.length
    refine ⟨vs.take off, (vs.drop off).take n, (vs.drop off).drop n, ?_, by simp; omega, by simp; omega, (a.drop off).take n⟩
    rw [List.take_append_drop, List.take_append_drop]

theorem packV_ok {G : Gh} {c : List Leaf} {mid : List Value} (a : All2 (RelL G) c mid) : RelV G (packV true c) (.agg mid.toArray) := ⟨mid, rfl, a⟩
theorem packV_one {G : Gh} {c : List Leaf} {v : Value} (a : All2 (RelL G) c [v]) : RelV G (packV false c) v := by
  match c, a with
  | [l], a => exact a.1

/-- A value that is loaded from some cells: of the type's kind. -/
def pval (agg : Bool) (mid : List Value) : Value := if agg then .agg mid.toArray else mid.headD undef
theorem packV_pval {G : Gh} {g : Bool} {c : List Leaf} {mid : List Value} (hg : g = false → mid.length = 1) (a : All2 (RelL G) c mid) : RelV G (packV g c) (pval g mid) := by
  cases g with
  | true => exact packV_ok a
  | false =>
    match mid, hg rfl with
    | [v], _ => exact packV_one a

theorem run_loadAt {P : Program} {w : World} {t : TypeId} {ti : TI} (hT : TIok P t ti) {b o : Nat} {mid : List Value} (hl : mid.length = ti.size) (hc : w.rangeAt b o mid) :
    (Instr.loadAt t (.pointer (some ⟨b, o, none⟩))).run P w = .ok (pval ti.desc.agg mid) w := by
  obtain ⟨i, d, z, h1, h2, h3, h4, h5, h6, h7, h8, h9⟩ := hT
  have hrow := h7.row
  cases hg : ti.desc.agg with
  | true =>
    exact run_loadAt_mid w b o t mid d hc h2 (hrow.trans hg) (by rw [h1, hl, ← h3]; rfl)
  | false =>
    have h1' := h8 hg
    rw [h1'] at hl
    match mid, hl, hc with
    | [v], _, hc =>
      have hcell := hc 0 v rfl
      have hagg : (isAgg t).run P w = .ok false w := by
        unfold isAgg
        rw [Sem.run_bind, run_underlying h2 w]
        rw [hg] at hrow
        cases d <;> simp_all [TypeDesc.isRow]
      simp only [Nat.add_zero] at hcell
      simp [Instr.loadAt, Instr.sureAddr, loadVar, hagg, hcell, pval]

theorem rangeAt_of {w : World} {b o : Nat} {arr : Array Value} {elem : TypeId} {fz : Nat × Nat} {pre mid post : List Value} (h : w.heap[b]? = some (.cells arr elem fz)) (ha : arr.toList = pre ++ (mid ++ post)) (ho : pre.length = o) : w.rangeAt b o mid := by
  intro j v hj
  have hlt : j < mid.length := (List.getElem?_eq_some_iff.1 hj).1
  simp only [World.cell?, h, Option.isSome_none, Bool.false_eq_true, if_false]
  rw [← Array.getElem?_toList, ha, ← ho, List.getElem?_append_right (by omega), Nat.add_sub_cancel_left, List.getElem?_append_left hlt, hj]

/-! ### load -/
section ops
variable {P : Program} {E : Env} (hE : TabOk P E.tab) {X : Ctx} {st : St} {G : Gh} {w : World} {R : Type} {r : R}
include hE

theorem opLoad_ok {T : TypeId} {x : AVal} {vx : Value} {K : AVal → St → Option R} (h : opLoad E T x st K = some r) (hm : RelM X st G w) (hx : RelV G x vx) :
    ∃ av v, (Instr.loadAt T vx).run P w = .ok v w ∧ RelV G av v ∧ K av st = some r := by
  unfold opLoad at h
  cases hT : E.tab T with
  | none => simp [hT] at h
  | some ti =>
    simp only [hT] at h
    have hti := hE T ti hT
    have h1 : ti.desc.agg = false → ti.size = 1 := by obtain ⟨_, _, _, _, _, _, _, _, _, _, h8, _⟩ := hti; exact h8
    cases x with
    | agg ls => simp [AVal.leaf] at h
    | tup ls => simp [AVal.leaf] at h
    | ifc t ls => simp [AVal.leaf] at h
    | one l =>
      simp only [AVal.leaf] at h
      cases l with
      | ptr o off =>
        simp only at h
        cases ho : st.obj o with
        | none => simp [ho] at h
        | some ls =>
          simp only [ho] at h
          cases hs : slots (st.resl o 0 ls) off ti.size with
          | none => simp [hs] at h
          | some c =>
            simp only [hs] at h
            obtain ⟨arr, elem, mid, e1, e2, e3⟩ := hm.ob o ls ho
            obtain ⟨p1, m, q1, rfl, f2, f3, f4⟩ := slots_ok e3 hs
            cases hx
            refine ⟨_, _, run_loadAt hti f3 (rangeAt_of (pre := G.pre o ++ p1) (post := q1 ++ G.post o) e1 (by rw [e2]; simp) (by simp [f2])), packV_pval (fun hg => by rw [f3, h1 hg]) f4, h⟩
      | she t d off =>
        simp only at h
        cases hs : slots (explode t d) off ti.size with
        | none => simp [hs] at h
        | some c =>
          simp only [hs] at h
          obtain ⟨b, arr, elem, fz, pre, cs, post, e1, e2, e3, rfl⟩ := hx
          obtain ⟨p1, m, q1, rfl, f2, f3, f4⟩ := slots_ok (explode_ok e3) hs
          refine ⟨_, _, run_loadAt hti f3 (rangeAt_of (pre := pre ++ p1) (post := q1 ++ post) (hm.sh _ _ e1) (by rw [e2]; simp) (by simp [f2])), packV_pval (fun hg => by rw [f3, h1 hg]) f4, h⟩
      | ga t l =>
        simp only at h
        split at h
        · rename_i n e hd
          cases hb : (Nat.beq l.length n && Nat.beq ti.size (n * t.size)) with
          | false => simp [hb] at h
          | true =>
            simp only [hb, cond_true] at h
            simp only [Bool.and_eq_true] at hb
            have e1 := Nat.eq_of_beq_eq_true hb.1
            have e2 := Nat.eq_of_beq_eq_true hb.2
            obtain ⟨b, arr, elem, fz, cs, rest, g1, g2, g3, rfl⟩ := hx
            have hl : cs.length = ti.size := by rw [RepL.size (n := t.size) (fun c x H h => Rep.size h) g3, e1, e2]
            have hag : ti.desc.agg = true := by rw [hd]; rfl
            refine ⟨_, _, run_loadAt hti hl (rangeAt_of (pre := []) (post := rest) (hm.sh _ _ g1) (by rw [g2]; rfl) rfl), ?_, h⟩
            rw [hag]
            exact ⟨cs, rfl, g3, e1⟩
        · cases h
      | elt a sz i off =>
        simp only at h
        cases hA : st.arr a with
        | none => simp [hA] at h
        | some A =>
          simp only [hA] at h
          cases hb : (A.deep || A.sh || !Nat.beq sz A.t.size) with
          | true => simp [hb] at h
          | false =>
            simp only [hb, cond_false] at h
            simp only [Bool.or_eq_false_iff, Bool.not_eq_false'] at hb
            obtain ⟨⟨hd, hsh⟩, hsz⟩ := hb
            have hsz : sz = A.t.size := Nat.eq_of_beq_eq_true hsz
            obtain ⟨d, hd1, h⟩ := Option.bind_eq_some_iff.1 h
            cases hs : slots (explode A.t d) off ti.size with
            | none => simp [hs] at h
            | some c =>
              simp only [hs] at h
              obtain ⟨b, len, cap, g1, g2, rfl⟩ := hx
              have har := hm.ar a A hA
              replace har := (arrRel_own hsh (flat_own hd)).1 har
              rw [hd] at har
              have hi : A.l[i]? = some d := by simpa [idx] using hd1
              rcases har with ⟨e1, e2, e3⟩ | ⟨b', cap', arr, elem, cells, rest, H', e1, e2, e3, e4, e5, e6⟩
              · rw [e1] at hi; simp at hi
              · simp only [List.cons.injEq, and_true] at e1
                rw [e1] at g1
                cases g1
                have hblk := hm.ah a A hA hsh (b, Obj.cells arr elem (0, 0)) (by rw [e2]; simp)
                obtain ⟨pre, cc, post, Hp, Hc, Hq, k1, k2, k3, k4, k5⟩ := RepL.at (fun c x H hr => Rep.size hr) e6 hi
                have k4' : Rep G.S false A.t cc d [] := by have e := Rep.noHeap k4; rw [e] at k4; exact k4
                obtain ⟨p1, m, q1, rfl, f2, f3, f4⟩ := slots_ok (explode_ok k4') hs
                refine ⟨_, _, run_loadAt hti f3 (rangeAt_of (pre := pre ++ p1) (post := q1 ++ (post ++ rest)) hblk (by rw [e3, k1]; simp) (by simp [k2, f2, hsz])), packV_pval (fun hg => by rw [f3, h1 hg]) f4, h⟩
      | _ => simp at h
end ops
end Go.Fx

/- The framework, sixth text: the other operations that change no memory. -/
namespace Go.Fx
set_option linter.unusedVariables false
set_option linter.unusedSimpArgs false

theorem TIok.struct {P : Program} {t : TypeId} {s b : Nat} {y : Option Ty} {fs : List (Nat × TypeId)} {z : List Value} (h : TIok P t ⟨s, b, y, .struct fs, z⟩) {f off : Nat} {ft : TypeId} (hf : fs[f]? = some (off, ft)) :
    ∃ (fields : Array Field) (fld : Field), P.underlying t = some (.struct fields) ∧ fields[f]? = some fld ∧ fld.offset = off ∧ fld.type = ft := by
  obtain ⟨i, d, z', h1, h2, h3, h4, h5, h6, h7, h8, h9⟩ := h
  cases d with
  | struct fields =>
    simp only [TDok] at h7
    subst h7
    rw [List.getElem?_map, Array.getElem?_toList] at hf
    cases hq : fields[f]? with
    | none => simp [hq] at hf
    | some fld => simp [hq] at hf; exact ⟨fields, fld, h2, hq, hf.1, hf.2⟩
  | _ => simp [TDok] at h7

theorem TIok.und {P : Program} {t : TypeId} {ti : TI} (h : TIok P t ti) : ∃ d, P.underlying t = some d ∧ TDok ti.desc d := by
  obtain ⟨i, d, z, h1, h2, h3, h4, h5, h6, h7, _⟩ := h; exact ⟨d, h2, h7⟩
theorem TIok.slice {P : Program} {t : TypeId} {s b : Nat} {y : Option Ty} {e : TypeId} {z : List Value} (h : TIok P t ⟨s, b, y, .slice e, z⟩) : P.underlying t = some (.slice e) := by
  obtain ⟨d, h1, h2⟩ := h.und
  cases d <;> simp_all [TDok]
theorem TIok.str {P : Program} {t : TypeId} {s b : Nat} {y : Option Ty} {z : List Value} (h : TIok P t ⟨s, b, y, .str, z⟩) : P.underlying t = some .string := by
  obtain ⟨d, h1, h2⟩ := h.und
  cases d <;> simp_all [TDok]
theorem TIok.arr {P : Program} {t : TypeId} {s b : Nat} {y : Option Ty} {n : Nat} {e : TypeId} {z : List Value} (h : TIok P t ⟨s, b, y, .arr n e, z⟩) : P.underlying t = some (.array n e) := by
  obtain ⟨d, h1, h2⟩ := h.und
  cases d <;> simp_all [TDok]
theorem TIok.size {P : Program} {t : TypeId} {ti : TI} (h : TIok P t ti) (w : World) : (sizeOf t).run P w = .ok ti.size w := by
  obtain ⟨i, d, z, h1, h2, h3, _⟩ := h
  simp [sizeOf, typeInfo, h1, h3]
theorem TIok.isAgg {P : Program} {t : TypeId} {ti : TI} (h : TIok P t ti) (w : World) : (isAgg t).run P w = .ok ti.desc.agg w := by
  obtain ⟨d, h1, h2⟩ := h.und
  have := h2.row
  unfold Go.isAgg
  rw [Sem.run_bind, run_underlying h1 w]
  cases d <;> simp_all [TypeDesc.isRow]

theorem intof {G : Gh} {v : AVal} {k : IntKind} {n : Int} {x : Value} (h : v.int? = some (k, n)) (r : RelV G v x) : x = .int k n := by
  unfold AVal.int? at h
  split at h
  · simp only [Option.some.injEq, Prod.mk.injEq] at h
    obtain ⟨rfl, rfl⟩ := h
    obtain ⟨cs, e, hr⟩ := r
    simp only [Ty.agg, Bool.false_eq_true, if_false] at e
    subst e
    cases hr.1; rfl
  · cases h
theorem boolof {G : Gh} {v : AVal} {n : Bool} {x : Value} (h : v.bool? = some n) (r : RelV G v x) : x = .bool n := by
  unfold AVal.bool? at h
  split at h
  · simp only [Option.some.injEq] at h; subst h
    obtain ⟨cs, e, hr⟩ := r
    simp only [Ty.agg, Bool.false_eq_true, if_false] at e
    subst e
    cases hr.1; rfl
  · cases h
theorem strof {G : Gh} {v : AVal} {n : Str} {x : Value} (h : v.str? = some n) (r : RelV G v x) : x = strV n := by
  unfold AVal.str? at h
  split at h
  · simp only [Option.some.injEq] at h; subst h
    obtain ⟨cs, e, hr⟩ := r
    simp only [Ty.agg, Bool.false_eq_true, if_false] at e
    subst e
    cases hr.1; rfl
  · cases h
theorem relInt {G : Gh} (k : IntKind) (n : Int) : RelV G (.one (.dat (.int k) n)) (.int k n) := ⟨_, by simp [Ty.agg], rfl, rfl⟩
theorem relBool {G : Gh} (b : Bool) : RelV G (.one (.dat .bool b)) (.bool b) := ⟨_, by simp [Ty.agg], rfl, rfl⟩
theorem relStr {G : Gh} (s : Str) : RelV G (.one (.dat .str s)) (strV s) := ⟨_, by simp [Ty.agg], rfl, rfl⟩

theorem sizeStr (s : Str) : (⟨s.toArray⟩ : ByteArray).size = s.length := by simp [ByteArray.size]

theorem idx_some {α : Type} {l : List α} {n : Int} {x : α} (h : idx l n = some x) : 0 ≤ n ∧ l[n.toNat]? = some x ∧ n < (l.length : Int) := by
  unfold idx at h
  by_cases h0 : 0 ≤ n
  · simp only [h0, decide_true, cond_true] at h
    have := (List.getElem?_eq_some_iff.1 h).1
    exact ⟨h0, h, by omega⟩
  · simp [h0] at h
theorem sub_some {α : Type} {l : List α} {i j : Int} {x : List α} (h : sub l i j = some x) : 0 ≤ i ∧ i ≤ j ∧ j ≤ (l.length : Int) ∧ x = (l.take j.toNat).drop i.toNat := by
  unfold sub at h
  by_cases h0 : 0 ≤ i <;> by_cases h1 : i ≤ j <;> by_cases h2 : j ≤ (l.length : Int) <;> simp [h0, h1, h2] at h
  exact ⟨h0, h1, h2, h.symm⟩
theorem app_some {α : Type} {l m r : List α} (h : app l m = some r) : l.length + m.length ≤ 4294967296 ∧ r = l ++ m := by
  unfold app at h
  by_cases h0 : l.length + m.length ≤ 4294967296 <;> simp [h0] at h
  exact ⟨h0, h.symm⟩

section ops
variable {P : Program} {E : Env} (hE : TabOk P E.tab) {X : Ctx} {st : St} {G : Gh} {w : World} {R : Type} {r : R}
include hE

theorem opFieldAddr_ok {T : TypeId} {x : AVal} {vx : Value} {f : Nat} {K : AVal → St → Option R} (h : opFieldAddr E T x f st K = some r) (hx : RelV G x vx) :
    ∃ av v, (Instr.fieldAt T vx f).run P w = .ok v w ∧ RelV G av v ∧ K av st = some r := by
  unfold opFieldAddr at h
  split at h
  · rename_i s b y fs z hT
    cases hf : fs[f]? with
    | none => simp [hf] at h
    | some p =>
      obtain ⟨off, ft⟩ := p
      simp only [hf] at h
      cases hF : E.tab ft with
      | none => simp [hF] at h
      | some fi =>
        simp only [hF] at h
        cases hz : Nat.beq fi.size 0 with
        | true => simp [hz] at h
        | false =>
          simp only [hz, cond_false] at h
          have hz' : fi.size ≠ 0 := fun e => by simp [e] at hz
          obtain ⟨fields, fld, g1, g2, rfl, rfl⟩ := (hE T _ hT).struct hf
          have hsz := (hE _ _ hF).size w
          have hrun : ∀ b o, (Instr.fieldAt T (.pointer (some ⟨b, o, none⟩)) f).run P w = .ok (.pointer (some ⟨b, o + fld.offset, none⟩)) w := fun b o => by
            simp [Instr.fieldAt, run_underlying g1, g2, Instr.sureAddr, fieldPlace, hsz, hz', Addr.add_mid]
          cases x with
          | agg ls => simp [AVal.leaf] at h
          | tup ls => simp [AVal.leaf] at h
          | ifc t ls => simp [AVal.leaf] at h
          | one l =>
            simp only [AVal.leaf] at h
            cases l with
            | ptr o off => cases hx; exact ⟨_, _, hrun _ _, by simp [RelV, RelL, Nat.add_assoc], h⟩
            | she t d off =>
              obtain ⟨b, arr, elem, fz, pre, cs, post, e1, e2, e3, rfl⟩ := hx
              exact ⟨.one (.she t d (off + fld.offset)), _, hrun _ _, ⟨b, arr, elem, fz, pre, cs, post, e1, e2, e3, by simp [Nat.add_assoc]⟩, h⟩
            | elt a sz i off =>
              obtain ⟨b, len, cap, g1, g2, rfl⟩ := hx
              exact ⟨.one (.elt a sz i (off + fld.offset)), _, hrun _ _, ⟨b, len, cap, g1, g2, by simp [Nat.add_assoc]⟩, h⟩
            | _ => simp at h
  · cases h

theorem opField_ok {T : TypeId} {x : AVal} {vx : Value} {f : Nat} {K : AVal → St → Option R} (h : opField E T x f st K = some r) (hm : RelM X st G w) (hx : RelV G x vx) (hagg : ∃ cs, vx = .agg cs) :
    ∃ av v, (Instr.field T vx f).run P w = .ok v w ∧ RelV G av v ∧ K av st = some r := by
  unfold opField at h
  split at h
  · rename_i s b y fs z ls hT hls
    cases hf : fs[f]? with
    | none => simp [hf] at h
    | some p =>
      obtain ⟨off, ft⟩ := p
      simp only [hf] at h
      cases hF : E.tab ft with
      | none => simp [hF] at h
      | some fi =>
        simp only [hF] at h
        cases hs : slots ls off fi.size with
        | none => simp [hs] at h
        | some c =>
          simp only [hs] at h
          obtain ⟨fields, fld, g1, g2, rfl, rfl⟩ := (hE T _ hT).struct hf
          obtain ⟨cs, rfl⟩ := hagg
          have hal := leaves_ok hm hls hx
          simp only [Value.cells] at hal
          obtain ⟨p1, m, q1, f1, f2, f3, f4⟩ := slots_ok hal hs
          have hfi := hE _ _ hF
          have hsz := hfi.size w
          have hag := hfi.isAgg w
          have h1 : fi.desc.agg = false → fi.size = 1 := by obtain ⟨_, _, _, _, _, _, _, _, _, _, h8, _⟩ := hfi; exact h8
          refine ⟨_, pval fi.desc.agg m, ?_, packV_pval (fun hg => by rw [f3, h1 hg]) f4, h⟩
          have hcs : cs = (p1 ++ (m ++ q1)).toArray := by rw [← f1]
          cases hg : fi.desc.agg with
          | true =>
            rw [hg] at hag
            have : cs.extract fld.offset (fld.offset + fi.size) = m.toArray := by
              apply Array.ext'
              rw [hcs]; simp [← f2, ← f3]
            simp [Instr.field, run_underlying g1, g2, asAgg, part, hag, hsz, this, pval]
          | false =>
            rw [hg] at hag
            rw [h1 hg] at f3
            match m, f3, hcs with
            | [u], _, hcs =>
              have : cs[fld.offset]? = some u := by rw [hcs]; simp [← f2]
              simp [Instr.field, run_underlying g1, g2, asAgg, part, hag, this, pval]
  · cases h

theorem opIndexAddr_ok {T : TypeId} {x i : AVal} {vx vi : Value} {K : AVal → St → Option R} (h : opIndexAddr E T x i st K = some r) (hm : RelM X st G w) (hx : RelV G x vx) (hi : RelV G i vi) :
    ∃ av v, (Instr.indexAt T vx vi).run P w = .ok v w ∧ RelV G av v ∧ K av st = some r := by
  unfold opIndexAddr at h
  split at h
  · rename_i s b y e z k n hT hn
    cases hei : E.tab e with
    | none => simp [hei] at h
    | some ei =>
      simp only [hei] at h
      have hu := (hE T _ hT).slice
      have hsz := (hE _ _ hei).size w
      cases intof hn hi
      have hrun : ∀ (b o len cap : Nat), 0 ≤ n → n < (len : Int) → (Instr.indexAt T (.slice (some ⟨b, o, none⟩) len cap) (.int k n)).run P w = .ok (.pointer (some ⟨b, o + n.toNat * ei.size, none⟩)) w := fun b o len cap h0 h1 => by
        simp [Instr.indexAt, asIntOf, run_underlying hu, h0, h1, hsz, Addr.add_mid]
      have shared : ∀ (t : Ty) (l : List t.den) (d : t.den), ei.size = t.size → idx l n = some d → ShBody G.S (RepL (Rep G.S false t)) [vx] l [] →
          ∃ v, (Instr.indexAt T vx (.int k n)).run P w = .ok v w ∧ RelV G (.one (.she t d 0)) v := fun t l d hz hd hsh => by
        obtain ⟨h0, hd', h1⟩ := idx_some hd
        rcases hsh with ⟨_, ⟨rfl, _⟩ | ⟨b, cap, arr, elem, fz, pre, cells, rest, e1, e2, e3, e4, elc⟩⟩
        · simp at hd'
        · simp only [List.cons.injEq, and_true] at e1
          subst e1
          obtain ⟨p, c, q, Hp, Hc, Hq, k1, k2, k3, k4, _⟩ := RepL.at (fun c x H hr => Rep.size hr) e4 hd'
          have k4' : Rep G.S false t c d [] := by have e := Rep.noHeap k4; rw [e] at k4; exact k4
          exact ⟨_, hrun b pre.length l.length cap h0 h1, ⟨b, arr, elem, fz, pre ++ p, c, q ++ rest, e2, by rw [e3, k1]; simp, k4', by simp [k2, hz]⟩⟩
      cases x with
      | agg ls => simp [AVal.leaf] at h
      | tup ls => simp [AVal.leaf] at h
      | ifc t ls => simp [AVal.leaf] at h
      | one l =>
        simp only [AVal.leaf] at h
        cases l with
        | dat t l =>
          cases t with
          | slice t =>
            simp only at h
            cases hz : Nat.beq ei.size t.size with
            | false => simp [hz] at h
            | true =>
              simp only [hz, cond_true] at h
              obtain ⟨d, hd, h⟩ := Option.bind_eq_some_iff.1 h
              obtain ⟨cs, e, hr⟩ := hx
              simp only [Ty.agg, Bool.false_eq_true, if_false] at e
              subst e
              obtain ⟨v, h1, h2⟩ := shared t l d (Nat.eq_of_beq_eq_true hz) hd hr
              exact ⟨_, v, h1, h2, h⟩
          | _ => simp at h
        | hdl a =>
          simp only at h
          cases hA : st.arr a with
          | none => simp [hA] at h
          | some A =>
            simp only [hA] at h
            cases hz : Nat.beq ei.size A.t.size with
            | false => simp [hz] at h
            | true =>
              cases hmp : A.isMp with
              | true => simp [hz, hmp] at h
              | false =>
              simp only [hz, hmp, Bool.not_false, Bool.and_self, cond_true] at h
              obtain ⟨d, hd, h⟩ := Option.bind_eq_some_iff.1 h
              have har := hm.ar a A hA
              simp only [RelV, RelL] at hx
              subst hx
              cases hs : A.sh with
              | true =>
                simp only [hs, cond_true] at h
                replace har := (arrRel_sh hs).1 har
                obtain ⟨v, h1, h2⟩ := shared A.t A.l d (Nat.eq_of_beq_eq_true hz) hd har
                exact ⟨_, v, h1, h2, h⟩
              | false =>
                simp only [hs, cond_false] at h
                obtain ⟨h0, hd', h1⟩ := idx_some hd
                rcases arrRel_slice hs hmp har with ⟨e1, _⟩ | ⟨b', cap', e1⟩
                · rw [e1] at hd'; simp at hd'
                · rw [e1]
                  refine ⟨.one (.elt a A.t.size n.toNat 0), _, hrun b' 0 A.l.length cap' h0 h1, ⟨b', A.l.length, cap', e1, by omega, ?_⟩, h⟩
                  simp [Nat.eq_of_beq_eq_true hz]
        | _ => simp at h
  · cases h

theorem opIndex_ok {T : TypeId} {x i : AVal} {vx vi : Value} {K : AVal → St → Option R} (h : opIndex E T x i st K = some r) (hx : RelV G x vx) (hi : RelV G i vi) :
    ∃ av v, (Instr.index T vx vi).run P w = .ok v w ∧ RelV G av v ∧ K av st = some r := by
  unfold opIndex at h
  split at h
  · rename_i s b y z hT
    split at h
    · rename_i s' k n hs hn
      obtain ⟨c, hc, h⟩ := Option.bind_eq_some_iff.1 h
      cases intof hn hi
      cases strof hs hx
      obtain ⟨h0, hd', h1⟩ := idx_some hc
      have hu := (hE T _ hT).str
      refine ⟨_, _, ?_, relInt .u8 _, h⟩
      have : (⟨s'.toArray⟩ : ByteArray)[n.toNat]? = some c := by
        have hlt : n.toNat < s'.length := (List.getElem?_eq_some_iff.1 hd').1
        have hlt' : n.toNat < (⟨s'.toArray⟩ : ByteArray).size := by simpa [ByteArray.size] using hlt
        rw [getElem?_pos (c := (⟨s'.toArray⟩ : ByteArray)) (i := n.toNat) hlt']
        have := (List.getElem?_eq_some_iff.1 hd').2
        simpa [ByteArray.getElem_eq_getElem_data] using this
      simp [Instr.index, asIntOf, run_underlying hu, strV, h0, this]
    · cases h
  · rename_i s b y m e z hT
    split at h
    · rename_i m' t l k n ei hn hei
      cases hc : (Nat.beq m m' && Nat.beq ei.size t.size && (bif t.agg then ei.desc.agg else !ei.desc.agg)) with
      | false => simp [hc] at h
      | true =>
        simp only [hc, cond_true] at h
        simp only [Bool.and_eq_true] at hc
        obtain ⟨⟨c1, c2⟩, c3⟩ := hc
        obtain rfl := Nat.eq_of_beq_eq_true c1
        have c2 := Nat.eq_of_beq_eq_true c2
        have c3 : ei.desc.agg = t.agg := by cases h1 : t.agg <;> cases h2 : ei.desc.agg <;> simp_all
        obtain ⟨d, hd, h⟩ := Option.bind_eq_some_iff.1 h
        cases intof hn hi
        obtain ⟨h0, hd', h1⟩ := idx_some hd
        obtain ⟨cs, e1, hr, hlen⟩ := hx
        simp only [Ty.agg, if_true] at e1
        subst e1
        have hu := (hE T _ hT).arr
        have hei := hE e ei hei
        have hsz := hei.size w
        have hag := hei.isAgg w
        have hone : ei.desc.agg = false → ei.size = 1 := by obtain ⟨_, _, _, _, _, _, _, _, _, _, h8, _⟩ := hei; exact h8
        obtain ⟨pre, c, post, Hp, Hc, Hq, k1, k2, k3, k4, _⟩ := RepL.at (fun c x H hr => Rep.size hr) hr hd'
        have k4 : Rep G.S false t c d [] := by have e := Rep.noHeap k4; rw [e] at k4; exact k4
        have hcl := Rep.size k4
        subst k1
        rw [hlen] at h1
        cases hg : ei.desc.agg with
        | true =>
          rw [hg] at hag
          refine ⟨.one (.dat t d), .agg c.toArray, ?_, (⟨c, by rw [← c3, hg]; rfl, k4⟩ : RelL G (.dat t d) _), h⟩
          have : (pre ++ (c ++ post)).toArray.extract (n.toNat * ei.size) (n.toNat * ei.size + ei.size) = c.toArray := by
            apply Array.ext'
            rw [c2, ← k2, ← hcl]; simp
          simp only [Instr.index, asIntOf, Sem.run_bind, run_underlying hu, Result.andThen_ok, Sem.run_pure, h0, h1, and_self, if_true, hsz, part, hag, this]
        | false =>
          rw [hg] at hag
          have e1 := hone hg
          have hc1 : c.length = 1 := by omega
          match c, hc1, k4 with
          | [u], _, k4 =>
            refine ⟨.one (.dat t d), u, ?_, (⟨[u], by rw [← c3, hg]; rfl, k4⟩ : RelL G (.dat t d) _), h⟩
            have hk : n.toNat = pre.length := by rw [k2, ← c2, e1]; omega
            simp [Instr.index, asIntOf, run_underlying hu, h0, h1, part, hag, hsz, e1, hk]
    · cases h
  · cases h

omit hE in
theorem boundOf_ok {lo : Option AVal} {vlo : Option Value} {d n : Int} (h : boundOf d lo = some n) (hr : ∀ a, lo = some a → ∃ v, vlo = some v ∧ RelV G a v) (hn : lo = none → vlo = none) :
    (vlo = none ∧ n = d) ∨ ∃ k, vlo = some (.int k n) := by
  cases lo with
  | none => simp only [boundOf, Option.some.injEq] at h; exact .inl ⟨hn rfl, h.symm⟩
  | some a =>
    simp only [boundOf, Option.map_eq_some_iff] at h
    obtain ⟨⟨k, m⟩, h1, h2⟩ := h
    simp only at h2; subst h2
    obtain ⟨v, h3, h4⟩ := hr a rfl
    exact .inr ⟨k, by rw [h3, intof h1 h4]⟩
end ops
end Go.Fx

/- The framework, seventh text: arithmetic, comparisons, conversions, structs that are built, lengths, parts of slices. -/
namespace Go.Fx
set_option linter.unusedVariables false
set_option linter.unusedSimpArgs false

theorem strV_append (a b : Str) : (⟨a.toArray⟩ : ByteArray) ++ ⟨b.toArray⟩ = ⟨(a ++ b).toArray⟩ := by
  apply ByteArray.ext
  simp

theorem binOp_int {P : Program} {w : World} (op : BinOp) (T : TypeId) (x y : Operand) (k : IntKind) (a b : Int) (hs : op ≠ .shl) (hs' : op ≠ .shr) :
    ((do eqGuard op T x y (.int k a) (.int k b); binOp op T (.int k a) (.int k b)) : Sem Value).run P w = (match op with
      | .add | .sub | .mul => Op.intArith op k a b
      | .quo | .rem => Op.intDiv op k a b
      | .and | .or | .xor | .andNot => Op.intBits op k a b
      | _ => Op.intCmp op a b : Sem Value).run P w := by
  cases op <;> first | exact absurd rfl hs | exact absurd rfl hs' | simp [eqGuard, binOp]

theorem isAgg_ok {G : Gh} {x : AVal} {v : Value} (h : x.isAgg = true) (r : RelV G x v) : ∃ cs, v = .agg cs := by
  cases x with
  | agg ls => obtain ⟨cs, e, _⟩ := r; exact ⟨_, e⟩
  | one l =>
    cases l with
    | dat t d =>
      cases t <;> simp [AVal.isAgg] at h <;> (obtain ⟨cs, e, _⟩ := r; simp only [Ty.agg, if_true] at e; exact ⟨_, e⟩)
    | _ => simp [AVal.isAgg] at h
  | _ => simp [AVal.isAgg] at h

theorem lk_kd {G : Gh} : ∀ {ks : List Kd} {ls : List Leaf} {vs : List Value}, lkOk ks ls = true → All2 (RelL G) ls vs → All2 KdV ks vs
  | [], [], [], _, _ => trivial
  | .int k :: r, .dat (.int k') d :: s, v :: vs, h, hr => by
    simp only [lkOk, Bool.and_eq_true, decide_eq_true_eq] at h
    obtain ⟨rfl, h⟩ := h
    cases intof (v := .one (.dat (.int k) d)) rfl hr.1
    exact ⟨⟨d, rfl⟩, lk_kd (ks := r) h hr.2⟩
  | .bool :: r, .dat .bool d :: s, v :: vs, h, hr => by
    cases boolof (v := .one (.dat .bool d)) rfl hr.1
    exact ⟨⟨d, rfl⟩, lk_kd (ks := r) h hr.2⟩
  | .str :: r, .dat .str d :: s, v :: vs, h, hr => by
    cases strof (v := .one (.dat .str d)) rfl hr.1
    exact ⟨⟨_, rfl⟩, lk_kd (ks := r) h hr.2⟩
  | [], [], _ :: _, _, hr => hr.elim
  | _, _ :: _, [], _, hr => hr.elim
  | [], _ :: _, _, h, _ => by simp [lkOk] at h
  | .int k :: r, [], _, h, _ => by simp [lkOk] at h
  | .bool :: r, [], _, h, _ => by simp [lkOk] at h
  | .str :: r, [], _, h, _ => by simp [lkOk] at h
theorem eqL1_ok {G : Gh} {x y : Leaf} {v u : Value} {e : Bool} (h : eqL1 x y = some e) (hx : RelL G x v) (hy : RelL G y u) : cellEq v u = e := by
  unfold eqL1 at h
  split at h
  · rename_i k a k' b
    cases intof (v := .one (.dat (.int k) a)) rfl hx
    cases intof (v := .one (.dat (.int k') b)) rfl hy
    simpa [cellEq] using h
  · rename_i a b
    cases boolof (v := .one (.dat .bool a)) rfl hx
    cases boolof (v := .one (.dat .bool b)) rfl hy
    simpa [cellEq] using h
  · rename_i a b
    cases strof (v := .one (.dat .str a)) rfl hx
    cases strof (v := .one (.dat .str b)) rfl hy
    simp only [Option.some.injEq] at h
    subst h
    simp [cellEq, strV, beq_toListBytes, ByteArray.toList_eq]
  · cases h
theorem eqLv_ok {G : Gh} : ∀ {ls ms : List Leaf} {xs ys : List Value} {e : Bool}, eqLv ls ms = some e → All2 (RelL G) ls xs → All2 (RelL G) ms ys → allEq xs ys = e
  | [x], [y], [v], [u], e, h, hx, hy => by simpa [allEq] using eqL1_ok (by simpa [eqLv] using h) hx.1 hy.1
  | x :: x2 :: r, y :: s, v :: vs, u :: us, e, h, hx, hy => by
    simp only [eqLv] at h
    split at h
    · rename_i a b h1 h2
      simp only [Option.some.injEq] at h
      rw [allEq, eqL1_ok h1 hx.1 hy.1, eqLv_ok h2 hx.2 hy.2, h]
    · cases h
  | [x], y :: y2 :: s, v :: vs, u :: us, e, h, hx, hy => by
    simp only [eqLv] at h
    split at h
    · rename_i a b h1 h2
      simp [eqLv] at h2
    · cases h
  | [], _, _, _, e, h, _, _ => by simp [eqLv] at h
  | _ :: _, [], _, _, e, h, _, _ => by cases ‹List Leaf› <;> simp [eqLv] at h
  | _ :: _, _ :: _, [], _, e, h, hx, _ => hx.elim
  | _ :: _, _ :: _, _, [], e, h, _, hy => hy.elim

section ops
variable {P : Program} {E : Env} (hE : TabOk P E.tab) {X : Ctx} {st : St} {G : Gh} {w : World} {R : Type} {r : R}
include hE

theorem opBin_ok {op : BinOp} {T : TypeId} {x y : AVal} {ox oy : Operand} {vx vy : Value} {K : AVal → Option R} (h : opBin E op T x y K = some r) (hm : RelM X st G w) (hx : RelV G x vx) (hy : RelV G y vy) :
    ∃ av v, ((do eqGuard op T ox oy vx vy; binOp op T vx vy) : Sem Value).run P w = .ok v w ∧ RelV G av v ∧ K av = some r := by
  unfold opBin at h
  split at h
  · rename_i k a k' b
    cases intof (v := .one (.dat (.int k) a)) rfl hx
    cases intof (v := .one (.dat (.int k') b)) rfl hy
    split at h
    · by_cases hb : b < 0
      · simp [hb] at h
      · simp only [hb, decide_false, cond_false] at h
        exact ⟨_, _, by simp [eqGuard, binOp, Op.shift, hb], relInt k _, h⟩
    · by_cases hb : b < 0
      · simp [hb] at h
      · simp only [hb, decide_false, cond_false] at h
        exact ⟨_, _, by simp [eqGuard, binOp, Op.shift, hb], relInt k _, h⟩
    · rename_i hn1 hn2
      by_cases hk : k = k'
      · subst hk
        simp only [decide_true, Bool.not_true, cond_false] at h
        have hrun := binOp_int (P := P) (w := w) op T ox oy k a b hn1 hn2
        split at h
        · exact ⟨_, _, by rw [hrun]; simp [Op.intArith], relInt k _, h⟩
        · exact ⟨_, _, by rw [hrun]; simp [Op.intArith], relInt k _, h⟩
        · exact ⟨_, _, by rw [hrun]; simp [Op.intArith], relInt k _, h⟩
        · by_cases hb : b = 0
          · simp [hb] at h
          · simp only [hb, decide_false, cond_false] at h
            exact ⟨_, _, by rw [hrun]; simp [Op.intDiv, hb], relInt k _, h⟩
        · by_cases hb : b = 0
          · simp [hb] at h
          · simp only [hb, decide_false, cond_false] at h
            exact ⟨_, _, by rw [hrun]; simp [Op.intDiv, hb], relInt k _, h⟩
        · exact ⟨_, _, by rw [hrun]; simp [Op.intBits]; rfl, relInt k _, h⟩
        · exact ⟨_, _, by rw [hrun]; simp [Op.intBits]; rfl, relInt k _, h⟩
        · exact ⟨_, _, by rw [hrun]; simp [Op.intBits]; rfl, relInt k _, h⟩
        · exact ⟨_, _, by rw [hrun]; simp [Op.intCmp], relBool _, h⟩
        · exact ⟨_, _, by rw [hrun]; simp [Op.intCmp], relBool _, h⟩
        · exact ⟨_, _, by rw [hrun]; simp [Op.intCmp], relBool _, h⟩
        · exact ⟨_, _, by rw [hrun]; simp [Op.intCmp], relBool _, h⟩
        · exact ⟨_, _, by rw [hrun]; simp [Op.intCmp], relBool _, h⟩
        · exact ⟨_, _, by rw [hrun]; simp [Op.intCmp], relBool _, h⟩
        · cases h
      · simp [hk] at h
  · rename_i a b
    cases strof (v := .one (.dat .str a)) rfl hx
    cases strof (v := .one (.dat .str b)) rfl hy
    split at h
    · obtain ⟨c, hc, h⟩ := Option.bind_eq_some_iff.1 h
      obtain ⟨hl, rfl⟩ := app_some hc
      have hn : ¬ (((a.length + b.length : Nat) : Int) > IntKind.i64.max) := by
        have : IntKind.i64.max = 9223372036854775807 := by rfl
        rw [this]; omega
      refine ⟨_, _, ?_, relStr _, h⟩
      have hn' : ¬ (IntKind.i64.max < (a.length : Int) + (b.length : Int)) := by
        have : IntKind.i64.max = 9223372036854775807 := by rfl
        rw [this]; omega
      have hn2 : (a.length : Int) + (b.length : Int) ≤ 9223372036854775807 := by omega
      simp [eqGuard, binOp, strV, Op.stringOp, sizeStr, hn', hn2, strV_append]
    · exact ⟨_, _, by simp [eqGuard, binOp, strV, Op.stringOp], relBool _, h⟩
    · exact ⟨_, _, by simp [eqGuard, binOp, strV, Op.stringOp], relBool _, h⟩
    · cases h
  · rename_i a b
    cases boolof (v := .one (.dat .bool a)) rfl hx
    cases boolof (v := .one (.dat .bool b)) rfl hy
    have key : ∀ {s b' : Nat} {y' : Option Ty} {z : List Value}, E.tab T = some ⟨s, b', y', .bool, z⟩ → ∀ w, (Op.equal T (.bool a) (.bool b)).run P w = .ok (a == b) w := fun hT w => by
      obtain ⟨d, h1, h2⟩ := (hE T _ hT).und
      cases d <;> simp [TDok] at h2
      show (Op.equalIn 10000 T _ _).run P w = _
      rw [show (10000 : Nat) = 9999 + 1 from rfl, Op.equalIn]
      simp [run_underlying h1]
    split at h
    · rename_i hT
      exact ⟨_, _, by simp [eqGuard, binOp, key hT], relBool _, h⟩
    · rename_i hT
      exact ⟨_, _, by simp [eqGuard, binOp, key hT], relBool _, h⟩
    · cases h
  · split at h
    · rename_i ti ls ms hT hls hms
      split at h
      · rename_i ks hks
        cases hb : (ti.desc.agg && x.isAgg && y.isAgg && lkOk ks ls && lkOk ks ms) with
        | false => simp [hb] at h
        | true =>
          simp only [hb, cond_true] at h
          simp only [Bool.and_eq_true] at hb
          obtain ⟨⟨⟨⟨b1, b2⟩, b3⟩, b4⟩, b5⟩ := hb
          obtain ⟨xs, rfl⟩ := isAgg_ok b2 hx
          obtain ⟨ys, rfl⟩ := isAgg_ok b3 hy
          have lx : All2 (RelL G) ls xs.toList := leaves_ok hm hls hx
          have ly : All2 (RelL G) ms ys.toList := leaves_ok hm hms hy
          have hti := hE T ti hT
          obtain ⟨d, hu, htd⟩ := hti.und
          obtain ⟨_, _, _, hi, _, _, _, _, _, _, _, _, hchk⟩ := hti
          have chk := hchk ks b1 hks
          have hst : ∃ fs, d = .struct fs := by
            have := chk
            rw [show (6 : Nat) = 5 + 1 from rfl, eqChk, hu] at this
            cases d <;> first | exact ⟨_, rfl⟩ | (simp at this; done) | (cases hd : ti.desc <;> simp [hd, TDok, TD.agg] at htd b1) | cases this
          obtain ⟨fs, rfl⟩ := hst
          have isv : ∀ zs : Array Value, IsV P T zs.toList (.agg zs) := fun zs => by
            unfold IsV; rw [hu]
          have hrun : ∀ w, (Op.equal T (.agg xs) (.agg ys)).run P w = .ok (allEq xs.toList ys.toList) w := fun w =>
            eqBelow 6 T ks chk 9994 w (.agg xs) (.agg ys) _ _ (lk_kd b4 lx) (lk_kd b5 ly) (isv xs) (isv ys)
          have hg : P.eqGuardType P.depth T = false := by
            have e : P.depth = (P.depth - 6) + 6 := by
              have : P.depth = 2 * (P.types.size + 100) + 2 := rfl
              omega
            rw [e]; exact guard_ok chk _
          split at h
          · rename_i e he
            have := eqLv_ok he lx ly
            exact ⟨_, _, by simp [eqGuard, binOp, hg, hrun, this], relBool _, h⟩
          · rename_i e he
            have := eqLv_ok he lx ly
            exact ⟨_, _, by simp [eqGuard, binOp, hg, hrun, this], relBool _, h⟩
          · cases h
      · cases h
    · cases h

omit hE in
theorem opUn_ok {op : UnOp} {x : AVal} {vx : Value} {K : AVal → Option R} (h : opUn op x K = some r) (hx : RelV G x vx) :
    ∃ av v, (Op.unary op vx).run P w = .ok v w ∧ RelV G av v ∧ K av = some r := by
  unfold opUn at h
  split at h
  · rename_i k a
    cases intof (v := .one (.dat (.int k) a)) rfl hx
    exact ⟨_, _, by simp [Op.unary, Op.intArith], relInt k _, h⟩
  · rename_i a
    cases boolof (v := .one (.dat .bool a)) rfl hx
    exact ⟨_, _, by simp [Op.unary], relBool _, h⟩
  · cases h

end ops
end Go.Fx

/- The framework, eighth text: structs that are built. -/
namespace Go.Fx
set_option linter.unusedVariables false
set_option linter.unusedSimpArgs false

theorem fold_place_list (off : Nat) : ∀ (l : List Value) (k : Nat) (c : Array Value), off + k + l.length ≤ c.size →
    ((l.zipIdx k).foldl (fun (cs : Array Value) (x : Value × Nat) => cs.setIfInBounds (off + x.2) x.1) c).toList = c.toList.take (off + k) ++ (l ++ c.toList.drop (off + k + l.length))
  | [], k, c, hk => by simp
  | x :: l, k, c, hk => by
    simp only [List.length_cons] at hk
    rw [List.zipIdx_cons, List.foldl_cons, fold_place_list off l (k + 1) _ (by simp; omega)]
    rw [Array.toList_setIfInBounds]
    have hlen : off + k < c.toList.length := by simp; omega
    have e1 : (c.toList.set (off + k) x).take (off + (k + 1)) = c.toList.take (off + k) ++ [x] := by
      rw [show off + (k + 1) = off + k + 1 by omega, List.take_succ_eq_append_getElem (by simpa using hlen)]
      simp [List.take_set_of_le]
    have e2 : (c.toList.set (off + k) x).drop (off + (k + 1) + l.length) = c.toList.drop (off + k + (l.length + 1)) := by
      rw [List.drop_set_of_lt (by omega)]; congr 1; omega
    rw [e1, e2]; simp

theorem fold_place (u : Array Value) (cs : List Value) (off : Nat) (h : off + u.size ≤ cs.length) :
    u.zipIdx.foldl (fun (cs : Array Value) (x : Value × Nat) => cs.setIfInBounds (off + x.2) x.1) cs.toArray = (cs.take off ++ (u.toList ++ cs.drop (off + u.toList.length))).toArray := by
  apply Array.ext'
  have := fold_place_list off u.toList 0 cs.toArray (by simpa using h)
  simp only [Nat.add_zero] at this
  rw [← Array.foldl_toList, Array.toList_zipIdx]
  rw [this]

theorem run_mapM_list {P : Program} {w : World} {α β : Type} (g : α → Sem β) (f : α → β) : ∀ (l : List α), (∀ x ∈ l, (g x).run P w = .ok (f x) w) → (l.mapM g).run P w = .ok (l.map f) w
  | [], _ => by simp
  | x :: l, h => by
    have ih := run_mapM_list g f l (fun y hy => h y (by simp [hy]))
    have hx := h x (by simp)
    simp [hx, ih]
theorem run_mapM {P : Program} {w : World} {α β : Type} (g : α → Sem β) (f : α → β) (xs : Array α) (h : ∀ x ∈ xs, (g x).run P w = .ok (f x) w) : (xs.mapM g).run P w = .ok (xs.map f) w := by
  rw [Array.mapM_eq_mapM_toList]
  have := run_mapM_list (P := P) (w := w) g f xs.toList (fun x hx => h x (by simpa using hx))
  rw [Sem.run_map, this]
  simp only [Result.andThen_ok]
  congr 1
  apply Array.ext'; simp

theorem zero_ok {G : Gh} : ∀ l : List Value, All2 (RelL G) (l.map zeroLeaf) l
  | [] => trivial
  | v :: l => by
    refine ⟨?_, zero_ok l⟩
    cases v with
    | int k n => exact ⟨_, by simp [Ty.agg], rfl, rfl⟩
    | bool b => exact ⟨_, by simp [Ty.agg], rfl, rfl⟩
    | string s => exact ⟨_, by simp [Ty.agg]; rfl, by simp [Rep, strV]⟩
    | slice a n c =>
      cases a with
      | none => cases n <;> cases c <;> simp [zeroLeaf, RelL]
      | some a => simp [zeroLeaf, RelL]
    | pointer a => cases a <;> simp [zeroLeaf, RelL]
    | _ => simp [zeroLeaf, RelL]

theorem fill_ok {P : Program} {E : Env} (hE : TabOk P E.tab) {X : Ctx} {st : St} {G : Gh} {w : World} (hm : RelM X st G w) {fields : Array Field} {fs : List (Nat × TypeId)}
    (hfs : fs = fields.toList.map fun f => (f.offset, f.type)) (sz : TypeId → Nat) (hsz : ∀ t ti, E.tab t = some ti → sz t = ti.size) {ls : List Leaf} :
    ∀ {parts : List (Nat × AVal)} {vs : List (Nat × Value)} {zs : List Leaf} {cs : List Value}, All2 (fun (p : Nat × AVal) (q : Nat × Value) => p.1 = q.1 ∧ RelV G p.2 q.2) parts vs →
      All2 (RelL G) zs cs → buildParts E fs zs parts = some ls →
      ∃ cs', Instr.fill ((fields.map fun f => (f.offset, sz f.type))[·]?) cs.toArray vs = some cs'.toArray ∧ All2 (RelL G) ls cs'
  | [], [], zs, cs, hp, hz, hb => by simp only [buildParts, Option.some.injEq] at hb; subst hb; exact ⟨cs, rfl, hz⟩
  | [], _ :: _, _, _, hp, _, _ => hp.elim
  | _ :: _, [], _, _, hp, _, _ => hp.elim
  | (j, v) :: parts, (j', u) :: vs, zs, cs, hp, hz, hb => by
    obtain ⟨⟨hj, hv⟩, hp⟩ := hp
    simp only at hj hv
    subst hj
    simp only [buildParts] at hb
    cases hf : fs[j]? with
    | none => simp [hf] at hb
    | some f =>
      obtain ⟨off, ft⟩ := f
      cases hl : v.leaves with
      | none => simp [hf, hl] at hb
      | some lv =>
        simp only [hf, hl] at hb
        cases hF : E.tab ft with
        | none => simp [hF] at hb
        | some fi =>
          simp only [hF] at hb
          cases hc : (Nat.beq lv.length fi.size && Nat.ble (off + lv.length) zs.length) with
          | false => simp [hc] at hb
          | true =>
            simp only [hc, cond_true] at hb
            simp only [Bool.and_eq_true] at hc
            have hc1 : lv.length = fi.size := Nat.eq_of_beq_eq_true hc.1
            have hc2 : off + lv.length ≤ zs.length := Nat.le_of_ble_eq_true hc.2
            have hal := leaves_ok hm hl hv
            have hlen := hal.length
            have hzl := hz.length
            have hul : u.cells.size = fi.size := by rw [← hc1, hlen]; simp
            have hplace : All2 (RelL G) (place zs off lv) (cs.take off ++ (u.cells.toList ++ cs.drop (off + u.cells.toList.length))) := by
              unfold place
              rw [hlen]
              exact (hz.take off).append (hal.append (hz.drop _))
            obtain ⟨cs', g1, g2⟩ := fill_ok hE hm hfs sz hsz hp hplace hb
            refine ⟨cs', ?_, g2⟩
            have hfld : (fields.map fun f => (f.offset, sz f.type))[j]? = some (off, fi.size) := by
              rw [hfs, List.getElem?_map, Array.getElem?_toList] at hf
              cases hq : fields[j]? with
              | none => simp [hq] at hf
              | some fld =>
                simp [hq] at hf
                obtain ⟨rfl, rfl⟩ := hf
                simp [hq, hsz _ _ hF]
            have hcond : (u.cells.size ≠ fi.size || decide (off + u.cells.size > cs.toArray.size)) = false := by
              simp [hul]; omega
            have hstep : Instr.fill ((fields.map fun f => (f.offset, sz f.type))[·]?) cs.toArray ((j, u) :: vs) =
                Instr.fill ((fields.map fun f => (f.offset, sz f.type))[·]?) (u.cells.zipIdx.foldl (fun (cs : Array Value) (x : Value × Nat) => cs.setIfInBounds (off + x.2) x.1) cs.toArray) vs := by
              conv => lhs; unfold Instr.fill
              simp only [hfld]
              rw [if_neg (by simpa using hcond)]
            rw [hstep, fold_place u.cells cs off (by rw [hul, ← hc1, ← hzl]; exact hc2)]
            exact g1

theorem opBuild_ok {P : Program} {E : Env} (hE : TabOk P E.tab) {X : Ctx} {st : St} {G : Gh} {w : World} {R : Type} {r : R} {T : TypeId} {parts : List (Nat × AVal)} {vs : List (Nat × Value)} {K : AVal → St → Option R} (h : opBuild E T parts st K = some r) (hm : RelM X st G w)
    (hp : All2 (fun (p : Nat × AVal) (q : Nat × Value) => p.1 = q.1 ∧ RelV G p.2 q.2) parts vs) :
    ∃ av v, (Instr.build T vs.toArray).run P w = .ok v w ∧ RelV G av v ∧ K av st = some r := by
  unfold opBuild at h
  cases hT : E.tab T with
  | none => simp [hT] at h
  | some ti =>
    simp only [hT] at h
    split at h
    · rename_i fs hd
      cases hall : (fs.all fun p => (E.tab p.2).isSome) with
      | false => simp [hall] at h
      | true =>
        simp only [hall, cond_true] at h
        cases hb : buildParts E fs (ti.zero.map zeroLeaf) parts with
        | none => simp [hb] at h
        | some ls =>
          simp only [hb] at h
          obtain ⟨i, d, z, h1, h2, h3, h4, h5, h6, h7, h8, h9⟩ := hE T ti hT
          rw [hd] at h7
          cases d with
          | struct fields =>
            simp only [TDok] at h7
            let sz : TypeId → Nat := fun t => match E.tab t with | some ti => ti.size | none => 0
            have hsz : ∀ t ti, E.tab t = some ti → sz t = ti.size := fun t ti ht => by simp [sz, ht]
            obtain ⟨cs', g1, g2⟩ := fill_ok hE hm h7 sz hsz hp (zero_ok ti.zero) hb
            refine ⟨.agg ls, .agg cs'.toArray, ?_, ⟨cs', rfl, g2⟩, h⟩
            have hplaces : (fields.mapM fun f => (Prod.mk f.offset <$> sizeOf f.type : Sem (Nat × Nat))).run P w = .ok (fields.map fun f => (f.offset, sz f.type)) w := by
              refine run_mapM _ _ _ fun f hf => ?_
              have : (E.tab f.type).isSome = true := by
                have := List.all_eq_true.1 hall (f.offset, f.type) (by rw [h7]; exact List.mem_map.2 ⟨f, by simpa using hf, rfl⟩)
                exact this
              obtain ⟨fi, hfi⟩ := Option.isSome_iff_exists.1 this
              simp [(hE _ _ hfi).size w, hsz _ _ hfi]
            have hzc : z.cells = ti.zero.toArray := by rw [← h6]
            simp only [Array.getElem?_map] at g1
            simp [Instr.build, zeroValue, typeInfo, h1, h5, run_underlying h2, hplaces, hzc, g1]
          | _ => simp [TDok] at h7
    · cases h

end Go.Fx

/- The framework, ninth text: the operations that make memory. -/
namespace Go.Fx
set_option linter.unusedVariables false
set_option linter.unusedSimpArgs false

theorem lt_of_heap {w : World} {b : Nat} {o : Obj} (h : w.heap[b]? = some o) : b < w.heap.size := (Array.getElem?_eq_some_iff.1 h).1

theorem Owns.lt {X : Ctx} {st : St} {G : Gh} {w : World} (hm : RelM X st G w) {x : Bool × Nat} {b : Nat} (h : Owns G st x b) : b < w.heap.size := by
  obtain ⟨k, n⟩ := x
  cases k with
  | false =>
    obtain ⟨⟨ls, hl⟩, rfl⟩ := h
    obtain ⟨arr, elem, mid, h1, _⟩ := hm.ob n ls hl
    exact lt_of_heap h1
  | true =>
    obtain ⟨⟨A, hA, hs⟩, p, hp, rfl⟩ := h
    exact lt_of_heap (hm.ah n A hA hs p hp)

theorem alloc_old (w : World) (o : Obj) {k : Nat} (h : k < w.heap.size) : (w.alloc o).heap[k]? = w.heap[k]? := Below.RowKit_heap w o k h
where
  Below.RowKit_heap (w : World) (o : Obj) (k : Nat) (h : k < w.heap.size) : (w.alloc o).heap[k]? = w.heap[k]? := by
    show (w.heap.push o)[k]? = _
    rw [Array.getElem?_push, if_neg (by omega)]
theorem alloc_new (w : World) (o : Obj) : (w.alloc o).heap[w.heap.size]? = some o := by
  show (w.heap.push o)[w.heap.size]? = _
  rw [Array.getElem?_push, if_pos rfl]
theorem alloc_size (w : World) (o : Obj) : (w.alloc o).heap.size = w.heap.size + 1 := by
  show (w.heap.push o).size = _
  simp

theorem RelM.drew {X : Ctx} {st : St} {G : Gh} {w : World} (hm : RelM X st G w) : RelM X st G w.drew :=
  { sl := hm.sl, sh := hm.sh, ob := hm.ob, ar := hm.ar, ah := hm.ah, nd := hm.nd, dis := hm.dis, dS := hm.dS, inn := hm.inn, s0 := hm.s0, sn := hm.sn, fr := hm.fr, sz := hm.sz, os := hm.os, tp := hm.tp, out := hm.out, pin := hm.pin, bv := hm.bv }

theorem ment_reg {st : St} {k : Bool} {x : Nat} (h : st.ment k x = false) {i : Nat} {v : AVal} (hv : st.reg i = some v) : v.ment k x = false := by
  simp only [St.ment, Bool.or_eq_false_iff] at h
  obtain ⟨⟨⟨⟨h1, h2⟩, h3⟩, h4⟩, _⟩ := h
  unfold St.reg at hv
  cases hr : look st.regs i with
  | some u =>
    rw [hr] at hv; cases hv
    have := List.any_eq_false.1 h1 _ (look_mem hr); simpa using this
  | none =>
    rw [hr] at hv
    have := List.any_eq_false.1 h2 _ (look_mem hv); simpa using this

theorem ment_obj {st : St} {k : Bool} {x : Nat} (h : st.ment k x = false) {o : Nat} {ls : List Leaf} (ho : st.obj o = some ls) : ∀ j, (st.resl o j ls).any (Leaf.ment k x) = false := by
  simp only [St.ment, Bool.or_eq_false_iff] at h
  obtain ⟨⟨⟨⟨h1, h2⟩, h3⟩, h4⟩, _⟩ := h
  have hl : ls.any (Leaf.ment k x) = false := by
    have := List.any_eq_false.1 h3 _ (look_mem ho); simpa using this
  have hres : ∀ j l, l.ment k x = false → (st.res o j l).ment k x = false := fun j l hl => by
    cases l with
    | bas =>
      simp only [St.res]
      cases hb : lookL st.bleaves o j with
      | none => rfl
      | some l' =>
        have h5 := List.any_eq_false.1 h4 _ (lookL_mem hb)
        simpa using h5
    | _ => exact hl
  have key : ∀ (ls : List Leaf), ls.any (Leaf.ment k x) = false → ∀ j, (st.resl o j ls).any (Leaf.ment k x) = false := by
    intro ls
    induction ls with
    | nil => intro _ _; rfl
    | cons l ls ih =>
      intro h j
      simp only [List.any_cons, Bool.or_eq_false_iff] at h
      simp only [St.resl, List.any_cons, Bool.or_eq_false_iff]
      exact ⟨hres j l h.1, ih h.2 (j + 1)⟩
  exact key ls hl

theorem ment_lent {st : St} {x : Nat} (h : st.ment false x = false) {a : Nat} {A : Arr} (ha : st.arr a = some A) {i o : Nat} (hm : A.md = .lent i o) : o ≠ x := by
  simp only [St.ment, Bool.or_eq_false_iff, Bool.not_false, Bool.true_and] at h
  obtain ⟨_, h1, h2⟩ := h
  have key : A.lentTo x = false := by
    unfold St.arr at ha
    cases hr : look st.arrs a with
    | some u =>
      rw [hr] at ha; cases ha
      have := List.any_eq_false.1 h1 _ (look_mem hr); simpa using this
    | none =>
      rw [hr] at ha
      have := List.any_eq_false.1 h2 _ (look_mem ha); simpa using this
  intro e
  subst e
  simp [Arr.lentTo, hm] at key

theorem RelR.le {G G' : Gh} {k : Bool} {x : Nat} (h : G.Le G' k x) {st st' : St} (hn : st'.n = st.n) (hreg : ∀ i, st'.reg i = st.reg i) (hment : st.ment k x = false) {a : Act} (r : RelR G st a) : RelR G' st' a :=
  ⟨r.1, r.2.1.trans hn.symm, fun i v hv => by
    rw [hreg i] at hv
    exact (r.2.2 i v hv).le h (ment_reg hment hv)⟩

theorem resl_nobas (st : St) (o : Nat) : ∀ (j : Nat) (ls : List Leaf), ls.any Leaf.isBas = false → st.resl o j ls = ls
  | _, [], _ => rfl
  | j, l :: r, h => by
    simp only [List.any_cons, Bool.or_eq_false_iff] at h
    simp only [St.resl, resl_nobas st o (j + 1) r h.2]
    cases l <;> simp_all [St.res, Leaf.isBas]

/-- A new object. -/
theorem RelM.newObj {X : Ctx} {st : St} {G : Gh} {w : World} (hm : RelM X st G w) {o : Nat} {ls : List Leaf} {arr : Array Value} {elem : TypeId} (ho : st.obj o = none) (hment : st.ment false o = false)
    (hb : ls.any Leaf.isBas = false) (hlm : ls.any (Leaf.ment false o) = false) (hls : All2 (RelL G) ls arr.toList) :
    ∃ G', RelM X (st.setObj o ls) G' (w.alloc (.cells arr elem (0, 0))) ∧ G.Le G' false o ∧ RelV G' (.one (.ptr o 0)) (.pointer (some ⟨w.heap.size, 0, none⟩)) := by
  let G' : Gh := { G with φ := fun q => if q = o then w.heap.size else G.φ q, pre := fun q => if q = o then [] else G.pre q, post := fun q => if q = o then [] else G.post q }
  have hle : G.Le G' false o := ⟨fun _ _ h => h, fun q h => by simp [G', h rfl], fun q h => by simp [G', h rfl], fun q h => by simp [G', h rfl], fun _ _ => rfl⟩
  have hOwn : ∀ x b, Owns G' (st.setObj o ls) x b → (x = (false, o) ∧ b = w.heap.size) ∨ (Owns G st x b ∧ x ≠ (false, o)) := fun x b hx => by
    obtain ⟨k, n⟩ := x
    cases k with
    | true => exact .inr ⟨hx, by simp⟩
    | false =>
      obtain ⟨⟨l, hl⟩, rfl⟩ := hx
      rw [obj_setObj] at hl
      by_cases e : o = n
      · subst e; exact .inl ⟨rfl, by simp [G']⟩
      · simp only [e, if_false] at hl
        have hne : n ≠ o := fun h => e h.symm
        exact .inr ⟨⟨⟨l, hl⟩, by simp [G', hne]⟩, by simpa using hne⟩
  have hne' : ∀ x b, Owns G st x b → b ≠ w.heap.size := fun x b h e => by have := Owns.lt hm h; omega
  refine ⟨G', ?_, hle, by simp [RelV, RelL, G']⟩
  refine { sl := hm.sl, sh := ?_, ob := ?_, ar := ?_, ah := ?_, nd := ?_, dis := ?_, dS := ?_, inn := ?_, s0 := hm.s0, sn := hm.sn, fr := ?_, sz := ?_, os := hm.os, tp := hm.tp, out := hm.out, pin := fun q p h => (by obtain ⟨⟨l, h1⟩, h2⟩ := hm.pin q p h; have hne : q ≠ o := (fun e => absurd ho (by rw [← e, h1]; simp)); exact ⟨⟨l, by rw [obj_setObj, if_neg (Ne.symm hne)]; exact h1⟩, by simp [G', hne, h2]⟩), bv := fun q j u h => (by obtain ⟨h1, ⟨l, h2, h3⟩, arr0, elem0, h4, h5⟩ := hm.bv q j u h; have hne : q ≠ o := (fun e => absurd ho (by rw [← e, h2]; simp)); exact ⟨h1, ⟨l, by rw [obj_setObj, if_neg (Ne.symm hne)]; exact h2, h3⟩, arr0, elem0, by simp only [G', hne, if_false]; rw [alloc_old w _ (lt_of_heap h4)]; exact h4, by simp only [G', hne, if_false]; exact h5⟩) }
  · intro b ob hb
    rw [alloc_old w _ (lt_of_heap (hm.sh b ob hb))]; exact hm.sh b ob hb
  · intro q l hq
    rw [obj_setObj] at hq
    by_cases e : o = q
    · subst e
      simp only [if_true, Option.some.injEq] at hq
      subst hq
      refine ⟨arr, elem, arr.toList, by simp only [G', if_true]; exact alloc_new w _, by simp [G'], ?_⟩
      unfold LeavesRel
      rw [resl_nobas _ _ _ _ hb]
      exact all2_le hle hlm hls
    · simp only [e, if_false] at hq
      obtain ⟨arr', elem', mid, g1, g2, g3⟩ := hm.ob q l hq
      have hqo : q ≠ o := fun h => e h.symm
      refine ⟨arr', elem', mid, by simp only [G', hqo, if_false]; rw [alloc_old w _ (lt_of_heap g1)]; exact g1, by simp only [G', hqo, if_false]; exact g2, ?_⟩
      unfold LeavesRel at g3 ⊢
      rw [resl_congr (st := st) (fun j l => by simp)]
      exact all2_le hle (ment_obj hment hq 0) g3
  · intro a A hA
    refine (hm.ar a A hA).mono (G := G) (a := a) (G' := G') (a' := a) (fun _ _ h => h) rfl rfl (fun i q hq => ?_)
    have hne := ment_lent hment hA hq
    exact ⟨by simp [G', hne], by simp [G', hne], by simp [G', hne]⟩
  · intro a A hA hs p hp
    have := hm.ah a A hA hs p hp
    rw [alloc_old w _ (lt_of_heap this)]; exact this
  · exact hm.nd
  · intro x y b hx hy
    rcases hOwn x b hx with ⟨rfl, rfl⟩ | ⟨h1, h2⟩ <;> rcases hOwn y _ hy with ⟨rfl, h⟩ | ⟨h3, h4⟩
    · rfl
    · exact absurd rfl (hne' y _ h3)
    · exact absurd h (hne' x _ h1)
    · exact hm.dis x y b h1 h3
  · intro x b hx
    rcases hOwn x b hx with ⟨rfl, rfl⟩ | ⟨h1, h2⟩
    · cases hS : G.S w.heap.size with
      | none => rfl
      | some ob => have := lt_of_heap (hm.sh _ _ hS); omega
    · exact hm.dS x b h1
  · intro x b hx
    rcases hOwn x b hx with ⟨rfl, rfl⟩ | ⟨h1, h2⟩
    · exact .inr hm.sz
    · exact hm.inn x b h1
  · intro b hb hn
    have := hm.fr b hb hn
    rw [alloc_old w _ (by have := hm.sz; omega)]; exact this
  · rw [alloc_size]; have := hm.sz; omega

/-- A new array. -/
theorem RelM.newArr {X : Ctx} {st : St} {G : Gh} {w : World} (hm : RelM X st G w) {a : Nat} {t : Ty} {l : List t.den} {arr : Array Value} {elem : TypeId} {cells rest : List Value} {cap : Nat} (ha : st.arr a = none) (hment : st.ment true a = false)
    (harr : arr.toList = cells ++ rest) (hcap : cap * t.size ≤ arr.size) (hlen : l.length ≤ cap) (hl : RepL (Rep G.S false t) cells l []) :
    ∃ G', RelM X (st.setArr a ⟨t, .flat, false, l⟩) G' (w.alloc (.cells arr elem (0, 0))) ∧ G.Le G' true a ∧ RelV G' (.one (.hdl a)) (.slice (some ⟨w.heap.size, 0, none⟩) l.length cap) := by
  let G' : Gh := { G with ψ := fun q => if q = a then .slice (some ⟨w.heap.size, 0, none⟩) l.length cap else G.ψ q, HA := fun q => if q = a then [(w.heap.size, .cells arr elem (0, 0))] else G.HA q }
  have hle : G.Le G' true a := ⟨fun _ _ h => h, fun _ _ => rfl, fun _ _ => rfl, fun _ _ => rfl, fun q h => by simp [G', h rfl]⟩
  have hne' : ∀ x b, Owns G st x b → b ≠ w.heap.size := fun x b h e => by have := Owns.lt hm h; omega
  have hOwn : ∀ x b, Owns G' (st.setArr a ⟨t, .flat, false, l⟩) x b → (x = (true, a) ∧ b = w.heap.size) ∨ (Owns G st x b ∧ x ≠ (true, a)) := fun x b hx => by
    obtain ⟨k, n⟩ := x
    cases k with
    | false => exact .inr ⟨hx, by simp⟩
    | true =>
      obtain ⟨⟨A, hA, hs⟩, p, hp, rfl⟩ := hx
      rw [arr_setArr] at hA
      by_cases e : a = n
      · subst e
        simp only [G', if_true, List.mem_singleton] at hp
        exact .inl ⟨rfl, by rw [hp]⟩
      · simp only [e, if_false] at hA
        have hne : n ≠ a := fun h => e h.symm
        simp only [G', hne, if_false] at hp
        exact .inr ⟨⟨⟨A, hA, hs⟩, p, hp, rfl⟩, by simpa using hne⟩
  refine ⟨G', ?_, hle, by simp [RelV, RelL, G']⟩
  refine { sl := ?_, sh := ?_, ob := ?_, ar := ?_, ah := ?_, nd := ?_, dis := ?_, dS := ?_, inn := ?_, s0 := hm.s0, sn := hm.sn, fr := ?_, sz := ?_, os := hm.os, tp := hm.tp, out := hm.out, pin := hm.pin, bv := fun q j u h => (by obtain ⟨h1, h2, arr0, elem0, h4, h5⟩ := hm.bv q j u h; exact ⟨h1, h2, arr0, elem0, by rw [alloc_old w _ (lt_of_heap h4)]; exact h4, h5⟩) }
  · intro q
    by_cases e : q = a
    · exact .inl ⟨some ⟨w.heap.size, 0, none⟩, l.length, cap, by simp [G', e]⟩
    · have := hm.sl q; simpa [G', e] using this
  · intro b ob hb
    rw [alloc_old w _ (lt_of_heap (hm.sh b ob hb))]; exact hm.sh b ob hb
  · intro q ls hq
    obtain ⟨arr', elem', mid, g1, g2, g3⟩ := hm.ob q ls hq
    refine ⟨arr', elem', mid, by rw [alloc_old w _ (lt_of_heap g1)]; exact g1, g2, ?_⟩
    unfold LeavesRel at g3 ⊢
    rw [resl_congr (st := st) (fun j l => by simp)]
    exact all2_le hle (ment_obj hment hq 0) g3
  · intro b B hB
    rw [arr_setArr] at hB
    by_cases e : a = b
    · subst e
      simp only [if_true, Option.some.injEq] at hB
      subst hB
      refine arrRel_flat.2 ?_
      exact .inr ⟨w.heap.size, cap, arr, elem, cells, rest, [], by simp [G'], by simp [G'], harr, hcap, hlen, hl⟩
    · simp only [e, if_false] at hB
      have hne : b ≠ a := fun h => e h.symm
      exact (hm.ar b B hB).mono (G := G) (a := b) (G' := G') (a' := b) (fun _ _ h => h) (by simp [G', hne]) (by simp [G', hne]) (fun _ _ _ => ⟨rfl, rfl, rfl⟩)
  · intro b B hB hs p hp
    rw [arr_setArr] at hB
    by_cases e : a = b
    · subst e
      simp only [G', if_true, List.mem_singleton] at hp
      rw [hp]; exact alloc_new w _
    · simp only [e, if_false] at hB
      have hne : b ≠ a := fun h => e h.symm
      simp only [G', hne, if_false] at hp
      have := hm.ah b B hB hs p hp
      rw [alloc_old w _ (lt_of_heap this)]; exact this
  · intro b B hB hs
    rw [arr_setArr] at hB
    by_cases e : a = b
    · subst e; simp [G']
    · simp only [e, if_false] at hB
      have hne : b ≠ a := fun h => e h.symm
      simp only [G', hne, if_false]
      exact hm.nd b B hB hs
  · intro x y b hx hy
    rcases hOwn x b hx with ⟨rfl, rfl⟩ | ⟨h1, h2⟩ <;> rcases hOwn y _ hy with ⟨rfl, h⟩ | ⟨h3, h4⟩
    · rfl
    · exact absurd rfl (hne' y _ h3)
    · exact absurd h (hne' x _ h1)
    · exact hm.dis x y b h1 h3
  · intro x b hx
    rcases hOwn x b hx with ⟨rfl, rfl⟩ | ⟨h1, h2⟩
    · cases hS : G.S w.heap.size with
      | none => rfl
      | some ob => have := lt_of_heap (hm.sh _ _ hS); omega
    · exact hm.dS x b h1
  · intro x b hx
    rcases hOwn x b hx with ⟨rfl, rfl⟩ | ⟨h1, h2⟩
    · exact .inr hm.sz
    · exact hm.inn x b h1
  · intro b hb hn
    have := hm.fr b hb hn
    rw [alloc_old w _ (by have := hm.sz; omega)]; exact this
  · rw [alloc_size]; have := hm.sz; omega

/-- An array is dropped: its memory is nobody's. -/
theorem RelM.dropArr {X : Ctx} {st : St} {G : Gh} {w : World} (hm : RelM X st G w) (a : Nat) (hb : look st.barrs a = none) : RelM X { st with arrs := del st.arrs a } G w := by
  have harr : ∀ q, ({ st with arrs := del st.arrs a } : St).arr q = if a = q then none else st.arr q := fun q => by
    simp only [St.arr, look_del]
    by_cases e : a = q
    · subst e; simp [hb]
    · simp [e]
  have hOwn : ∀ x b, Owns G { st with arrs := del st.arrs a } x b → Owns G st x b := fun x b hx => by
    obtain ⟨k, n⟩ := x
    cases k with
    | false => exact hx
    | true =>
      obtain ⟨⟨A, hA, hs⟩, hp⟩ := hx
      rw [harr] at hA
      by_cases e : a = n
      · simp [e] at hA
      · simp only [e, if_false] at hA; exact ⟨⟨A, hA, hs⟩, hp⟩
  refine { sl := hm.sl, sh := hm.sh, ob := ?_, ar := ?_, ah := ?_, nd := ?_, dis := fun x y b hx hy => hm.dis x y b (hOwn x b hx) (hOwn y b hy), dS := fun x b hx => hm.dS x b (hOwn x b hx), inn := fun x b hx => hm.inn x b (hOwn x b hx), s0 := hm.s0, sn := hm.sn, fr := hm.fr, sz := hm.sz, os := hm.os, tp := hm.tp, out := hm.out, pin := hm.pin, bv := hm.bv }
  · intro o ls ho
    obtain ⟨arr, elem, mid, h1, h2, h3⟩ := hm.ob o ls ho
    refine ⟨arr, elem, mid, h1, h2, ?_⟩
    unfold LeavesRel at h3 ⊢
    rw [resl_congr (st := st) (fun j l => by cases l <;> rfl)]
    exact h3
  · intro b B hB
    rw [harr] at hB
    by_cases e : a = b
    · simp [e] at hB
    · simp only [e, if_false] at hB; exact hm.ar b B hB
  · intro b B hB
    rw [harr] at hB
    by_cases e : a = b
    · simp [e] at hB
    · simp only [e, if_false] at hB; exact hm.ah b B hB
  · intro b B hB
    rw [harr] at hB
    by_cases e : a = b
    · simp [e] at hB
    · simp only [e, if_false] at hB; exact hm.nd b B hB

end Go.Fx
