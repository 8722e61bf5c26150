/- The framework, second text: the abstract states, and the abstract interpreter of the model's code. Definitions alone. -/
import Derived.Test.YtafpgfdjfnoagaaFx1
namespace Go.Fx

/-! ### Small operations that may fail of the printed functions -/
def idx {α : Type} (l : List α) (i : Int) : Option α := bif decide (0 ≤ i) then l[i.toNat]? else none
def sub {α : Type} (l : List α) (i j : Int) : Option (List α) :=
  bif decide (0 ≤ i) && decide (i ≤ j) && decide (j ≤ (l.length : Int)) then some ((l.take j.toNat).drop i.toNat) else none
def app {α : Type} (l m : List α) : Option (List α) := bif decide (l.length + m.length ≤ 4294967296) then some (l ++ m) else none
def mkl {α : Type} (n : Int) (x : α) : Option (List α) := bif decide (0 ≤ n) && decide (n ≤ 4294967296) then some (List.replicate n.toNat x) else none
abbrev w64 (x : Int) : Int := IntKind.i64.wrap x
def bitop (op : BinOp) (k : IntKind) (x y : Int) : Int :=
  k.wrap (match op with
    | .and => (BitVec.ofInt k.bits x &&& BitVec.ofInt k.bits y).toNat
    | .or => (BitVec.ofInt k.bits x ||| BitVec.ofInt k.bits y).toNat
    | .xor => (BitVec.ofInt k.bits x ^^^ BitVec.ofInt k.bits y).toNat
    | _ => 0)

/-! ### Abstract values and states -/
inductive Leaf where
  | any | und | bas
  | dat (t : Ty) (d : t.den)
  | nil | nilp
  | hdl (a : Nat)
  | ptr (o off : Nat)
  | elt (a sz i off : Nat)
  | she (t : Ty) (d : t.den) (off : Nat)
  | fn (f : FuncId)

inductive AVal where
  | one (l : Leaf) | agg (ls : List Leaf) | tup (vs : List (Bool × List Leaf)) | ifc (t : TypeId) (ls : List Leaf)

structure Arr where
  t : Ty
  deep : Bool
  sh : Bool
  l : List t.den

/-- A state: what can change (registers, objects, arrays), and behind it what stays as it is (`b..`). -/
structure St where
  n : Nat
  regs : List (Nat × AVal)
  objs : List (Nat × List Leaf)
  arrs : List (Nat × Arr)
  bregs : List (Nat × AVal)
  bleaves : List (Nat × Nat × Leaf)
  barrs : List (Nat × Arr)

def look {α : Type} : List (Nat × α) → Nat → Option α
  | [], _ => none
  | (k, v) :: r, i => bif Nat.beq k i then some v else look r i
def lookL : List (Nat × Nat × Leaf) → Nat → Nat → Option Leaf
  | [], _, _ => none
  | (o, j, l) :: r, o', j' => bif Nat.beq o o' && Nat.beq j j' then some l else lookL r o' j'
def del {α : Type} : List (Nat × α) → Nat → List (Nat × α)
  | [], _ => []
  | (k, v) :: r, i => bif Nat.beq k i then del r i else (k, v) :: del r i

def St.reg (st : St) (i : Nat) : Option AVal := (match look st.regs i with | some v => some v | none => look st.bregs i)
def St.obj (st : St) (o : Nat) : Option (List Leaf) := look st.objs o
def St.arr (st : St) (a : Nat) : Option Arr := (match look st.arrs a with | some v => some v | none => look st.barrs a)
/-- A leaf of an object, the unchanging ones looked up. -/
def St.res (st : St) (o j : Nat) : Leaf → Leaf
  | .bas => (match lookL st.bleaves o j with | some l => l | none => .any)
  | l => l
def St.resl (st : St) (o : Nat) : Nat → List Leaf → List Leaf
  | _, [] => []
  | j, l :: r => st.res o j l :: St.resl st o (j + 1) r
def St.setReg (st : St) (i : Nat) (v : AVal) : St := { st with regs := (i, v) :: st.regs }
def St.setObj (st : St) (o : Nat) (ls : List Leaf) : St := { st with objs := (o, ls) :: st.objs }
def St.setArr (st : St) (a : Nat) (A : Arr) : St := { st with arrs := (a, A) :: st.arrs }

/-- Whether a leaf names an array (`true`) or an object. -/
def Leaf.ment (k : Bool) (x : Nat) : Leaf → Bool
  | .hdl a => k && Nat.beq a x
  | .elt a _ _ _ => k && Nat.beq a x
  | .ptr o _ => !k && Nat.beq o x
  | _ => false
def AVal.ment (k : Bool) (x : Nat) : AVal → Bool
  | .one l => l.ment k x
  | .agg ls => ls.any (Leaf.ment k x)
  | .tup vs => vs.any fun p => p.2.any (Leaf.ment k x)
  | .ifc _ ls => ls.any (Leaf.ment k x)
/-- No place of the state names it. -/
def St.ment (st : St) (k : Bool) (x : Nat) : Bool :=
  st.regs.any (fun p => p.2.ment k x) || st.bregs.any (fun p => p.2.ment k x) || st.objs.any (fun p => p.2.any (Leaf.ment k x)) || st.bleaves.any (fun p => p.2.2.ment k x)

def AVal.leaf : AVal → Leaf
  | .one l => l
  | _ => .any

/-- The cells of a datum, each a leaf. -/
def explode : (t : Ty) → t.den → List Leaf
  | .int k, d => [.dat (.int k) d]
  | .bool, d => [.dat .bool d]
  | .str, d => [.dat .str d]
  | .slice t, d => [.dat (.slice t) d]
  | .pair a b, d => explode a d.1 ++ explode b d.2
  | .one a, d => explode a d

def Leaf.get (st : St) (t : Ty) : Leaf → Option t.den
  | .dat u d => cast? u t d
  | .nil => (match t with | .slice _ => some [] | _ => none)
  | .hdl a => (match st.arr a with | some A => (if A.sh then cast? (.slice A.t) t A.l else none) | none => none)
  | _ => none

def implode (st : St) : (t : Ty) → List Leaf → Option (t.den × List Leaf)
  | .int k, ls => (match ls with | [] => none | l :: r => (l.get st (.int k)).map fun d => (d, r))
  | .bool, ls => (match ls with | [] => none | l :: r => (l.get st .bool).map fun d => (d, r))
  | .str, ls => (match ls with | [] => none | l :: r => (l.get st .str).map fun d => (d, r))
  | .slice t, ls => (match ls with | [] => none | l :: r => (l.get st (.slice t)).map fun d => (d, r))
  | .pair a b, ls => (match implode st a ls with
    | some (x, r) => (match implode st b r with | some (y, r') => some ((x, y), r') | none => none)
    | none => none)
  | .one a, ls => implode st a ls

def AVal.get (st : St) (t : Ty) : AVal → Option t.den
  | .one l => l.get st t
  | .agg ls => (bif t.agg then (match implode st t ls with | some (d, []) => some d | _ => none) else none)
  | _ => none

/-- What one cell may be given. -/
def Leaf.cell : Leaf → Bool
  | .any => false
  | .und => false
  | .bas => false
  | .dat t _ => !t.agg
  | _ => true
def Leaf.isBas : Leaf → Bool
  | .bas => true
  | _ => false

/-- The leaves of a value that is stored: its cells. -/
def AVal.leaves : AVal → Option (List Leaf)
  | .one (.dat (.pair a b) d) => some (explode (.pair a b) d)
  | .one (.dat (.one a) d) => some (explode (.one a) d)
  | .one l => (bif l.cell then some [l] else none)
  | .agg ls => some ls
  | _ => none

/-- An owned array is given away: it is data from now on. -/
def St.share1 (st : St) : Leaf → Option St
  | .hdl a => (match look st.arrs a with
    | some A => (bif A.sh then some st else some (st.setArr a { A with sh := true }))
    | none => (match look st.barrs a with | some A => (bif A.sh then some st else none) | none => none))
  | _ => some st
def St.shareL (st : St) : List Leaf → Option St
  | [] => some st
  | l :: r => (match st.share1 l with | some st' => st'.shareL r | none => none)
def AVal.shared (st : St) : AVal → Option St
  | .one l => st.share1 l
  | .agg ls => st.shareL ls
  | .tup _ => none
  | .ifc _ ls => st.shareL ls

def ofConst : Value → AVal
  | .int k n => .one (.dat (.int k) n)
  | .bool b => .one (.dat .bool b)
  | .string s => .one (.dat .str s.data.toList)
  | .slice none 0 0 => .one .nil
  | .pointer none => .one .nilp
  | _ => .one .any

/-- What a zero cell holds. -/
def zeroLeaf : Value → Leaf
  | .int k n => .dat (.int k) n
  | .bool b => .dat .bool b
  | .string s => .dat .str s.data.toList
  | .slice none 0 0 => .nil
  | .pointer none => .nilp
  | _ => .any

/-! ### What is known of the program -/
inductive TD where
  | int (k : IntKind) | bool | str | slice (e : TypeId) | struct (fs : List (Nat × TypeId)) | ptr (e : TypeId) | other
structure TI where
  size : Nat
  bytes : Nat
  ty : Option Ty
  desc : TD
  zero : List Value

inductive Pat where
  | r (i : Nat) | o (ob off n : Nat) | a (ar : Nat)

structure CSem where
  run : {R : Type} → Nat → List AVal → St → (AVal → St → Option R) → (AVal → St → Option R) → Option R
  foot : List AVal → St → List Pat × List Pat
structure LoopSem where
  run : {R : Type} → St → (Exit → St → Option R) → (AVal → St → Option R) → Option R

structure Env where
  tab : Nat → Option TI
  sem : Nat → Option CSem
  loops : Nat → Option LoopSem
  oname : Nat → Nat

def ev (st : St) : Operand → AVal
  | .tmp t => (match st.reg t with | some v => v | none => .one .any)
  | .const v => ofConst v
  | .func f => .one (.fn f)
  | .global _ => .one .any

def putK {R : Type} (dst : Option Tmp) (v : AVal) (st : St) (K : St → Option R) : Option R :=
  match dst with
  | none => K st
  | some d => bif (look st.bregs d).isSome || Nat.ble st.n d then none else K (st.setReg d v)

def slots (l : List Leaf) (off n : Nat) : Option (List Leaf) := bif Nat.ble (off + n) l.length then some ((l.drop off).take n) else none
def place {α : Type} (l : List α) (off : Nat) (v : List α) : List α := l.take off ++ (v ++ l.drop (off + v.length))

def packV (agg : Bool) (ls : List Leaf) : AVal := bif agg then .agg ls else (match ls with | [l] => .one l | _ => .one .any)
def TD.agg : TD → Bool
  | .struct _ => true
  | _ => false

/-! ### One operation -/
section exec
variable (E : Env) {R : Type}

def opLoad (T : TypeId) (x : AVal) (st : St) (K : AVal → St → Option R) : Option R :=
  match E.tab T with
  | none => none
  | some ti =>
    match x.leaf with
    | .ptr o off => (match st.obj o with
      | some ls => (match slots (st.resl o 0 ls) off ti.size with | some c => K (packV ti.desc.agg c) st | none => none)
      | none => none)
    | .she t d off => (match slots (explode t d) off ti.size with | some c => K (packV ti.desc.agg c) st | none => none)
    | .elt a sz i off => (match st.arr a with
      | some A => (bif A.deep || A.sh || !Nat.beq sz A.t.size then none else (idx A.l (i : Int)).bind fun x => match slots (explode A.t x) off ti.size with | some c => K (packV ti.desc.agg c) st | none => none)
      | none => none)
    | _ => none

def opStore (T : TypeId) (x v : AVal) (st : St) (K : St → Option R) : Option R :=
  match E.tab T, v.leaves with
  | some ti, some vs =>
    bif Nat.beq vs.length ti.size && vs.all Leaf.cell then
      (match x.leaf with
      | .ptr o off => (match st.obj o with
        | some ls => (match slots ls off ti.size with
          | some c => (bif c.any Leaf.isBas then none else K (st.setObj o (place ls off vs)))
          | none => none)
        | none => none)
      | .elt a sz i off => (match st.shareL vs with
        | none => none
        | some st' => (match look st'.arrs a with
          | some A => (bif A.deep || A.sh || !Nat.beq sz A.t.size then none else
              (idx A.l (i : Int)).bind fun x => (bif Nat.ble (off + ti.size) A.t.size then (match implode st' A.t (place (explode A.t x) off vs) with
                | some (x', []) => K (st'.setArr a { A with l := A.l.set i x' })
                | _ => none) else none))
          | none => none))
      | _ => none)
    else none
  | _, _ => none

def opFieldAddr (T : TypeId) (x : AVal) (f : Nat) (st : St) (K : AVal → St → Option R) : Option R :=
  match E.tab T with
  | some { desc := .struct fs, .. } => (match fs[f]? with
    | some (foff, ft) => (match E.tab ft with
      | some fi => (bif Nat.beq fi.size 0 then none else match x.leaf with
        | .ptr o off => K (.one (.ptr o (off + foff))) st
        | .she t d off => K (.one (.she t d (off + foff))) st
        | .elt a sz i off => K (.one (.elt a sz i (off + foff))) st
        | _ => none)
      | none => none)
    | none => none)
  | _ => none

def opField (T : TypeId) (x : AVal) (f : Nat) (st : St) (K : AVal → St → Option R) : Option R :=
  match E.tab T, x.leaves with
  | some { desc := .struct fs, .. }, some ls => (match fs[f]? with
    | some (foff, ft) => (match E.tab ft with
      | some fi => (match slots ls foff fi.size with | some c => K (packV fi.desc.agg c) st | none => none)
      | none => none)
    | none => none)
  | _, _ => none

def AVal.isAgg : AVal → Bool
  | .agg _ => true
  | .one (.dat (.pair _ _) _) => true
  | .one (.dat (.one _) _) => true
  | _ => false
def AVal.int? : AVal → Option (IntKind × Int)
  | .one (.dat (.int k) d) => some (k, d)
  | _ => none
def AVal.bool? : AVal → Option Bool
  | .one (.dat .bool d) => some d
  | _ => none
def AVal.str? : AVal → Option Str
  | .one (.dat .str d) => some d
  | _ => none

def opIndexAddr (T : TypeId) (x i : AVal) (st : St) (K : AVal → St → Option R) : Option R :=
  match E.tab T, i.int? with
  | some { desc := .slice e, .. }, some (_, n) => (match E.tab e with
    | some ei => (match x.leaf with
      | .dat (.slice t) l => (bif Nat.beq ei.size t.size then (idx l n).bind fun d => K (.one (.she t d 0)) st else none)
      | .hdl a => (match st.arr a with
        | some A => (bif Nat.beq ei.size A.t.size then (idx A.l n).bind fun d => (bif A.sh then K (.one (.she A.t d 0)) st else K (.one (.elt a A.t.size n.toNat 0)) st) else none)
        | none => none)
      | _ => none)
    | none => none)
  | _, _ => none

def opIndex (T : TypeId) (x i : AVal) (st : St) (K : AVal → St → Option R) : Option R :=
  match E.tab T, x.str?, i.int? with
  | some { desc := .str, .. }, some s, some (_, n) => (idx s n).bind fun b => K (.one (.dat (.int .u8) (b.toNat : Int))) st
  | _, _, _ => none

def boundOf (d : Int) : Option AVal → Option Int
  | none => some d
  | some v => v.int?.map (·.2)

def opSlice (T : TypeId) (dst : Nat) (x : AVal) (lo hi mx : Option AVal) (st : St) (K : AVal → St → Option R) : Option R :=
  match E.tab T, mx with
  | some { desc := .str, .. }, none => (match x.str? with
    | some s => (match boundOf 0 lo, boundOf (s.length : Int) hi with
      | some i, some j => (sub s i j).bind fun r => K (.one (.dat .str r)) st
      | _, _ => none)
    | none => none)
  | some { desc := .slice e, .. }, none => (match E.tab e with
    | some ei => (match x.leaf with
      | .dat (.slice t) l => (bif Nat.beq ei.size t.size then (match boundOf 0 lo, boundOf (l.length : Int) hi with
        | some i, some j => (sub l i j).bind fun r => K (.one (.dat (.slice t) r)) st
        | _, _ => none) else none)
      | .hdl a => (match st.arr a with
        | some A => (bif Nat.beq ei.size A.t.size then
            (bif A.sh then (match boundOf 0 lo, boundOf (A.l.length : Int) hi with
              | some i, some j => (sub A.l i j).bind fun r => K (.one (.dat (.slice A.t) r)) st
              | _, _ => none)
            else (match lo, hi with
              | none, some h => (match h.int? with
                | some (_, j) => (bif A.deep || (look st.arrs a).isNone || (look st.barrs a).isSome || (st.arr dst).isSome || st.ment true dst then none else (sub A.l 0 j).bind fun r =>
                    K (.one (.hdl dst)) { st with arrs := (dst, { A with l := r }) :: del st.arrs a })
                | none => none)
              | _, _ => none)) else none)
        | none => none)
      | _ => none)
    | none => none)
  | _, _ => none

def opBin (op : BinOp) (T : TypeId) (x y : AVal) (K : AVal → Option R) : Option R :=
  match x, y with
  | .one (.dat (.int k) a), .one (.dat (.int k') b) =>
    (match op with
    | .shl => bif decide (b < 0) then none else K (.one (.dat (.int k) (k.wrap (a * 2 ^ (min b.toNat k.bits)))))
    | .shr => bif decide (b < 0) then none else K (.one (.dat (.int k) (a.fdiv (2 ^ (min b.toNat k.bits)))))
    | _ => bif !decide (k = k') then none else
      (match op with
      | .add => K (.one (.dat (.int k) (k.wrap (a + b))))
      | .sub => K (.one (.dat (.int k) (k.wrap (a - b))))
      | .mul => K (.one (.dat (.int k) (k.wrap (a * b))))
      | .quo => bif decide (b = 0) then none else K (.one (.dat (.int k) (k.wrap (a.tdiv b))))
      | .rem => bif decide (b = 0) then none else K (.one (.dat (.int k) (a.tmod b)))
      | .and => K (.one (.dat (.int k) (bitop .and k a b)))
      | .or => K (.one (.dat (.int k) (bitop .or k a b)))
      | .xor => K (.one (.dat (.int k) (bitop .xor k a b)))
      | .eql => K (.one (.dat .bool (a == b)))
      | .neq => K (.one (.dat .bool (a != b)))
      | .lss => K (.one (.dat .bool (decide (a < b))))
      | .leq => K (.one (.dat .bool (decide (a ≤ b))))
      | .gtr => K (.one (.dat .bool (decide (a > b))))
      | .geq => K (.one (.dat .bool (decide (a ≥ b))))
      | _ => none))
  | .one (.dat .str a), .one (.dat .str b) =>
    (match op with
    | .add => (app a b).bind fun c => K (.one (.dat .str c))
    | .eql => K (.one (.dat .bool (a == b)))
    | .neq => K (.one (.dat .bool (!(a == b))))
    | _ => none)
  | .one (.dat .bool a), .one (.dat .bool b) =>
    (match E.tab T, op with
    | some { desc := .bool, .. }, .eql => K (.one (.dat .bool (a == b)))
    | some { desc := .bool, .. }, .neq => K (.one (.dat .bool (!(a == b))))
    | _, _ => none)
  | _, _ => none

def opUn (op : UnOp) (x : AVal) (K : AVal → Option R) : Option R :=
  match op, x with
  | .neg, .one (.dat (.int k) a) => K (.one (.dat (.int k) (k.wrap (0 - a))))
  | .not, .one (.dat .bool b) => K (.one (.dat .bool (!b)))
  | _, _ => none

def opConvert (S D : TypeId) (x : AVal) (st : St) (K : AVal → St → Option R) : Option R :=
  match E.tab S, E.tab D with
  | some si, some di => (match si.desc, di.desc, x with
    | _, .int k, .one (.dat (.int _) n) => K (.one (.dat (.int k) (k.wrap n))) st
    | .str, .str, .one (.dat .str s) => K (.one (.dat .str s)) st
    | .slice e, .str, .one l => (match E.tab e, l with
      | some { desc := .int .u8, .. }, .dat (.slice (.int .u8)) l => K (.one (.dat .str (l.map fun n => UInt8.ofNat n.toNat))) st
      | some { desc := .int .u8, .. }, .hdl a => (match st.arr a with
        | some A => (match cast? (.slice A.t) (.slice (.int .u8)) A.l with
          | some l => K (.one (.dat .str (l.map fun n => UInt8.ofNat n.toNat))) st
          | none => none)
        | none => none)
      | _, _ => none)
    | _, _, _ => none)
  | _, _ => none

def buildParts (fs : List (Nat × TypeId)) (zs : List Leaf) : List (Nat × AVal) → Option (List Leaf)
  | [] => some zs
  | (i, v) :: r => (match fs[i]?, v.leaves with
    | some (off, t), some ls => (match E.tab t with
      | some ti => (bif Nat.beq ls.length ti.size && Nat.ble (off + ls.length) zs.length then buildParts fs (place zs off ls) r else none)
      | none => none)
    | _, _ => none)

def opBuild (T : TypeId) (parts : List (Nat × AVal)) (st : St) (K : AVal → St → Option R) : Option R :=
  match E.tab T with
  | some ti => (match ti.desc with
    | .struct fs => (bif fs.all fun p => (E.tab p.2).isSome then (match buildParts E fs (ti.zero.map zeroLeaf) parts with | some ls => K (.agg ls) st | none => none) else none)
    | _ => none)
  | none => none

/-- The elements of a slice that is written out, in order. -/
def sliceParts (t : Ty) : Nat → List (Nat × AVal) → St → Option (List t.den × St)
  | _, [], st => some ([], st)
  | i, (j, v) :: r, st => bif Nat.beq i j then (match v.shared st with
      | some st' => (match v.get st' t with
        | some d => (match sliceParts t (i + 1) r st' with | some (l, st'') => some (d :: l, st'') | none => none)
        | none => none)
      | none => none) else none

def opBuildSlice (T : TypeId) (dst len : Nat) (parts : List (Nat × AVal)) (st : St) (K : AVal → St → Option R) : Option R :=
  match E.tab T with
  | some { desc := .slice e, .. } => (match E.tab e with
    | some ei => (match ei.ty with
      | some t => (bif Nat.beq len parts.length && Nat.beq ei.size t.size && Nat.ble (len * ei.size) 16777216 then
          (match sliceParts t 0 parts st with
          | some (l, st') => (match st'.arr dst with
            | none => (bif st'.ment true dst then none else K (.one (.hdl dst)) (st'.setArr dst ⟨t, false, false, l⟩))
            | some _ => none)
          | none => none) else none)
      | none => none)
    | none => none)
  | _ => none

def zeroOf : (t : Ty) → t.den
  | .int _ => 0 | .bool => false | .str => [] | .slice _ => [] | .pair a b => (zeroOf a, zeroOf b) | .one a => zeroOf a

/-- The zero cells of a type, and what is left. -/
def zchk : (t : Ty) → List Value → Option (List Value)
  | .int k, .int k' n :: r => bif decide (k = k') && decide (n = 0) then some r else none
  | .bool, .bool false :: r => some r
  | .str, .string s :: r => (match s.data.toList with | [] => some r | _ => none)
  | .slice _, .slice none 0 0 :: r => some r
  | .pair a b, l => (match zchk a l with | some r => zchk b r | none => none)
  | .one a, l => zchk a l
  | _, _ => none

def opMakeSlice (T : TypeId) (dst : Nat) (len cap : AVal) (st : St) (K : AVal → St → Option R) : Option R :=
  match E.tab T, len.int?, cap.int? with
  | some { desc := .slice e, .. }, some (.i64, n), some (.i64, c) => (match E.tab e with
    | some ei => (match ei.ty, st.arr dst with
      | some t, none => (bif Nat.beq ei.size t.size && Nat.ble ei.bytes 16384 && !st.ment true dst && (match zchk t ei.zero with | some [] => true | _ => false) then
          (mkl c (zeroOf t)).bind fun z => (sub z 0 n).bind fun l => K (.one (.hdl dst)) (st.setArr dst ⟨t, false, false, l⟩) else none)
      | _, _ => none)
    | none => none)
  | _, _, _ => none

/-- An object is made: a variable of its own. -/
def opNew (T : TypeId) (o : Nat) (ls : List Leaf) (st : St) (K : AVal → St → Option R) : Option R :=
  match E.tab T, st.obj o with
  | some ti, none => (bif Nat.beq ls.length ti.size && !ls.any Leaf.isBas && !st.ment false o && !ls.any (Leaf.ment false o) then K (.one (.ptr o 0)) (st.setObj o ls) else none)
  | _, _ => none

def lenOf (st : St) : Leaf → Option Int
  | .dat .str s => some (s.length : Int)
  | .dat (.slice _) l => some (l.length : Int)
  | .nil => some 0
  | .hdl a => (match st.arr a with | some A => some (A.l.length : Int) | none => none)
  | _ => none

def opAppend (T : TypeId) (dst : Nat) (s x : AVal) (st : St) (K : AVal → St → Option R) : Option R :=
  match E.tab T with
  | some { desc := .slice e, .. } => (match E.tab e with
    | some ei => (match ei.ty with
      | none => none
      | some t => (bif Nat.beq ei.size t.size && Nat.ble ei.bytes 16384 then
        (match x.shared st with
        | none => none
        | some st1 => (match x.get st1 (.slice t), st1.arr dst with
          | some m, none => (bif st1.ment true dst then none else match s.leaf with
            | .nil => (app ([] : List t.den) m).bind fun r => K (.one (.hdl dst)) (st1.setArr dst ⟨t, false, false, r⟩)
            | .hdl a => (match look st1.arrs a with
              | some A => (bif A.sh || A.deep || (look st1.barrs a).isSome then none else
                (match cast? (.slice A.t) (.slice t) A.l with
                | some l => (app l m).bind fun r => K (.one (.hdl dst)) { st1 with arrs := (dst, ⟨t, false, false, r⟩) :: del st1.arrs a }
                | none => none))
              | none => none)
            | _ => none)
          | _, _ => none)) else none))
    | none => none)
  | _ => none

def foldInt (k : IntKind) (f : Int → Int → Int) (a : Int) : List AVal → Option Int
  | [] => some a
  | v :: r => (match v.int? with | some (_, b) => foldInt k f (f a b) r | none => none)

def opBuiltin (b : Builtin) (dst : Nat) (argTypes : List TypeId) (vs : List AVal) (st : St) (K : AVal → St → Option R) : Option R :=
  match b, vs with
  | .len, [v] => (match (argTypes[0]?).bind E.tab with
    | some { desc := .str, .. } => (match v.str? with | some s => K (.one (.dat (.int .i64) (s.length : Int))) st | none => none)
    | some { desc := .slice _, .. } => (match lenOf st v.leaf, v.str? with | some n, none => K (.one (.dat (.int .i64) n)) st | _, _ => none)
    | _ => none)
  | .append, [s, x] => (match argTypes with
    | [t, u] => (bif Nat.beq t u then opAppend E t dst s x st K else none)
    | _ => none)
  | .min, v :: r => (match v.int? with
    | some (k, a) => (match foldInt k (fun x y => bif decide (y < x) then y else x) a r with | some n => K (.one (.dat (.int k) n)) st | none => none)
    | none => none)
  | .max, v :: r => (match v.int? with
    | some (k, a) => (match foldInt k (fun x y => bif decide (y > x) then y else x) a r with | some n => K (.one (.dat (.int k) n)) st | none => none)
    | none => none)
  | _, _ => none

def dstN : Option Tmp → Nat
  | some d => d
  | none => 0

/-- One operation: `K` where it yields a value, `KP` where it panics. -/
def exec1 (o : Oper) (st : St) (K : AVal → St → Option R) (KP : AVal → St → Option R) : Option R :=
  match o.op with
  | .move x => K (ev st x) st
  | .assign x => K (ev st x) st
  | .pick c a b => (match (ev st c).bool? with | some c => bif c then K (ev st a) st else K (ev st b) st | none => none)
  | .nilCheck x => (match (ev st x).leaf with
    | .ptr _ _ => K (ev st x) st
    | .she _ _ _ => K (ev st x) st
    | .elt _ _ _ _ => K (ev st x) st
    | _ => none)
  | .alloc T => (match E.tab T with | some ti => opNew E T (E.oname (dstN o.dst)) (ti.zero.map zeroLeaf) st K | none => none)
  | .box T x => (match (ev st x).leaves with | some ls => opNew E T (E.oname (dstN o.dst)) ls st K | none => none)
  | .build T parts => opBuild E T (parts.toList.map fun p => (p.1, ev st p.2)) st K
  | .buildSlice T len parts => opBuildSlice E T (dstN o.dst) len (parts.toList.map fun p => (p.1, ev st p.2)) st K
  | .load T x => opLoad E T (ev st x) st K
  | .store T x v => opStore E T (ev st x) (ev st v) st fun st' => K (.one .und) st'
  | .binOp op T x y _ => opBin E op T (ev st x) (ev st y) fun v => K v st
  | .unOp op _ x => opUn op (ev st x) fun v => K v st
  | .convert S D x => opConvert E S D (ev st x) st K
  | .makeSlice T l c => opMakeSlice E T (dstN o.dst) (ev st l) (ev st c) st K
  | .slice T x lo hi mx => opSlice E T (dstN o.dst) (ev st x) (lo.map (ev st)) (hi.map (ev st)) (mx.map (ev st)) st K
  | .fieldAddr T x f => opFieldAddr E T (ev st x) f st K
  | .field T x f => bif (ev st x).isAgg then opField E T (ev st x) f st K else none
  | .indexAddr T x i => opIndexAddr E T (ev st x) (ev st i) st K
  | .index T x i => opIndex E T (ev st x) (ev st i) st K
  | .extract x n => (match ev st x with | .tup vs => (match vs[n]? with | some p => K (packV p.1 p.2) st | none => none) | _ => none)
  | .call c => (match c.callee with
    | .builtin b => opBuiltin E b (dstN o.dst) c.argTypes.toList (c.args.toList.map (ev st)) st K
    | .value (.func f) => (match E.sem f with | some s => s.run (dstN o.dst) (c.args.toList.map (ev st)) st K KP | none => none)
    | _ => none)
  | .makeInterface T x => (match E.tab T with
    | some ti => (match ti.desc, (ev st x).leaves with
      | .other, _ => none
      | _, some ls => K (.ifc T ls) st
      | _, none => none)
    | none => none)
  | .panic x => (match ev st x with | .ifc t ls => KP (.ifc t ls) st | _ => none)
  | _ => none
end exec

/-! ### A region, and code -/
def guardDst (all : List Oper) (j : Nat) : Option Nat := (all[j]?).bind (·.dst)

section run
variable (E : Env) {R : Type}

def runOps (all : List Oper) : List Oper → St → (St → Option R) → (AVal → St → Option R) → Option R
  | [], st, K, _ => K st
  | o :: rest, st, K, KP =>
    match o.guard with
    | none => exec1 E o st (fun v st' => putK o.dst v st' fun s => runOps all rest s K KP) KP
    | some (j, want) => (match guardDst all j with
      | none => none
      | some g => (match st.reg g with
        | some (.one (.dat .bool c)) =>
          (bif c then
            (bif want then exec1 E o (st.setReg g (.one (.dat .bool true))) (fun v st' => putK o.dst v st' fun s => runOps all rest s K KP) KP
              else putK o.dst (.one .und) (st.setReg g (.one (.dat .bool true))) fun s => runOps all rest s K KP)
          else
            (bif want then putK o.dst (.one .und) (st.setReg g (.one (.dat .bool false))) fun s => runOps all rest s K KP
              else exec1 E o (st.setReg g (.one (.dat .bool false))) (fun v st' => putK o.dst v st' fun s => runOps all rest s K KP) KP))
        | some (.one .und) => putK o.dst (.one .und) st fun s => runOps all rest s K KP
        | _ => none))

/-- The abstract run of code. Exits: as the model's. A panic's value is a leaf list under `Exit.panic`'s own continuation. -/
noncomputable def runC (c : Code) : St → (Exit → St → Option R) → (AVal → St → Option R) → Option R :=
  Code.rec (motive := fun _ => St → (Exit → St → Option R) → (AVal → St → Option R) → Option R)
    (fun st K _ => K .normal st)
    (fun _ ops draw st K KP => bif draw then none else runOps E ops.toList ops.toList st (fun s => K .normal s) KP)
    (fun _ _ ra rb st K KP => ra st (fun e s => match e with | .normal => rb s K KP | e => K e s) KP)
    (fun c _ _ rt re st K KP => match (ev st c).bool? with | some b => bif b then rt st K KP else re st K KP | none => none)
    (fun id _ rb st K KP => match E.loops id with
      | some L => L.run st K KP
      | none => rb st (fun e s => match e with | .exit i => (bif Nat.beq i id then K .normal s else K (.exit i) s) | e => K e s) KP)
    (fun _ _ _ _ _ => none)
    (fun _ _ _ _ _ _ _ _ _ => none)
    (fun id st K _ => K (.exit id) st)
    (fun _ _ _ _ _ => none)
    (fun _ _ _ _ => none)
    (fun _ _ _ _ => none)
    (fun st K _ => K .ret st)
    (fun _ _ _ _ => none) c
end run

end Go.Fx
