/- The framework, twenty-first text: states that are laid out, and how they are read. Definitions. -/
import Derived.Test.YtafpgfdjfnoagaaFx20
namespace Go.Fx
set_option linter.unusedVariables false

inductive Pl where
  | r (i : Nat) | l (o j : Nat)
def Pl.key : Pl → Nat
  | .r i => 1000000 + i
  | .l o j => 2000000 + o * 1000 + j
inductive Spec where
  | any | d (t : Ty) | h (t : Ty) | lit (l : Leaf)
@[reducible] def Spec.V : Spec → Type
  | .any => Unit | .d t => t.den | .h t => List t.den | .lit _ => Unit
abbrev Pls := List (Pl × Spec)
@[reducible] def PV : Pls → Type
  | [] => Unit
  | p :: r => p.2.V × PV r

def Spec.leaf (nm : Nat) : (s : Spec) → s.V → Leaf
  | .any, _ => .any
  | .d t, x => .dat t x
  | .h _, _ => .hdl nm
  | .lit l, _ => l
def Spec.arr : (s : Spec) → s.V → Option Arr
  | .h t, x => some ⟨t, false, false, x⟩
  | _, _ => none

def regsOf : (ps : Pls) → PV ps → List (Nat × AVal)
  | [], _ => []
  | (.r i, s) :: r, v => (i, .one (s.leaf (Pl.r i).key v.1)) :: regsOf r v.2
  | (.l _ _, _) :: r, v => regsOf r v.2
def leavesOf : (ps : Pls) → PV ps → List (Nat × Nat × Leaf)
  | [], _ => []
  | (.l o j, s) :: r, v => (o, j, s.leaf (Pl.l o j).key v.1) :: leavesOf r v.2
  | (.r _, _) :: r, v => leavesOf r v.2
def arrsOf : (ps : Pls) → PV ps → List (Nat × Arr)
  | [], _ => []
  | (p, s) :: r, v => (match s.arr v.1 with | some A => (p.key, A) :: arrsOf r v.2 | none => arrsOf r v.2)

structure Lay where
  n : Nat
  objs : List (Nat × Nat)
  cs : Pls
  vs : Pls

def shapeL (cl vl : List (Nat × Nat × Leaf)) (o : Nat) : Nat → Nat → List Leaf
  | _, 0 => []
  | j, k + 1 => (match lookL cl o j with | some _ => .bas | none => match lookL vl o j with | some l => l | none => .any) :: shapeL cl vl o (j + 1) k
def Lay.st (L : Lay) (c : PV L.cs) (v : PV L.vs) : St :=
  ⟨L.n, regsOf L.vs v, L.objs.map fun p => (p.1, shapeL (leavesOf L.cs c) (leavesOf L.vs v) p.1 0 p.2), arrsOf L.vs v, regsOf L.cs c, leavesOf L.cs c, arrsOf L.cs c⟩

def litEq : Leaf → Leaf → Bool
  | .nil, .nil => true
  | .nilp, .nilp => true
  | .und, .und => true
  | .ptr o f, .ptr o' f' => Nat.beq o o' && Nat.beq f f'
  | .fn f, .fn f' => Nat.beq f f'
  | _, _ => false

def St.at (st : St) : Pl → AVal
  | .r i => st.regD i
  | .l o j => (match st.obj o with | some ls => (match ls[j]? with | some l => .one (st.res o j l) | none => .one .any) | none => .one .any)

/-- One place is read. -/
def rd1 (st : St) (p : Pl) : (s : Spec) → Option (s.V × AL)
  | .any => some ((), [])
  | .d t => (match (st.at p).get st t with | some x => some (x, []) | none => none)
  | .h t => (match st.at p with
    | .one .nil => some ([], [(p.key, none, ⟨t, false, false, []⟩)])
    | .one (.hdl a) => (match st.arr a with
      | some A => (bif A.sh || A.deep then none else match cast? (.slice A.t) (.slice t) A.l with | some x => some (x, [(p.key, some a, ⟨t, false, false, x⟩)]) | none => none)
      | none => none)
    | _ => none)
  | .lit l => (match st.at p with | .one l' => (bif litEq l l' then some ((), []) else none) | _ => none)
def rdAll (st : St) : (ps : Pls) → Option (PV ps × AL)
  | [] => some ((), [])
  | p :: r => (match rd1 st p.1 p.2 with
    | some (x, a) => (match rdAll st r with | some (xs, b) => some ((x, xs), a ++ b) | none => none)
    | none => none)

/-- What is to be read as data is given away. -/
def shareAll : Pls → St → Option St
  | [], st => some st
  | (p, .d _) :: r, st => (match (st.at p).shared st with | some st' => shareAll r st' | none => none)
  | _ :: r, st => shareAll r st

def memN : Nat → List Nat → Bool
  | _, [] => false
  | x, y :: r => Nat.beq x y || memN x r
def nodupN : List Nat → Bool
  | [] => true
  | x :: r => !memN x r && nodupN r
def alOk (al : AL) : Bool := nodupN (al.map (·.1)) && nodupN (al.filterMap (·.2.1))
def objsOk (objs : List (Nat × Nat)) (st : St) : Bool :=
  objs.all (fun p => match st.obj p.1 with | some ls => Nat.beq ls.length p.2 | none => false) && st.objs.all fun p => Nat.ble 10000 p.1 || memN p.1 (objs.map (·.1))

/-- The things that do not change are as they were. -/
def keep1 (st : St) : Pl → Spec → Bool
  | .r i, s => (look st.regs i).isNone && (match s with | .h _ => (look st.arrs (Pl.r i).key).isNone | .lit l => litEq l l | _ => true)
  | .l o j, s => (match st.obj o with | some ls => (match ls[j]? with | some .bas => true | _ => false) | none => false) && (match s with | .h _ => (look st.arrs (Pl.l o j).key).isNone | .lit l => litEq l l | _ => true)
def keepAll (st : St) (cs : Pls) : Bool := nodupN (cs.map fun p => p.1.key) && cs.all fun p => keep1 st p.1 p.2
def keepAL : (cs : Pls) → PV cs → AL
  | [], _ => []
  | (p, s) :: r, v => (match s.arr v.1 with | some A => (p.key, some p.key, A) :: keepAL r v.2 | none => keepAL r v.2)

/-- The state at a loop's head. -/
def ent (L : Lay) (st : St) : Option (PV L.cs × PV L.vs × St) :=
  match shareAll L.cs st with
  | none => none
  | some s => (match shareAll L.vs s with
    | none => none
    | some s => (match rdAll s L.cs with
      | none => none
      | some (c, a) => (match rdAll s L.vs with
        | none => none
        | some (v, b) => (bif Nat.beq L.n s.n && alOk (a ++ b) && objsOk L.objs s then some (c, v, s) else none))))
/-- The state behind a round, or at an exit. -/
def rnd (L : Lay) (al : AL) (s : St) : Option (PV L.vs) :=
  match shareAll L.vs s with
  | none => none
  | some s => (match rdAll s L.vs with
    | none => none
    | some (v, b) => (bif keepAll s L.cs && alOk (al ++ b) && objsOk L.objs s then some v else none))
end Go.Fx
