/- The framework, first text: typed data, how memory holds it, and the states of the abstract interpreter. -/
import Derived.Calls
import Derived.Orders
import Derived.KernelRfl
import Derived.Below
namespace Go.Fx

/-! ### Types and data -/
inductive Ty where
  | int (k : IntKind) | bool | str | slice (t : Ty) | pair (a b : Ty) | one (a : Ty)

def Ty.beq : Ty → Ty → Bool
  | .int k, .int k' => decide (k = k')
  | .bool, .bool => true
  | .str, .str => true
  | .slice t, .slice u => t.beq u
  | .pair a b, .pair c d => a.beq c && b.beq d
  | .one a, .one b => a.beq b
  | _, _ => false

theorem Ty.eq_of_beq : ∀ {t u : Ty}, t.beq u = true → t = u
  | .int k, u, h => by cases u <;> simp_all [Ty.beq]
  | .bool, u, h => by cases u <;> simp_all [Ty.beq]
  | .str, u, h => by cases u <;> simp_all [Ty.beq]
  | .slice t, u, h => by cases u <;> simp_all [Ty.beq]; exact Ty.eq_of_beq h
  | .pair a b, u, h => by cases u <;> simp_all [Ty.beq]; exact ⟨Ty.eq_of_beq h.1, Ty.eq_of_beq h.2⟩
  | .one a, u, h => by cases u <;> simp_all [Ty.beq]; exact Ty.eq_of_beq h

abbrev Str := List UInt8
@[reducible] def Ty.den : Ty → Type
  | .int _ => Int | .bool => Bool | .str => Str | .slice t => List t.den | .pair a b => a.den × b.den | .one a => a.den

/-- How many cells a value of the type has. -/
def Ty.size : Ty → Nat
  | .pair a b => a.size + b.size | .one a => a.size | _ => 1
def Ty.agg : Ty → Bool
  | .pair _ _ => true | .one _ => true | _ => false

def cast? (t u : Ty) (d : t.den) : Option u.den :=
  if h : t.beq u = true then some (cast (congrArg Ty.den (Ty.eq_of_beq h)) d) else none

theorem cast?_some {t u : Ty} {d : t.den} {x : u.den} (h : cast? t u d = some x) : ∃ e : t = u, x = e ▸ d := by
  unfold cast? at h
  split at h
  · rename_i hb
    have e := Ty.eq_of_beq hb
    subst e
    exact ⟨rfl, (Option.some.inj h).symm⟩
  · cases h

/-! ### How memory holds data -/
abbrev Heap := List (Nat × Obj)
abbrev Mem := Nat → Option Obj

def RepL {α : Type} (R : List Value → α → Heap → Prop) : List Value → List α → Heap → Prop
  | cs, [], H => cs = [] ∧ H = []
  | cs, x :: l, H => ∃ c1 c2 H1 H2, cs = c1 ++ c2 ∧ H = H1 ++ H2 ∧ R c1 x H1 ∧ RepL R c2 l H2

def strV (s : Str) : Value := .string ⟨s.toArray⟩

def ShBody {α : Type} (S : Mem) (RL : List Value → List α → Heap → Prop) (cs : List Value) (l : List α) (H : Heap) : Prop :=
  H = [] ∧ ((l = [] ∧ ∃ base cap, cs = [.slice base 0 cap]) ∨
    ∃ b cap arr elem fz pre cells rest, cs = [.slice (some ⟨b, pre.length, none⟩) l.length cap] ∧ S b = some (.cells arr elem fz) ∧
      arr.toList = pre ++ (cells ++ rest) ∧ RL cells l [] ∧ l.length ≤ cap)

def OwnBody {α : Type} (RL : List Value → List α → Heap → Prop) (sz : Nat) (cs : List Value) (l : List α) (H : Heap) : Prop :=
  (l = [] ∧ H = [] ∧ cs = [.slice none 0 0]) ∨
    ∃ b cap arr elem cells rest H', cs = [.slice (some ⟨b, 0, none⟩) l.length cap] ∧ H = (b, Obj.cells arr elem (0, 0)) :: H' ∧
      arr.toList = cells ++ rest ∧ cap * sz ≤ arr.size ∧ l.length ≤ cap ∧ RL cells l H'

def Rep (S : Mem) (m : Bool) : (t : Ty) → List Value → t.den → Heap → Prop
  | .int k, cs, d, H => cs = [.int k d] ∧ H = []
  | .bool, cs, d, H => cs = [.bool d] ∧ H = []
  | .str, cs, d, H => cs = [strV d] ∧ H = []
  | .slice t, cs, l, H => if m = true then OwnBody (RepL (Rep S m t)) t.size cs l H else ShBody S (RepL (Rep S m t)) cs l H
  | .pair a b, cs, d, H => ∃ c1 c2 H1 H2, cs = c1 ++ c2 ∧ H = H1 ++ H2 ∧ Rep S m a c1 d.1 H1 ∧ Rep S m b c2 d.2 H2
  | .one a, cs, d, H => Rep S m a cs d H

theorem Rep.size {S : Mem} {m : Bool} : ∀ {t : Ty} {cs : List Value} {d : t.den} {H : Heap}, Rep S m t cs d H → cs.length = t.size
  | .int _, _, _, _, h => by rw [h.1]; rfl
  | .bool, _, _, _, h => by rw [h.1]; rfl
  | .str, _, _, _, h => by rw [h.1]; rfl
  | .slice t, cs, l, H, h => by
    simp only [Rep] at h
    split at h
    · rcases h with ⟨_, _, rfl⟩ | ⟨b, cap, arr, elem, cells, rest, H', rfl, _⟩ <;> rfl
    · rcases h with ⟨_, ⟨_, base, cap, rfl⟩ | ⟨b, cap, arr, elem, fz, pre, cells, rest, rfl, _⟩⟩ <;> rfl
  | .pair a b, cs, d, H, h => by
    obtain ⟨c1, c2, H1, H2, rfl, rfl, h1, h2⟩ := h
    have := Rep.size h1; have := Rep.size h2
    simp only [Ty.size, List.length_append]; omega
  | .one a, cs, d, H, h => by exact Rep.size (t := a) h

section RepL
variable {α : Type} {R R' : List Value → α → Heap → Prop}

theorem RepL.imp (h : ∀ c x H, R c x H → R' c x H) : ∀ {cs : List Value} {l : List α} {H : Heap}, RepL R cs l H → RepL R' cs l H
  | _, [], _, hh => hh
  | _, _ :: _, _, ⟨c1, c2, H1, H2, e1, e2, r, rl⟩ => ⟨c1, c2, H1, H2, e1, e2, h _ _ _ r, RepL.imp h rl⟩

theorem RepL.size {n : Nat} (hn : ∀ c x H, R c x H → c.length = n) : ∀ {cs : List Value} {l : List α} {H : Heap}, RepL R cs l H → cs.length = l.length * n
  | _, [], _, hh => by rw [hh.1]; simp
  | _, _ :: _, _, ⟨c1, c2, H1, H2, e1, e2, r, rl⟩ => by
    have := hn _ _ _ r; have := RepL.size hn rl
    rw [e1, List.length_append, List.length_cons, Nat.add_mul]; omega

theorem RepL.append : ∀ {cs cs' : List Value} {l l' : List α} {H H' : Heap}, RepL R cs l H → RepL R cs' l' H' → RepL R (cs ++ cs') (l ++ l') (H ++ H')
  | _, cs', [], l', _, H', hh, hh' => by obtain ⟨rfl, rfl⟩ := hh; exact hh'
  | _, cs', _ :: _, l', _, H', ⟨c1, c2, H1, H2, e1, e2, r, rl⟩, hh' =>
    ⟨c1, c2 ++ cs', H1, H2 ++ H', by rw [e1, List.append_assoc], by rw [e2, List.append_assoc], r, RepL.append rl hh'⟩

/-- The part of one element, and the whole with another element there. -/
theorem RepL.at {n : Nat} (hn : ∀ c x H, R c x H → c.length = n) : ∀ {cs : List Value} {l : List α} {H : Heap} {i : Nat} {x : α}, RepL R cs l H → l[i]? = some x →
    ∃ pre c post Hp Hc Hq, cs = pre ++ (c ++ post) ∧ pre.length = i * n ∧ H = Hp ++ (Hc ++ Hq) ∧ R c x Hc ∧
      ∀ c' x' Hc', R c' x' Hc' → RepL R (pre ++ (c' ++ post)) (l.set i x') (Hp ++ (Hc' ++ Hq))
  | _, [], _, i, x, _, hi => by simp at hi
  | _, y :: l, _, 0, x, ⟨c1, c2, H1, H2, e1, e2, r, rl⟩, hi => by
    obtain rfl : y = x := by simpa using hi
    exact ⟨[], c1, c2, [], H1, H2, e1, by simp, e2, r, fun c' x' Hc' r' => ⟨c', c2, Hc', H2, rfl, rfl, r', rl⟩⟩
  | _, y :: l, _, i + 1, x, ⟨c1, c2, H1, H2, e1, e2, r, rl⟩, hi => by
    obtain ⟨pre, c, post, Hp, Hc, Hq, f1, f2, f3, f4, f5⟩ := RepL.at hn rl (by simpa using hi)
    refine ⟨c1 ++ pre, c, post, H1 ++ Hp, Hc, Hq, ?_, ?_, ?_, f4, fun c' x' Hc' r' => ?_⟩
    · rw [e1, f1, List.append_assoc]
    · have := hn _ _ _ r; rw [List.length_append, f2, Nat.add_mul]; omega
    · rw [e2, f3, List.append_assoc]
    · exact ⟨c1, _, H1, _, by rw [List.append_assoc], by rw [List.append_assoc], r, f5 _ _ _ r'⟩

theorem RepL.split {n : Nat} (hn : ∀ c x H, R c x H → c.length = n) : ∀ {k : Nat} {cs : List Value} {l : List α} {H : Heap}, RepL R cs l H → k ≤ l.length →
    ∃ c1 c2 H1 H2, cs = c1 ++ c2 ∧ H = H1 ++ H2 ∧ c1.length = k * n ∧ RepL R c1 (l.take k) H1 ∧ RepL R c2 (l.drop k) H2
  | 0, cs, l, H, h, _ => ⟨[], cs, [], H, rfl, rfl, by simp, ⟨rfl, rfl⟩, h⟩
  | k + 1, _, [], _, _, hk => by simp at hk
  | k + 1, _, y :: l, _, ⟨c1, c2, H1, H2, e1, e2, r, rl⟩, hk => by
    obtain ⟨d1, d2, K1, K2, f1, f2, f3, f4, f5⟩ := RepL.split hn rl (k := k) (by simpa using hk)
    refine ⟨c1 ++ d1, d2, H1 ++ K1, K2, by rw [e1, f1, List.append_assoc], by rw [e2, f2, List.append_assoc], ?_, ⟨c1, d1, H1, K1, rfl, rfl, r, f4⟩, f5⟩
    have := hn _ _ _ r; rw [List.length_append, f3, Nat.add_mul]; omega

theorem RepL.noHeap (hR : ∀ c x H, R c x H → H = []) : ∀ {cs : List Value} {l : List α} {H : Heap}, RepL R cs l H → H = []
  | _, [], _, h => h.2
  | _, _ :: _, _, ⟨c1, c2, H1, H2, e1, e2, r, rl⟩ => by rw [e2, hR _ _ _ r, RepL.noHeap hR rl]; rfl

theorem RepL.nil_right : ∀ {cs : List Value} {l : List α} {H : Heap}, RepL R cs l H → H = [] → RepL R cs l []
  | _, _, _, h, e => e ▸ h
end RepL

theorem Rep.mono {S S' : Mem} (hS : ∀ b o, S b = some o → S' b = some o) {m : Bool} : ∀ {t : Ty} {cs : List Value} {d : t.den} {H : Heap}, Rep S m t cs d H → Rep S' m t cs d H
  | .int _, _, _, _, h => h
  | .bool, _, _, _, h => h
  | .str, _, _, _, h => h
  | .slice t, cs, l, H, h => by
    have ih : ∀ c x H, Rep S m t c x H → Rep S' m t c x H := fun c x H h => Rep.mono hS h
    cases m with
    | true =>
      rcases h with h | ⟨b, cap, arr, elem, cells, rest, H', e1, e2, e3, e4, e5, e6⟩
      · exact .inl h
      · exact .inr ⟨b, cap, arr, elem, cells, rest, H', e1, e2, e3, e4, e5, e6.imp ih⟩
    | false =>
      rcases h with ⟨hH, h | ⟨b, cap, arr, elem, fz, pre, cells, rest, e1, e2, e3, e4, elc⟩⟩
      · exact ⟨hH, .inl h⟩
      · exact ⟨hH, .inr ⟨b, cap, arr, elem, fz, pre, cells, rest, e1, hS _ _ e2, e3, e4.imp ih, elc⟩⟩
  | .pair a b, cs, d, H, h => by
    obtain ⟨c1, c2, H1, H2, rfl, rfl, h1, h2⟩ := h
    exact ⟨c1, c2, H1, H2, rfl, rfl, h1.mono hS, h2.mono hS⟩
  | .one a, cs, d, H, h => by exact Rep.mono (t := a) hS h

theorem Rep.noHeap {S : Mem} : ∀ {t : Ty} {cs : List Value} {d : t.den} {H : Heap}, Rep S false t cs d H → H = []
  | .int _, _, _, _, h => h.2
  | .bool, _, _, _, h => h.2
  | .str, _, _, _, h => h.2
  | .slice t, _, _, _, h => h.1
  | .pair a b, _, _, _, h => by
    obtain ⟨c1, c2, H1, H2, rfl, rfl, h1, h2⟩ := h
    rw [Rep.noHeap h1, Rep.noHeap h2]; rfl
  | .one a, _, _, _, h => by exact Rep.noHeap (t := a) h

theorem RepL.share {α : Type} {R R' : List Value → α → Heap → Prop} {S' : Mem} (h : ∀ c x H, (∀ p ∈ H, S' p.1 = some p.2) → R c x H → R' c x []) :
    ∀ {cs : List Value} {l : List α} {H : Heap}, (∀ p ∈ H, S' p.1 = some p.2) → RepL R cs l H → RepL R' cs l []
  | _, [], _, _, hh => ⟨hh.1, rfl⟩
  | _, _ :: _, _, hp, ⟨c1, c2, H1, H2, e1, e2, r, rl⟩ =>
    ⟨c1, c2, [], [], e1, rfl, h _ _ _ (fun p hm => hp p (by rw [e2]; exact List.mem_append_left _ hm)) r,
      RepL.share h (fun p hm => hp p (by rw [e2]; exact List.mem_append_right _ hm)) rl⟩

/-- What was owned is given away: it is read in shared memory from now on. -/
theorem Rep.share {S S' : Mem} (hS : ∀ b o, S b = some o → S' b = some o) : ∀ {m : Bool} {t : Ty} {cs : List Value} {d : t.den} {H : Heap},
    (∀ p ∈ H, S' p.1 = some p.2) → Rep S m t cs d H → Rep S' false t cs d []
  | _, .int _, _, _, _, _, h => ⟨h.1, rfl⟩
  | _, .bool, _, _, _, _, h => ⟨h.1, rfl⟩
  | _, .str, _, _, _, _, h => ⟨h.1, rfl⟩
  | m, .slice t, cs, l, H, hp, h => by
    have ih : ∀ c x H, (∀ p ∈ H, S' p.1 = some p.2) → Rep S m t c x H → Rep S' false t c x [] := fun c x H hp h => Rep.share hS hp h
    cases m with
    | true =>
      rcases h with ⟨rfl, rfl, rfl⟩ | ⟨b, cap, arr, elem, cells, rest, H', rfl, rfl, e3, e4, e5, e6⟩
      · exact ⟨rfl, .inl ⟨rfl, none, 0, rfl⟩⟩
      · exact ⟨rfl, .inr ⟨b, cap, arr, elem, (0, 0), [], cells, rest, rfl, hp (b, Obj.cells arr elem (0, 0)) (List.mem_cons_self ..), e3,
          e6.share ih (fun p hm => hp p (List.mem_cons_of_mem _ hm)), e5⟩⟩
    | false =>
      rcases h with ⟨rfl, h | ⟨b, cap, arr, elem, fz, pre, cells, rest, e1, e2, e3, e4, elc⟩⟩
      · exact ⟨rfl, .inl h⟩
      · exact ⟨rfl, .inr ⟨b, cap, arr, elem, fz, pre, cells, rest, e1, hS _ _ e2, e3, e4.share ih (by simp), elc⟩⟩
  | m, .pair a b, cs, d, H, hp, h => by
    obtain ⟨c1, c2, H1, H2, rfl, rfl, h1, h2⟩ := h
    exact ⟨c1, c2, [], [], rfl, rfl, h1.share hS (fun p hm => hp p (List.mem_append_left _ hm)), h2.share hS (fun p hm => hp p (List.mem_append_right _ hm))⟩
  | m, .one a, cs, d, H, hp, h => by exact Rep.share (t := a) hS hp h

end Go.Fx
