/- The framework, third text: what an abstract state says of a frame and a world. -/
import Derived.Test.YtafpgfdjfnoagaaFx2
namespace Go.Fx
set_option linter.unusedVariables false

def All2 {α β : Type} (R : α → β → Prop) : List α → List β → Prop
  | [], [] => True
  | x :: xs, y :: ys => R x y ∧ All2 R xs ys
  | _, _ => False

section All2
variable {α β : Type} {R R' : α → β → Prop}
theorem All2.length : ∀ {xs : List α} {ys : List β}, All2 R xs ys → xs.length = ys.length
  | [], [], _ => rfl
  | _ :: _, _ :: _, h => by simp [All2.length h.2]
  | [], _ :: _, h => h.elim
  | _ :: _, [], h => h.elim
theorem All2.imp (f : ∀ x y, R x y → R' x y) : ∀ {xs : List α} {ys : List β}, All2 R xs ys → All2 R' xs ys
  | [], [], _ => trivial
  | _ :: _, _ :: _, h => ⟨f _ _ h.1, All2.imp f h.2⟩
  | [], _ :: _, h => h.elim
  | _ :: _, [], h => h.elim
theorem All2.impMem : ∀ {xs : List α} {ys : List β}, (∀ x y, x ∈ xs → R x y → R' x y) → All2 R xs ys → All2 R' xs ys
  | [], [], _, _ => trivial
  | _ :: _, _ :: _, f, h => ⟨f _ _ (by simp) h.1, All2.impMem (fun x y hx => f x y (by simp [hx])) h.2⟩
  | [], _ :: _, _, h => h.elim
  | _ :: _, [], _, h => h.elim
theorem All2.append : ∀ {xs xs' : List α} {ys ys' : List β}, All2 R xs ys → All2 R xs' ys' → All2 R (xs ++ xs') (ys ++ ys')
  | [], _, [], _, _, h => h
  | _ :: _, _, _ :: _, _, h, h' => ⟨h.1, All2.append h.2 h'⟩
  | [], _, _ :: _, _, h, _ => h.elim
  | _ :: _, _, [], _, h, _ => h.elim
theorem All2.split : ∀ {xs xs' : List α} {ys : List β}, All2 R (xs ++ xs') ys → ∃ y1 y2, ys = y1 ++ y2 ∧ All2 R xs y1 ∧ All2 R xs' y2
  | [], _, ys, h => ⟨[], ys, rfl, trivial, h⟩
  | x :: xs, xs', y :: ys, h => by
    obtain ⟨y1, y2, rfl, h1, h2⟩ := All2.split (xs := xs) h.2
    exact ⟨y :: y1, y2, rfl, ⟨h.1, h1⟩, h2⟩
  | _ :: _, _, [], h => h.elim
theorem All2.take : ∀ (n : Nat) {xs : List α} {ys : List β}, All2 R xs ys → All2 R (xs.take n) (ys.take n)
  | 0, _, _, _ => by simp [All2]
  | n + 1, [], [], _ => trivial
  | n + 1, _ :: _, _ :: _, h => ⟨h.1, All2.take n h.2⟩
  | n + 1, [], _ :: _, h => h.elim
  | n + 1, _ :: _, [], h => h.elim
theorem All2.drop : ∀ (n : Nat) {xs : List α} {ys : List β}, All2 R xs ys → All2 R (xs.drop n) (ys.drop n)
  | 0, _, _, h => h
  | n + 1, [], [], _ => trivial
  | n + 1, _ :: _, _ :: _, h => All2.drop n h.2
  | n + 1, [], _ :: _, h => h.elim
  | n + 1, _ :: _, [], h => h.elim
theorem All2.get : ∀ {i : Nat} {xs : List α} {ys : List β} {x : α}, All2 R xs ys → xs[i]? = some x → ∃ y, ys[i]? = some y ∧ R x y
  | 0, _ :: _, _ :: _, _, h, e => by cases e; exact ⟨_, rfl, h.1⟩
  | i + 1, _ :: _, _ :: _, _, h, e => by simpa using All2.get (i := i) h.2 (by simpa using e)
  | _, [], _, _, _, e => by simp at e
  | _, _ :: _, [], _, h, _ => h.elim
end All2

/-! ### What is known beside the state -/
structure Gh where
  S : Mem
  φ : Nat → Nat
  pre : Nat → List Value
  post : Nat → List Value
  ψ : Nat → Value
  HA : Nat → Heap

def RelL (G : Gh) : Leaf → Value → Prop
  | .any, _ => True
  | .bas, _ => True
  | .und, v => v = undef
  | .dat t d, v => ∃ cs, (if t.agg = true then v = .agg cs.toArray else cs = [v]) ∧ Rep G.S false t cs d []
  | .nil, v => v = .slice none 0 0
  | .nilp, v => v = .pointer none
  | .hdl a, v => v = G.ψ a
  | .ptr o off, v => v = .pointer (some ⟨G.φ o, (G.pre o).length + off, none⟩)
  | .elt a sz i off, v => ∃ b len cap, G.ψ a = .slice (some ⟨b, 0, none⟩) len cap ∧ i < len ∧ v = .pointer (some ⟨b, i * sz + off, none⟩)
  | .she t d off, v => ∃ b arr elem fz pre cs post, G.S b = some (.cells arr elem fz) ∧ arr.toList = pre ++ (cs ++ post) ∧ Rep G.S false t cs d [] ∧
      v = .pointer (some ⟨b, pre.length + off, none⟩)
  | .fn f, v => v = .func (.func f) #[] #[]

def RelV (G : Gh) : AVal → Value → Prop
  | .one l, v => RelL G l v
  | .agg ls, v => ∃ cs : List Value, v = .agg cs.toArray ∧ All2 (RelL G) ls cs
  | .tup vs, v => ∃ us : List Value, v = .tuple us.toArray ∧ All2 (fun (p : Bool × List Leaf) u =>
      if p.1 = true then ∃ cs : List Value, u = .agg cs.toArray ∧ All2 (RelL G) p.2 cs else ∃ l, p.2 = [l] ∧ RelL G l u) vs us
  | .ifc t ls, v => ∃ u cs, v = .iface t u ∧ u.cells.toList = cs ∧ All2 (RelL G) ls cs

def LeavesRel (G : Gh) (st : St) (o : Nat) : Nat → List Leaf → List Value → Prop := fun j ls vs => All2 (RelL G) (st.resl o j ls) vs

structure Ctx where
  S0 : Mem
  own0 : Nat → Prop
  w0 : World
  pin : Nat → Option (Nat × List Value × List Value)
  pl : ∀ o p, pin o = some p → o < 10000
  bv : Nat → Nat → Option Value
  bl : ∀ o j u, bv o j = some u → o < 10000

def Owns (G : Gh) (st : St) : Bool × Nat → Nat → Prop
  | (false, o), b => (∃ ls, st.obj o = some ls) ∧ b = G.φ o
  | (true, a), b => (∃ A, st.arr a = some A ∧ A.sh = false) ∧ ∃ p ∈ G.HA a, p.1 = b

def ArrRel (G : Gh) (a : Nat) (A : Arr) : Prop :=
  if A.sh = true then ShBody G.S (RepL (Rep G.S false A.t)) [G.ψ a] A.l []
  else OwnBody (RepL (Rep G.S A.deep A.t)) A.t.size [G.ψ a] A.l (G.HA a)

structure RelM (X : Ctx) (st : St) (G : Gh) (w : World) : Prop where
  sl : ∀ a, ∃ b n c, G.ψ a = .slice b n c
  sh : ∀ b o, G.S b = some o → w.heap[b]? = some o
  ob : ∀ o ls, st.obj o = some ls → ∃ arr elem mid, w.heap[G.φ o]? = some (.cells arr elem (0, 0)) ∧ arr.toList = G.pre o ++ (mid ++ G.post o) ∧ LeavesRel G st o 0 ls mid
  ar : ∀ a A, st.arr a = some A → ArrRel G a A
  ah : ∀ a A, st.arr a = some A → A.sh = false → ∀ p ∈ G.HA a, w.heap[p.1]? = some p.2
  nd : ∀ a A, st.arr a = some A → A.sh = false → ((G.HA a).map (·.1)).Nodup
  dis : ∀ x y b, Owns G st x b → Owns G st y b → x = y
  dS : ∀ x b, Owns G st x b → G.S b = none
  inn : ∀ x b, Owns G st x b → X.own0 b ∨ X.w0.heap.size ≤ b
  s0 : ∀ b o, X.S0 b = some o → G.S b = some o
  sn : ∀ b o, G.S b = some o → X.S0 b = some o ∨ X.own0 b ∨ X.w0.heap.size ≤ b
  fr : ∀ b, b < X.w0.heap.size → ¬ X.own0 b → w.heap[b]? = X.w0.heap[b]?
  sz : X.w0.heap.size ≤ w.heap.size
  os : w.os = X.w0.os
  tp : w.tape = X.w0.tape
  out : w.output = X.w0.output
  pin : ∀ o p, X.pin o = some p → (∃ ls, st.obj o = some ls) ∧ p = (G.φ o, G.pre o, G.post o)
  bv : ∀ o j u, X.bv o j = some u → (∃ lf, lookL st.bleaves o j = some lf) ∧ (∃ ls, st.obj o = some ls ∧ ls[j]? = some .bas) ∧
    ∃ arr elem, w.heap[G.φ o]? = some (.cells arr elem (0, 0)) ∧ arr.toList[(G.pre o).length + j]? = some u

def RelR (G : Gh) (st : St) (a : Act) : Prop :=
  a.defers = [] ∧ a.tmps.size = st.n ∧ ∀ i v, st.reg i = some v → RelV G v (a.tmps.getD i undef)

/-! ### Lists by number -/
section look
variable {α : Type}
theorem nbeq_false {k i : Nat} (h : k ≠ i) : Nat.beq k i = false := by
  cases hb : Nat.beq k i with
  | false => rfl
  | true => exact absurd (Nat.eq_of_beq_eq_true hb) h
theorem look_cons (k : Nat) (v : α) (l : List (Nat × α)) (i : Nat) : look ((k, v) :: l) i = if k = i then some v else look l i := by
  simp only [look]
  by_cases h : k = i
  · subst h; simp
  · simp [nbeq_false h, h]
theorem look_del (l : List (Nat × α)) (a i : Nat) : look (del l a) i = if a = i then none else look l i := by
  induction l with
  | nil => simp [look, del]
  | cons p l ih =>
    obtain ⟨k, v⟩ := p
    by_cases h : k = a
    · subst h
      have : Nat.beq k k = true := by simp
      simp only [del, this, cond_true, ih, look_cons]
      split <;> rfl
    · have := nbeq_false h
      simp only [del, this, cond_false, look_cons, ih]
      by_cases h2 : k = i
      · subst h2; simp [Ne.symm h]
      · simp [h2]
theorem look_mem {l : List (Nat × α)} {i : Nat} {v : α} (h : look l i = some v) : (i, v) ∈ l := by
  induction l with
  | nil => simp [look] at h
  | cons p l ih =>
    obtain ⟨k, u⟩ := p
    rw [look_cons] at h
    split at h
    · rename_i e; subst e; cases h; simp
    · exact List.mem_cons_of_mem _ (ih h)
theorem lookL_mem : ∀ {l : List (Nat × Nat × Leaf)} {o j : Nat} {v : Leaf}, lookL l o j = some v → (o, j, v) ∈ l
  | [], _, _, _, h => by cases h
  | (o', j', v') :: r, o, j, v, h => by
    simp only [lookL] at h
    cases hb : (Nat.beq o' o && Nat.beq j' j) with
    | true =>
      simp only [hb, cond_true, Option.some.injEq] at h
      simp only [Bool.and_eq_true] at hb
      rw [Nat.eq_of_beq_eq_true hb.1, Nat.eq_of_beq_eq_true hb.2, h]; simp
    | false => simp only [hb, cond_false] at h; exact List.mem_cons_of_mem _ (lookL_mem h)
end look

section St
variable {st : St}
theorem reg_setReg (i : Nat) (v : AVal) (j : Nat) : (st.setReg i v).reg j = if i = j then some v else st.reg j := by
  simp only [St.reg, St.setReg, look_cons]
  by_cases h : i = j <;> simp [h]
@[simp] theorem obj_setReg (i : Nat) (v : AVal) (o : Nat) : (st.setReg i v).obj o = st.obj o := rfl
@[simp] theorem arr_setReg (i : Nat) (v : AVal) (a : Nat) : (st.setReg i v).arr a = st.arr a := rfl
@[simp] theorem res_setReg (i : Nat) (v : AVal) (o j : Nat) (l : Leaf) : (st.setReg i v).res o j l = st.res o j l := by cases l <;> rfl
theorem obj_setObj (o : Nat) (ls : List Leaf) (q : Nat) : (st.setObj o ls).obj q = if o = q then some ls else st.obj q := by
  simp only [St.obj, St.setObj, look_cons]
@[simp] theorem reg_setObj (o : Nat) (ls : List Leaf) (i : Nat) : (st.setObj o ls).reg i = st.reg i := rfl
@[simp] theorem arr_setObj (o : Nat) (ls : List Leaf) (a : Nat) : (st.setObj o ls).arr a = st.arr a := rfl
@[simp] theorem res_setObj (q : Nat) (ls : List Leaf) (o j : Nat) (l : Leaf) : (st.setObj q ls).res o j l = st.res o j l := by cases l <;> rfl
theorem arr_setArr (a : Nat) (A : Arr) (b : Nat) : (st.setArr a A).arr b = if a = b then some A else st.arr b := by
  simp only [St.arr, St.setArr, look_cons]
  by_cases h : a = b <;> simp [h]
@[simp] theorem reg_setArr (a : Nat) (A : Arr) (i : Nat) : (st.setArr a A).reg i = st.reg i := rfl
@[simp] theorem obj_setArr (a : Nat) (A : Arr) (o : Nat) : (st.setArr a A).obj o = st.obj o := rfl
@[simp] theorem res_setArr (a : Nat) (A : Arr) (o j : Nat) (l : Leaf) : (st.setArr a A).res o j l = st.res o j l := by cases l <;> rfl
end St

theorem resl_congr {st st' : St} {o : Nat} (h : ∀ j l, st'.res o j l = st.res o j l) : ∀ (j : Nat) (ls : List Leaf), st'.resl o j ls = st.resl o j ls
  | _, [] => rfl
  | j, l :: r => by simp [St.resl, h, resl_congr h (j + 1) r]
theorem resl_length (st : St) (o : Nat) : ∀ (j : Nat) (ls : List Leaf), (st.resl o j ls).length = ls.length
  | _, [] => rfl
  | j, l :: r => by simp [St.resl, resl_length st o (j + 1) r]
theorem resl_append (st : St) (o : Nat) : ∀ (j : Nat) (l m : List Leaf), st.resl o j (l ++ m) = st.resl o j l ++ st.resl o (j + l.length) m
  | _, [], m => by simp [St.resl]
  | j, x :: l, m => by
    simp only [List.cons_append, St.resl, List.length_cons]
    rw [resl_append st o (j + 1) l m, show j + 1 + l.length = j + (l.length + 1) by omega]

/-! ### Other ghosts -/
/-- The ghosts agree but for one named thing; what is shared has grown. -/
structure Gh.Le (G G' : Gh) (k : Bool) (x : Nat) : Prop where
  S : ∀ b o, G.S b = some o → G'.S b = some o
  φ : ∀ o, (k = false → o ≠ x) → G'.φ o = G.φ o
  pre : ∀ o, (k = false → o ≠ x) → G'.pre o = G.pre o
  ψ : ∀ a, (k = true → a ≠ x) → G'.ψ a = G.ψ a

theorem RelL.le {G G' : Gh} {k : Bool} {x : Nat} (h : G.Le G' k x) {l : Leaf} {v : Value} (hm : l.ment k x = false) (r : RelL G l v) : RelL G' l v := by
  cases l with
  | any => trivial
  | bas => trivial
  | und => exact r
  | dat t d => obtain ⟨cs, e, hr⟩ := r; exact ⟨cs, e, hr.mono h.S⟩
  | nil => exact r
  | nilp => exact r
  | hdl a =>
    have : G'.ψ a = G.ψ a := h.ψ a (fun hk e => by subst hk e; simp [Leaf.ment] at hm)
    simp only [RelL, this]; exact r
  | ptr o off =>
    have hne : k = false → o ≠ x := fun hk e => by subst hk e; simp [Leaf.ment] at hm
    simp only [RelL, h.φ o hne, h.pre o hne]; exact r
  | elt a sz i off =>
    have : G'.ψ a = G.ψ a := h.ψ a (fun hk e => by subst hk e; simp [Leaf.ment] at hm)
    simp only [RelL, this]; exact r
  | she t d off =>
    obtain ⟨b, arr, elem, fz, pre, cs, post, h1, h2, h3, h4⟩ := r
    exact ⟨b, arr, elem, fz, pre, cs, post, h.S _ _ h1, h2, h3.mono h.S, h4⟩
  | fn f => exact r

theorem all2_le {G G' : Gh} {k : Bool} {x : Nat} (h : G.Le G' k x) {ls : List Leaf} {vs : List Value} (hm : ls.any (Leaf.ment k x) = false) (r : All2 (RelL G) ls vs) : All2 (RelL G') ls vs :=
  r.impMem fun l v hl hr => hr.le h (by
    have := List.any_eq_false.1 hm l hl
    simpa using this)

theorem RelV.le {G G' : Gh} {k : Bool} {x : Nat} (h : G.Le G' k x) {a : AVal} {v : Value} (hm : a.ment k x = false) (r : RelV G a v) : RelV G' a v := by
  cases a with
  | one l => exact RelL.le h hm r
  | agg ls => obtain ⟨cs, e, hr⟩ := r; exact ⟨cs, e, all2_le h hm hr⟩
  | tup vs =>
    obtain ⟨us, e, hr⟩ := r
    refine ⟨us, e, hr.impMem fun p u hp hpu => ?_⟩
    have hm' : p.2.any (Leaf.ment k x) = false := by
      have := List.any_eq_false.1 hm p hp
      simpa using this
    split at hpu
    · rename_i hc; simp only [hc, if_true]; obtain ⟨cs, e, hr⟩ := hpu; exact ⟨cs, e, all2_le h hm' hr⟩
    · rename_i hc
      obtain ⟨l, e, hr⟩ := hpu
      simp only [Bool.not_eq_true] at hc
      simp only [hc, Bool.false_eq_true, if_false]
      exact ⟨l, e, hr.le h (by rw [e] at hm'; simpa using hm')⟩
  | ifc t ls => obtain ⟨u, cs, e1, e2, hr⟩ := r; exact ⟨u, cs, e1, e2, all2_le h hm hr⟩

end Go.Fx
