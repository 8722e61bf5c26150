/- The framework, ninth text: the operations that make memory. -/
import Derived.Test.YtafpgfdjfnoagaaFx8
namespace Go.Fx
set_option linter.unusedVariables false
set_option linter.unusedSimpArgs false

theorem lt_of_heap {w : World} {b : Nat} {o : Obj} (h : w.heap[b]? = some o) : b < w.heap.size := (Array.getElem?_eq_some_iff.1 h).1

theorem Owns.lt {X : Ctx} {st : St} {G : Gh} {w : World} (hm : RelM X st G w) {x : Bool × Nat} {b : Nat} (h : Owns G st x b) : b < w.heap.size := by
  obtain ⟨k, n⟩ := x
  cases k with
  | false =>
    obtain ⟨⟨ls, hl⟩, rfl⟩ := h
    obtain ⟨arr, elem, mid, h1, _⟩ := hm.ob n ls hl
    exact lt_of_heap h1
  | true =>
    obtain ⟨⟨A, hA, hs⟩, p, hp, rfl⟩ := h
    exact lt_of_heap (hm.ah n A hA hs p hp)

theorem alloc_old (w : World) (o : Obj) {k : Nat} (h : k < w.heap.size) : (w.alloc o).heap[k]? = w.heap[k]? := Below.RowKit_heap w o k h
where
  Below.RowKit_heap (w : World) (o : Obj) (k : Nat) (h : k < w.heap.size) : (w.alloc o).heap[k]? = w.heap[k]? := by
    show (w.heap.push o)[k]? = _
    rw [Array.getElem?_push, if_neg (by omega)]
theorem alloc_new (w : World) (o : Obj) : (w.alloc o).heap[w.heap.size]? = some o := by
  show (w.heap.push o)[w.heap.size]? = _
  rw [Array.getElem?_push, if_pos rfl]
theorem alloc_size (w : World) (o : Obj) : (w.alloc o).heap.size = w.heap.size + 1 := by
  show (w.heap.push o).size = _
  simp

theorem RelM.drew {X : Ctx} {st : St} {G : Gh} {w : World} (hm : RelM X st G w) : RelM X st G w.drew :=
  { sl := hm.sl, sh := hm.sh, ob := hm.ob, ar := hm.ar, ah := hm.ah, nd := hm.nd, dis := hm.dis, dS := hm.dS, inn := hm.inn, s0 := hm.s0, sn := hm.sn, fr := hm.fr, sz := hm.sz, os := hm.os, tp := hm.tp, out := hm.out, pin := hm.pin, bv := hm.bv }

theorem ment_reg {st : St} {k : Bool} {x : Nat} (h : st.ment k x = false) {i : Nat} {v : AVal} (hv : st.reg i = some v) : v.ment k x = false := by
  simp only [St.ment, Bool.or_eq_false_iff] at h
  obtain ⟨⟨⟨h1, h2⟩, h3⟩, h4⟩ := h
  unfold St.reg at hv
  cases hr : look st.regs i with
  | some u =>
    rw [hr] at hv; cases hv
    have := List.any_eq_false.1 h1 _ (look_mem hr); simpa using this
  | none =>
    rw [hr] at hv
    have := List.any_eq_false.1 h2 _ (look_mem hv); simpa using this

theorem ment_obj {st : St} {k : Bool} {x : Nat} (h : st.ment k x = false) {o : Nat} {ls : List Leaf} (ho : st.obj o = some ls) : ∀ j, (st.resl o j ls).any (Leaf.ment k x) = false := by
  simp only [St.ment, Bool.or_eq_false_iff] at h
  obtain ⟨⟨⟨h1, h2⟩, h3⟩, h4⟩ := h
  have hl : ls.any (Leaf.ment k x) = false := by
    have := List.any_eq_false.1 h3 _ (look_mem ho); simpa using this
  have hres : ∀ j l, l.ment k x = false → (st.res o j l).ment k x = false := fun j l hl => by
    cases l with
    | bas =>
      simp only [St.res]
      cases hb : lookL st.bleaves o j with
      | none => rfl
      | some l' =>
        have h5 := List.any_eq_false.1 h4 _ (lookL_mem hb)
        simpa using h5
    | _ => exact hl
  have key : ∀ (ls : List Leaf), ls.any (Leaf.ment k x) = false → ∀ j, (st.resl o j ls).any (Leaf.ment k x) = false := by
    intro ls
    induction ls with
    | nil => intro _ _; rfl
    | cons l ls ih =>
      intro h j
      simp only [List.any_cons, Bool.or_eq_false_iff] at h
      simp only [St.resl, List.any_cons, Bool.or_eq_false_iff]
      exact ⟨hres j l h.1, ih h.2 (j + 1)⟩
  exact key ls hl

theorem RelR.le {G G' : Gh} {k : Bool} {x : Nat} (h : G.Le G' k x) {st st' : St} (hn : st'.n = st.n) (hreg : ∀ i, st'.reg i = st.reg i) (hment : st.ment k x = false) {a : Act} (r : RelR G st a) : RelR G' st' a :=
  ⟨r.1, r.2.1.trans hn.symm, fun i v hv => by
    rw [hreg i] at hv
    exact (r.2.2 i v hv).le h (ment_reg hment hv)⟩

theorem resl_nobas (st : St) (o : Nat) : ∀ (j : Nat) (ls : List Leaf), ls.any Leaf.isBas = false → st.resl o j ls = ls
  | _, [], _ => rfl
  | j, l :: r, h => by
    simp only [List.any_cons, Bool.or_eq_false_iff] at h
    simp only [St.resl, resl_nobas st o (j + 1) r h.2]
    cases l <;> simp_all [St.res, Leaf.isBas]

/-- A new object. -/
theorem RelM.newObj {X : Ctx} {st : St} {G : Gh} {w : World} (hm : RelM X st G w) {o : Nat} {ls : List Leaf} {arr : Array Value} {elem : TypeId} (ho : st.obj o = none) (hment : st.ment false o = false)
    (hb : ls.any Leaf.isBas = false) (hlm : ls.any (Leaf.ment false o) = false) (hls : All2 (RelL G) ls arr.toList) :
    ∃ G', RelM X (st.setObj o ls) G' (w.alloc (.cells arr elem (0, 0))) ∧ G.Le G' false o ∧ RelV G' (.one (.ptr o 0)) (.pointer (some ⟨w.heap.size, 0, none⟩)) := by
  let G' : Gh := { G with φ := fun q => if q = o then w.heap.size else G.φ q, pre := fun q => if q = o then [] else G.pre q, post := fun q => if q = o then [] else G.post q }
  have hle : G.Le G' false o := ⟨fun _ _ h => h, fun q h => by simp [G', h rfl], fun q h => by simp [G', h rfl], fun _ _ => rfl⟩
  have hOwn : ∀ x b, Owns G' (st.setObj o ls) x b → (x = (false, o) ∧ b = w.heap.size) ∨ (Owns G st x b ∧ x ≠ (false, o)) := fun x b hx => by
    obtain ⟨k, n⟩ := x
    cases k with
    | true => exact .inr ⟨hx, by simp⟩
    | false =>
      obtain ⟨⟨l, hl⟩, rfl⟩ := hx
      rw [obj_setObj] at hl
      by_cases e : o = n
      · subst e; exact .inl ⟨rfl, by simp [G']⟩
      · simp only [e, if_false] at hl
        have hne : n ≠ o := fun h => e h.symm
        exact .inr ⟨⟨⟨l, hl⟩, by simp [G', hne]⟩, by simpa using hne⟩
  have hne' : ∀ x b, Owns G st x b → b ≠ w.heap.size := fun x b h e => by have := Owns.lt hm h; omega
  refine ⟨G', ?_, hle, by simp [RelV, RelL, G']⟩
  refine { sl := hm.sl, sh := ?_, ob := ?_, ar := ?_, ah := ?_, nd := ?_, dis := ?_, dS := ?_, inn := ?_, s0 := hm.s0, sn := hm.sn, fr := ?_, sz := ?_, os := hm.os, tp := hm.tp, out := hm.out, pin := fun q p h => (by obtain ⟨⟨l, h1⟩, h2⟩ := hm.pin q p h; have hne : q ≠ o := (fun e => absurd ho (by rw [← e, h1]; simp)); exact ⟨⟨l, by rw [obj_setObj, if_neg (Ne.symm hne)]; exact h1⟩, by simp [G', hne, h2]⟩), bv := fun q j u h => (by obtain ⟨h1, ⟨l, h2, h3⟩, arr0, elem0, h4, h5⟩ := hm.bv q j u h; have hne : q ≠ o := (fun e => absurd ho (by rw [← e, h2]; simp)); exact ⟨h1, ⟨l, by rw [obj_setObj, if_neg (Ne.symm hne)]; exact h2, h3⟩, arr0, elem0, by simp only [G', hne, if_false]; rw [alloc_old w _ (lt_of_heap h4)]; exact h4, by simp only [G', hne, if_false]; exact h5⟩) }
  · intro b ob hb
    rw [alloc_old w _ (lt_of_heap (hm.sh b ob hb))]; exact hm.sh b ob hb
  · intro q l hq
    rw [obj_setObj] at hq
    by_cases e : o = q
    · subst e
      simp only [if_true, Option.some.injEq] at hq
      subst hq
      refine ⟨arr, elem, arr.toList, by simp only [G', if_true]; exact alloc_new w _, by simp [G'], ?_⟩
      unfold LeavesRel
      rw [resl_nobas _ _ _ _ hb]
      exact all2_le hle hlm hls
    · simp only [e, if_false] at hq
      obtain ⟨arr', elem', mid, g1, g2, g3⟩ := hm.ob q l hq
      have hqo : q ≠ o := fun h => e h.symm
      refine ⟨arr', elem', mid, by simp only [G', hqo, if_false]; rw [alloc_old w _ (lt_of_heap g1)]; exact g1, by simp only [G', hqo, if_false]; exact g2, ?_⟩
      unfold LeavesRel at g3 ⊢
      rw [resl_congr (st := st) (fun j l => by simp)]
      exact all2_le hle (ment_obj hment hq 0) g3
  · intro a A hA
    exact hm.ar a A hA
  · intro a A hA hs p hp
    have := hm.ah a A hA hs p hp
    rw [alloc_old w _ (lt_of_heap this)]; exact this
  · exact hm.nd
  · intro x y b hx hy
    rcases hOwn x b hx with ⟨rfl, rfl⟩ | ⟨h1, h2⟩ <;> rcases hOwn y _ hy with ⟨rfl, h⟩ | ⟨h3, h4⟩
    · rfl
    · exact absurd rfl (hne' y _ h3)
    · exact absurd h (hne' x _ h1)
    · exact hm.dis x y b h1 h3
  · intro x b hx
    rcases hOwn x b hx with ⟨rfl, rfl⟩ | ⟨h1, h2⟩
    · cases hS : G.S w.heap.size with
      | none => rfl
      | some ob => have := lt_of_heap (hm.sh _ _ hS); omega
    · exact hm.dS x b h1
  · intro x b hx
    rcases hOwn x b hx with ⟨rfl, rfl⟩ | ⟨h1, h2⟩
    · exact .inr hm.sz
    · exact hm.inn x b h1
  · intro b hb hn
    have := hm.fr b hb hn
    rw [alloc_old w _ (by have := hm.sz; omega)]; exact this
  · rw [alloc_size]; have := hm.sz; omega

/-- A new array. -/
theorem RelM.newArr {X : Ctx} {st : St} {G : Gh} {w : World} (hm : RelM X st G w) {a : Nat} {t : Ty} {l : List t.den} {arr : Array Value} {elem : TypeId} {cells rest : List Value} {cap : Nat} (ha : st.arr a = none) (hment : st.ment true a = false)
    (harr : arr.toList = cells ++ rest) (hcap : cap * t.size ≤ arr.size) (hlen : l.length ≤ cap) (hl : RepL (Rep G.S false t) cells l []) :
    ∃ G', RelM X (st.setArr a ⟨t, false, false, l⟩) G' (w.alloc (.cells arr elem (0, 0))) ∧ G.Le G' true a ∧ RelV G' (.one (.hdl a)) (.slice (some ⟨w.heap.size, 0, none⟩) l.length cap) := by
  let G' : Gh := { G with ψ := fun q => if q = a then .slice (some ⟨w.heap.size, 0, none⟩) l.length cap else G.ψ q, HA := fun q => if q = a then [(w.heap.size, .cells arr elem (0, 0))] else G.HA q }
  have hle : G.Le G' true a := ⟨fun _ _ h => h, fun _ _ => rfl, fun _ _ => rfl, fun q h => by simp [G', h rfl]⟩
  have hne' : ∀ x b, Owns G st x b → b ≠ w.heap.size := fun x b h e => by have := Owns.lt hm h; omega
  have hOwn : ∀ x b, Owns G' (st.setArr a ⟨t, false, false, l⟩) x b → (x = (true, a) ∧ b = w.heap.size) ∨ (Owns G st x b ∧ x ≠ (true, a)) := fun x b hx => by
    obtain ⟨k, n⟩ := x
    cases k with
    | false => exact .inr ⟨hx, by simp⟩
    | true =>
      obtain ⟨⟨A, hA, hs⟩, p, hp, rfl⟩ := hx
      rw [arr_setArr] at hA
      by_cases e : a = n
      · subst e
        simp only [G', if_true, List.mem_singleton] at hp
        exact .inl ⟨rfl, by rw [hp]⟩
      · simp only [e, if_false] at hA
        have hne : n ≠ a := fun h => e h.symm
        simp only [G', hne, if_false] at hp
        exact .inr ⟨⟨⟨A, hA, hs⟩, p, hp, rfl⟩, by simpa using hne⟩
  refine ⟨G', ?_, hle, by simp [RelV, RelL, G']⟩
  refine { sl := ?_, sh := ?_, ob := ?_, ar := ?_, ah := ?_, nd := ?_, dis := ?_, dS := ?_, inn := ?_, s0 := hm.s0, sn := hm.sn, fr := ?_, sz := ?_, os := hm.os, tp := hm.tp, out := hm.out, pin := hm.pin, bv := fun q j u h => (by obtain ⟨h1, h2, arr0, elem0, h4, h5⟩ := hm.bv q j u h; exact ⟨h1, h2, arr0, elem0, by rw [alloc_old w _ (lt_of_heap h4)]; exact h4, h5⟩) }
  · intro q
    by_cases e : q = a
    · exact ⟨some ⟨w.heap.size, 0, none⟩, l.length, cap, by simp [G', e]⟩
    · obtain ⟨b, n, c, h⟩ := hm.sl q; exact ⟨b, n, c, by simp [G', e, h]⟩
  · intro b ob hb
    rw [alloc_old w _ (lt_of_heap (hm.sh b ob hb))]; exact hm.sh b ob hb
  · intro q ls hq
    obtain ⟨arr', elem', mid, g1, g2, g3⟩ := hm.ob q ls hq
    refine ⟨arr', elem', mid, by rw [alloc_old w _ (lt_of_heap g1)]; exact g1, g2, ?_⟩
    unfold LeavesRel at g3 ⊢
    rw [resl_congr (st := st) (fun j l => by simp)]
    exact all2_le hle (ment_obj hment hq 0) g3
  · intro b B hB
    rw [arr_setArr] at hB
    by_cases e : a = b
    · subst e
      simp only [if_true, Option.some.injEq] at hB
      subst hB
      simp only [ArrRel, Bool.false_eq_true, if_false]
      exact .inr ⟨w.heap.size, cap, arr, elem, cells, rest, [], by simp [G'], by simp [G'], harr, hcap, hlen, hl⟩
    · simp only [e, if_false] at hB
      have hne : b ≠ a := fun h => e h.symm
      have := hm.ar b B hB
      simpa only [ArrRel, G', hne, if_false] using this
  · intro b B hB hs p hp
    rw [arr_setArr] at hB
    by_cases e : a = b
    · subst e
      simp only [G', if_true, List.mem_singleton] at hp
      rw [hp]; exact alloc_new w _
    · simp only [e, if_false] at hB
      have hne : b ≠ a := fun h => e h.symm
      simp only [G', hne, if_false] at hp
      have := hm.ah b B hB hs p hp
      rw [alloc_old w _ (lt_of_heap this)]; exact this
  · intro b B hB hs
    rw [arr_setArr] at hB
    by_cases e : a = b
    · subst e; simp [G']
    · simp only [e, if_false] at hB
      have hne : b ≠ a := fun h => e h.symm
      simp only [G', hne, if_false]
      exact hm.nd b B hB hs
  · intro x y b hx hy
    rcases hOwn x b hx with ⟨rfl, rfl⟩ | ⟨h1, h2⟩ <;> rcases hOwn y _ hy with ⟨rfl, h⟩ | ⟨h3, h4⟩
    · rfl
    · exact absurd rfl (hne' y _ h3)
    · exact absurd h (hne' x _ h1)
    · exact hm.dis x y b h1 h3
  · intro x b hx
    rcases hOwn x b hx with ⟨rfl, rfl⟩ | ⟨h1, h2⟩
    · cases hS : G.S w.heap.size with
      | none => rfl
      | some ob => have := lt_of_heap (hm.sh _ _ hS); omega
    · exact hm.dS x b h1
  · intro x b hx
    rcases hOwn x b hx with ⟨rfl, rfl⟩ | ⟨h1, h2⟩
    · exact .inr hm.sz
    · exact hm.inn x b h1
  · intro b hb hn
    have := hm.fr b hb hn
    rw [alloc_old w _ (by have := hm.sz; omega)]; exact this
  · rw [alloc_size]; have := hm.sz; omega

/-- An array is dropped: its memory is nobody's. -/
theorem RelM.dropArr {X : Ctx} {st : St} {G : Gh} {w : World} (hm : RelM X st G w) (a : Nat) (hb : look st.barrs a = none) : RelM X { st with arrs := del st.arrs a } G w := by
  have harr : ∀ q, ({ st with arrs := del st.arrs a } : St).arr q = if a = q then none else st.arr q := fun q => by
    simp only [St.arr, look_del]
    by_cases e : a = q
    · subst e; simp [hb]
    · simp [e]
  have hOwn : ∀ x b, Owns G { st with arrs := del st.arrs a } x b → Owns G st x b := fun x b hx => by
    obtain ⟨k, n⟩ := x
    cases k with
    | false => exact hx
    | true =>
      obtain ⟨⟨A, hA, hs⟩, hp⟩ := hx
      rw [harr] at hA
      by_cases e : a = n
      · simp [e] at hA
      · simp only [e, if_false] at hA; exact ⟨⟨A, hA, hs⟩, hp⟩
  refine { sl := hm.sl, sh := hm.sh, ob := ?_, ar := ?_, ah := ?_, nd := ?_, dis := fun x y b hx hy => hm.dis x y b (hOwn x b hx) (hOwn y b hy), dS := fun x b hx => hm.dS x b (hOwn x b hx), inn := fun x b hx => hm.inn x b (hOwn x b hx), s0 := hm.s0, sn := hm.sn, fr := hm.fr, sz := hm.sz, os := hm.os, tp := hm.tp, out := hm.out, pin := hm.pin, bv := hm.bv }
  · intro o ls ho
    obtain ⟨arr, elem, mid, h1, h2, h3⟩ := hm.ob o ls ho
    refine ⟨arr, elem, mid, h1, h2, ?_⟩
    unfold LeavesRel at h3 ⊢
    rw [resl_congr (st := st) (fun j l => by cases l <;> rfl)]
    exact h3
  · intro b B hB
    rw [harr] at hB
    by_cases e : a = b
    · simp [e] at hB
    · simp only [e, if_false] at hB; exact hm.ar b B hB
  · intro b B hB
    rw [harr] at hB
    by_cases e : a = b
    · simp [e] at hB
    · simp only [e, if_false] at hB; exact hm.ah b B hB
  · intro b B hB
    rw [harr] at hB
    by_cases e : a = b
    · simp [e] at hB
    · simp only [e, if_false] at hB; exact hm.nd b B hB

end Go.Fx
