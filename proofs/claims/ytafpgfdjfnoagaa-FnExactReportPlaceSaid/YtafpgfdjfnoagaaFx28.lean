/- The framework, twenty-eighth text: the caller's state behind a call. -/
import Derived.Test.YtafpgfdjfnoagaaFx27
namespace Go.Fx
set_option linter.unusedVariables false
set_option linter.unusedSimpArgs false

def Gh.back (G G3 : Gh) (told keep : Nat → Option Nat) : Gh := { G with
  S := G3.S
  ψ := fun a => match told a with | some k => G3.ψ k | none => G.ψ a
  HA := fun a => match told a with | some k => G3.HA k | none => match keep a with | some k => G3.HA k | none => G.HA a }

/-- Caller's state st, callee's entry t (arrays named by al), callee's end s, caller's state behind the call st'. -/
structure Merge (st t s st' : St) (al : AL) (told keep : Nat → Option Nat) : Prop where
  n : st'.n = st.n
  reg : ∀ i, st'.reg i = st.reg i
  bl : st'.bleaves = st.bleaves
  tobj : ∀ q tl, t.obj q = some tl → q < 10000 ∧ (∃ ls, st.obj q = some ls) ∧ ∃ sl, s.obj q = some sl
  obj : ∀ q ls', st'.obj q = some ls' → (t.obj q = none ∧ st.obj q = some ls') ∨
    (∃ ls tl sl, st.obj q = some ls ∧ t.obj q = some tl ∧ s.obj q = some sl ∧ tl.length = ls.length ∧ sl.length = ls.length ∧ ls'.length = ls.length ∧ ∀ (j : Nat) (l' l a : Leaf), ls'[j]? = some l' → ls[j]? = some l → sl[j]? = some a →
      (st'.res q j l' = st.res q j l ∧ tl[j]? = some .bas ∧ ∃ lf, lookL t.bleaves q j = some lf) ∨ ∀ (G G3 : Gh) (u : Value), RelL G3 (s.res q j a) u → RelL (G.back G3 told keep) (st'.res q j l') u)
  keepObj : ∀ q ls, st.obj q = some ls → ∃ ls', st'.obj q = some ls'
  bas : ∀ q j ls lf, st.obj q = some ls → ls[j]? = some .bas → lookL st.bleaves q j = some lf → ∃ ls', st'.obj q = some ls' ∧ ls'[j]? = some .bas ∧ (t.obj q = none ∨ ∃ tl lf', t.obj q = some tl ∧ tl[j]? = some .bas ∧ lookL t.bleaves q j = some lf')
  arr : ∀ a A, st'.arr a = some A → (∃ k, told a = some k ∧ s.arr k = some A ∧ A.sh = false) ∨
    (∃ k, told a = none ∧ keep a = some k ∧ st.arr a = some A ∧ s.arr k = some A ∧ A.sh = false) ∨
    (told a = none ∧ keep a = none ∧ st.arr a = some A ∧ (A.sh = true ∨ ∀ nm B, look al nm ≠ some (some a, B)))
  ti : ∀ a a' k, told a = some k → told a' = some k → a = a'
  ki : ∀ a a' k, keep a = some k → keep a' = some k → a = a'
  tk : ∀ a a' k, told a = some k → keep a' ≠ some k
  fresh : ∀ a k, told a = some k → st.ment true a = false

theorem resl_get (st : St) (o : Nat) : ∀ (ls : List Leaf) (i j : Nat), (st.resl o i ls)[j]? = (ls[j]?).map (st.res o (i + j))
  | [], i, j => by simp [St.resl]
  | l :: r, i, 0 => by simp [St.resl]
  | l :: r, i, j + 1 => by
    simp only [St.resl, List.getElem?_cons_succ]
    rw [resl_get st o r (i + 1) j, show i + 1 + j = i + (j + 1) by omega]
theorem All2.of_get {α β : Type} {R : α → β → Prop} : ∀ {xs : List α} {ys : List β}, xs.length = ys.length → (∀ (j : Nat) (x : α) (y : β), xs[j]? = some x → ys[j]? = some y → R x y) → All2 R xs ys
  | [], [], _, _ => trivial
  | x :: xs, y :: ys, h, f => ⟨f 0 x y rfl rfl, All2.of_get (by simpa using h) (fun j x y hx hy => f (j + 1) x y (by simpa using hx) (by simpa using hy))⟩
  | [], _ :: _, h, _ => by simp at h
  | _ :: _, [], h, _ => by simp at h
theorem mid_get {arr : Array Value} {pre mid post : List Value} (h : arr.toList = pre ++ (mid ++ post)) {j : Nat} (hj : j < mid.length) : arr.toList[pre.length + j]? = mid[j]? := by
  rw [h, List.getElem?_append_right (by omega), Nat.add_sub_cancel_left, List.getElem?_append_left hj]

section
variable {st t s st' : St} {al : AL} {told keep : Nat → Option Nat} {X : Ctx} {G G3 : Gh} {w w' : World}

theorem Merge.le (hM : Merge st t s st' al told keep) (hS : ∀ b o, G.S b = some o → G3.S b = some o) {l : Leaf} {v : Value} (hm : ∀ a k, told a = some k → l.ment true a = false) (r : RelL G l v) : RelL (G.back G3 told keep) l v := by
  cases l with
  | any => trivial
  | bas => trivial
  | und => exact r
  | dat t d => obtain ⟨cs, e, hr⟩ := r; exact ⟨cs, e, hr.mono hS⟩
  | nil => exact r
  | nilp => exact r
  | hdl a =>
    show v = (G.back G3 told keep).ψ a
    have : told a = none := by
      cases h : told a with
      | none => rfl
      | some k => have := hm a k h; simp [Leaf.ment] at this
    simp only [Gh.back, this]; exact r
  | ptr o off => exact r
  | elt a sz i off =>
    have : told a = none := by
      cases h : told a with
      | none => rfl
      | some k => have := hm a k h; simp [Leaf.ment] at this
    simp only [RelL, Gh.back, this]; exact r
  | she t d off =>
    obtain ⟨b, arr, elem, fz, pre, cs, post, h1, h2, h3, h4⟩ := r
    exact ⟨b, arr, elem, fz, pre, cs, post, hS _ _ h1, h2, h3.mono hS, h4⟩
  | fn f => exact r

theorem Merge.leV (hM : Merge st t s st' al told keep) (hS : ∀ b o, G.S b = some o → G3.S b = some o) {x : AVal} {v : Value} (hm : ∀ a k, told a = some k → x.ment true a = false) (r : RelV G x v) : RelV (G.back G3 told keep) x v := by
  have hall : ∀ {ls : List Leaf} {vs : List Value}, (∀ a k, told a = some k → ls.any (Leaf.ment true a) = false) → All2 (RelL G) ls vs → All2 (RelL (G.back G3 told keep)) ls vs := fun {ls vs} h hr =>
    hr.impMem fun l v hl hlv => hM.le hS (fun a k hk => by have := List.any_eq_false.1 (h a k hk) l hl; simpa using this) hlv
  cases x with
  | one l => exact hM.le hS hm r
  | agg ls => obtain ⟨cs, e, hr⟩ := r; exact ⟨cs, e, hall hm hr⟩
  | tup vs =>
    obtain ⟨us, e, hr⟩ := r
    refine ⟨us, e, hr.impMem fun p u hp hpu => ?_⟩
    have hm' : ∀ a k, told a = some k → p.2.any (Leaf.ment true a) = false := fun a k hk => by
      have := List.any_eq_false.1 (hm a k hk) p hp; simpa using this
    split at hpu
    · rename_i hc; simp only [hc, if_true]; obtain ⟨cs, e, hr⟩ := hpu; exact ⟨cs, e, hall hm' hr⟩
    · rename_i hc
      obtain ⟨l, e, hr⟩ := hpu
      simp only [Bool.not_eq_true] at hc
      simp only [hc, Bool.false_eq_true, if_false]
      exact ⟨l, e, hM.le hS (fun a k hk => by have := hm' a k hk; rw [e] at this; simpa using this) hr⟩
  | ifc t ls => obtain ⟨u, cs, e1, e2, hr⟩ := r; exact ⟨u, cs, e1, e2, hall hm hr⟩

theorem Merge.regs (hM : Merge st t s st' al told keep) (hS : ∀ b o, G.S b = some o → G3.S b = some o) {act : Act} (hr : RelR G st act) : RelR (G.back G3 told keep) st' act :=
  ⟨hr.1, hr.2.1.trans hM.n.symm, fun i v hv => by
    rw [hM.reg] at hv
    exact hM.leV hS (fun a k hk => ment_reg (hM.fresh a k hk) hv) (hr.2.2 i v hv)⟩

theorem Merge.ok (hM : Merge st t s st' al told keep) (hm : RelM X st G w) (hown : ∀ x b, Owns (G.ren al) t x b → ∃ x', Owns G st x' b ∧ ((∃ o, x = (false, o) ∧ x' = (false, o)) ∨ ∃ nm a A, x = (true, nm) ∧ x' = (true, a) ∧ look al nm = some (some a, A)))
    (hmt : RelM X t (G.ren al) w) (h3 : RelM (inCtx t (G.ren al) w) s G3 w') (hkeep : ∀ a k, keep a = some k → told a = none → G3.ψ k = G.ψ a) : RelM X st' (G.back G3 told keep) w' := by
  have hS : ∀ b o, G.S b = some o → G3.S b = some o := h3.s0
  have hφ : ∀ q tl, t.obj q = some tl → G3.φ q = G.φ q ∧ G3.pre q = G.pre q ∧ G3.post q = G.post q := fun q tl hq => by
    obtain ⟨hlt, _, _⟩ := hM.tobj q tl hq
    have := (h3.pin q _ (inCtx_pin hlt hq)).2
    simp only [Prod.mk.injEq] at this
    exact ⟨this.1.symm, this.2.1.symm, this.2.2.symm⟩
  -- what is owned behind the call
  have cls : ∀ x b, Owns (G.back G3 told keep) st' x b → (Owns G st x b ∧ ∀ y, ¬ Owns (G.ren al) t y b) ∨
      ∃ x3, Owns G3 s x3 b ∧ ((∃ q, x = (false, q) ∧ x3 = (false, q)) ∨ (∃ a k, x = (true, a) ∧ x3 = (true, k) ∧ told a = some k) ∨ ∃ a k, x = (true, a) ∧ x3 = (true, k) ∧ keep a = some k) := fun x b hx => by
    obtain ⟨kk, n⟩ := x
    cases kk with
    | false =>
      obtain ⟨⟨ls', hl⟩, rfl⟩ := hx
      rcases hM.obj n ls' hl with ⟨h1, h2⟩ | ⟨ls, tl, sl, h1, h2, h4, _⟩
      · refine .inl ⟨⟨⟨ls', h2⟩, rfl⟩, fun y hy => ?_⟩
        obtain ⟨y', hy', c⟩ := hown y _ hy
        have e := hm.dis (false, n) y' _ ⟨⟨ls', h2⟩, rfl⟩ hy'
        rcases c with ⟨o, rfl, rfl⟩ | ⟨nm, a, A, rfl, rfl, _⟩
        · simp only [Prod.mk.injEq, true_and] at e
          subst e
          obtain ⟨⟨tl, ht⟩, _⟩ := hy
          rw [h1] at ht; cases ht
        · simp at e
      · exact .inr ⟨(false, n), ⟨⟨sl, h4⟩, (hφ n tl h2).1.symm⟩, .inl ⟨n, rfl, rfl⟩⟩
    | true =>
      obtain ⟨⟨A, hA, hs⟩, p, hp, rfl⟩ := hx
      rcases hM.arr n A hA with ⟨k, h1, h2, h4⟩ | ⟨k, h0, h1, h2, h4, h5⟩ | ⟨h0, h1, h2, h4⟩
      · simp only [Gh.back, h1] at hp
        exact .inr ⟨(true, k), ⟨⟨A, h2, hs⟩, p, hp, rfl⟩, .inr (.inl ⟨n, k, rfl, rfl, h1⟩)⟩
      · simp only [Gh.back, h0, h1] at hp
        exact .inr ⟨(true, k), ⟨⟨A, h4, hs⟩, p, hp, rfl⟩, .inr (.inr ⟨n, k, rfl, rfl, h1⟩)⟩
      · simp only [Gh.back, h0, h1] at hp
        have ho : Owns G st (true, n) p.1 := ⟨⟨A, h2, hs⟩, p, hp, rfl⟩
        refine .inl ⟨ho, fun y hy => ?_⟩
        obtain ⟨y', hy', c⟩ := hown y _ hy
        have e := hm.dis (true, n) y' _ ho hy'
        rcases c with ⟨o, rfl, rfl⟩ | ⟨nm, a, B, rfl, rfl, hl⟩
        · simp at e
        · simp only [Prod.mk.injEq, true_and] at e
          subst e
          rcases h4 with h4 | h4
          · rw [hs] at h4; cases h4
          · exact h4 nm B hl
  have hfr : ∀ b, b < w.heap.size → (∀ y, ¬ Owns (G.ren al) t y b) → w'.heap[b]? = w.heap[b]? := fun b hb hn => h3.fr b hb (fun ⟨y, hy⟩ => hn y hy)
  have hin : ∀ x3 b, Owns G3 s x3 b → (∃ x', Owns G st x' b) ∨ w.heap.size ≤ b := fun x3 b hx => by
    rcases h3.inn x3 b hx with ⟨y, hy⟩ | h
    · obtain ⟨y', hy', _⟩ := hown y b hy; exact .inl ⟨y', hy'⟩
    · exact .inr h
  refine { sl := fun a => ?_, sh := h3.sh, ob := fun q ls' hq => ?_, ar := fun a A hA => ?_, ah := fun a A hA hs p hp => ?_, nd := fun a A hA hs => ?_, dis := fun x y b hx hy => ?_, dS := fun x b hx => ?_, inn := fun x b hx => ?_, s0 := fun b o h => hS b o (hm.s0 b o h), sn := fun b o h => ?_, fr := fun b hb hn => ?_, sz := Nat.le_trans hm.sz h3.sz, os := h3.os.trans hm.os, tp := h3.tp.trans hm.tp, out := h3.out.trans hm.out, pin := fun q p hp => ?_, bv := fun q j u hu => ?_ }
  · show ∃ b n c, (match told a with | some k => G3.ψ k | none => G.ψ a) = .slice b n c
    split
    · exact h3.sl _
    · exact hm.sl _
  · rcases hM.obj q ls' hq with ⟨h1, h2⟩ | ⟨ls, tl, sl, h1, h2, h4, e1, e2, e3, hj⟩
    · obtain ⟨arr, elem, mid, g1, g2, g3⟩ := hm.ob q ls' h2
      have hlt := Owns.lt hm (x := (false, q)) ⟨⟨ls', h2⟩, rfl⟩
      have hno : ∀ y, ¬ Owns (G.ren al) t y (G.φ q) := fun y hy => by
        rcases cls (false, q) (G.φ q) ⟨⟨ls', hq⟩, rfl⟩ with ⟨_, h⟩ | ⟨x3, hx3, c⟩
        · exact h y hy
        · obtain ⟨y', hy', c'⟩ := hown y _ hy
          have e := hm.dis (false, q) y' _ ⟨⟨ls', h2⟩, rfl⟩ hy'
          rcases c' with ⟨o, rfl, rfl⟩ | ⟨nm, a, A, rfl, rfl, _⟩
          · simp only [Prod.mk.injEq, true_and] at e
            subst e
            obtain ⟨⟨tl, ht⟩, _⟩ := hy
            rw [h1] at ht; cases ht
          · simp at e
      refine ⟨arr, elem, mid, by rw [show (G.back G3 told keep).φ q = G.φ q from rfl, hfr _ hlt hno]; exact g1, g2, ?_⟩
      unfold LeavesRel at g3 ⊢
      rw [resl_congr (st := st) (fun j l => by cases l <;> simp [St.res, hM.bl])]
      refine g3.impMem fun l v hl hlv => hM.le hS (fun a k hk => ?_) hlv
      have := List.any_eq_false.1 (ment_obj (hM.fresh a k hk) h2 0) l hl
      simpa using this
    · obtain ⟨arr, elem, mid, g1, g2, g3⟩ := h3.ob q sl h4
      obtain ⟨f1, f2, f3⟩ := hφ q tl h2
      obtain ⟨hlt, _, _⟩ := hM.tobj q tl h2
      have hml : mid.length = sl.length := by have := All2.length g3; rw [resl_length] at this; exact this.symm
      refine ⟨arr, elem, mid, by rw [show (G.back G3 told keep).φ q = G.φ q from rfl, ← f1]; exact g1, by rw [f2, f3] at g2; exact g2, ?_⟩
      refine All2.of_get (by rw [resl_length]; omega) fun j x y hx hy => ?_
      rw [resl_get, Option.map_eq_some_iff] at hx
      obtain ⟨l', hl', rfl⟩ := hx
      rw [Nat.zero_add]
      have hjl : j < ls'.length := (List.getElem?_eq_some_iff.1 hl').1
      have hls : ls[j]? = some ls[j] := List.getElem?_eq_getElem (by omega)
      have hsl : sl[j]? = some sl[j] := List.getElem?_eq_getElem (by omega)
      rcases hj j l' ls[j] sl[j] hl' hls hsl with ⟨e, hb, lf, hlf⟩ | hB
      · obtain ⟨arr0, elem0, u, q1, q2, q3⟩ := inCtx_bv hmt hlt h2 hlf hb
        obtain ⟨_, _, arr1, elem1, q4, q5⟩ := h3.bv q j u q3
        rw [g1] at q4
        cases q4
        have hyu : y = u := by
          rw [mid_get g2 (by omega), hy] at q5; exact Option.some.inj q5
        obtain ⟨arr2, elem2, mid2, p1, p2, p3⟩ := hm.ob q ls h1
        have q1 : w.heap[G.φ q]? = some (.cells arr0 elem0 (0, 0)) := q1
        have q2 : arr0.toList[(G.pre q).length + j]? = some u := q2
        rw [p1] at q1
        cases q1
        have hml2 : mid2.length = ls.length := by have := All2.length p3; rw [resl_length] at this; exact this.symm
        rw [mid_get p2 (by omega)] at q2
        obtain ⟨u', hu', hr'⟩ := All2.get (i := j) p3 (by rw [resl_get, hls]; rfl)
        rw [q2] at hu'
        cases hu'
        rw [Nat.zero_add] at hr'
        rw [e, hyu]
        refine hM.le hS (fun a k hk => ?_) hr'
        have := List.any_eq_false.1 (ment_obj (hM.fresh a k hk) h1 0) (st.res q j ls[j]) (List.mem_of_getElem? (i := j) (by rw [resl_get, hls]; simp))
        simpa using this
      · obtain ⟨u', hu', hr'⟩ := All2.get (i := j) g3 (by rw [resl_get, hsl]; rfl)
        rw [hy] at hu'
        cases hu'
        rw [Nat.zero_add] at hr'
        exact hB G G3 _ hr'
  · rcases hM.arr a A hA with ⟨k, h1, h2, h4⟩ | ⟨k, h0, h1, h2, h4, h5⟩ | ⟨h0, h1, h2, h4⟩
    · have := h3.ar k A h2
      simp only [ArrRel, h4, Bool.false_eq_true, if_false] at this ⊢
      simpa [Gh.back, h1] using this
    · have := h3.ar k A h4
      simp only [ArrRel, h5, Bool.false_eq_true, if_false] at this ⊢
      rw [hkeep a k h1 h0] at this
      simpa [Gh.back, h0, h1] using this
    · have := hm.ar a A h2
      simp only [ArrRel, Gh.back, h0, h1] at this ⊢
      split
      · rename_i hs
        simp only [hs, if_true] at this
        rcases this with ⟨e, h1 | ⟨b, cap, arr, elem, fz, pre, cells, rest, q1, q2, q3, q4, q5⟩⟩
        · exact ⟨e, .inl h1⟩
        · exact ⟨e, .inr ⟨b, cap, arr, elem, fz, pre, cells, rest, q1, hS _ _ q2, q3, q4.imp (fun c x H hr => hr.mono hS), q5⟩⟩
      · rename_i hs
        simp only [hs, if_false, Bool.false_eq_true] at this
        rcases this with h1 | ⟨b, cap, arr, elem, cells, rest, H', q1, q2, q3, q4, q5, q6⟩
        · exact .inl h1
        · exact .inr ⟨b, cap, arr, elem, cells, rest, H', q1, q2, q3, q4, q5, q6.imp (fun c x H hr => hr.mono hS)⟩
  · have hx : Owns (G.back G3 told keep) st' (true, a) p.1 := ⟨⟨A, hA, hs⟩, p, hp, rfl⟩
    rcases hM.arr a A hA with ⟨k, h1, h2, h4⟩ | ⟨k, h0, h1, h2, h4, h5⟩ | ⟨h0, h1, h2, h4⟩
    · simp only [Gh.back, h1] at hp; exact h3.ah k A h2 hs p hp
    · simp only [Gh.back, h0, h1] at hp; exact h3.ah k A h4 hs p hp
    · have hp' : p ∈ G.HA a := by simpa only [Gh.back, h0, h1] using hp
      rcases cls _ _ hx with ⟨g1, g2⟩ | ⟨x3, _, c⟩
      · rw [hfr _ (Owns.lt hm g1) g2]; exact hm.ah a A h2 hs p hp'
      · rcases c with ⟨q, e, _⟩ | ⟨a', k, e, _, ha⟩ | ⟨a', k, e, _, ha⟩ <;> simp only [Prod.mk.injEq, true_and, reduceCtorEq, false_and] at e
        · subst e; rw [h0] at ha; cases ha
        · subst e; rw [h1] at ha; cases ha
  · rcases hM.arr a A hA with ⟨k, h1, h2, h4⟩ | ⟨k, h0, h1, h2, h4, h5⟩ | ⟨h0, h1, h2, h4⟩
    · simp only [Gh.back, h1]; exact h3.nd k A h2 hs
    · simp only [Gh.back, h0, h1]; exact h3.nd k A h4 hs
    · simp only [Gh.back, h0, h1]; exact hm.nd a A h2 hs
  · rcases cls x b hx with ⟨h1, h2⟩ | ⟨x3, h1, c1⟩ <;> rcases cls y b hy with ⟨k1, k2⟩ | ⟨y3, k1, c2⟩
    · exact hm.dis x y b h1 k1
    · rcases h3.inn y3 b k1 with ⟨z, hz⟩ | h
      · exact absurd hz (h2 z)
      · have := Owns.lt hm h1; have h : w.heap.size ≤ b := h; omega
    · rcases h3.inn x3 b h1 with ⟨z, hz⟩ | h
      · exact absurd hz (k2 z)
      · have := Owns.lt hm k1; have h : w.heap.size ≤ b := h; omega
    · have e := h3.dis x3 y3 b h1 k1
      rcases c1 with ⟨q, rfl, rfl⟩ | ⟨a, k, rfl, rfl, ha⟩ | ⟨a, k, rfl, rfl, ha⟩ <;> rcases c2 with ⟨q', rfl, rfl⟩ | ⟨a', k', rfl, rfl, ha'⟩ | ⟨a', k', rfl, rfl, ha'⟩ <;> simp only [Prod.mk.injEq, true_and, reduceCtorEq, false_and] at e
      · rw [e]
      · subst e; rw [hM.ti a a' k ha ha']
      · subst e; exact absurd ha' (hM.tk a a' k ha)
      · subst e; exact absurd ha (hM.tk a' a k ha')
      · subst e; rw [hM.ki a a' k ha ha']
  · rcases cls x b hx with ⟨h1, h2⟩ | ⟨x3, h1, c1⟩
    · cases hc : G3.S b with
      | none => exact hc
      | some o =>
        rcases h3.sn b o hc with h | ⟨y, hy⟩ | h
        · have := hm.dS x b h1; rw [show G.S b = some o from h] at this; cases this
        · exact absurd hy (h2 y)
        · have := Owns.lt hm h1; have h : w.heap.size ≤ b := h; omega
    · exact h3.dS x3 b h1
  · rcases cls x b hx with ⟨h1, h2⟩ | ⟨x3, h1, c1⟩
    · exact hm.inn x b h1
    · rcases hin x3 b h1 with ⟨x', hx'⟩ | h
      · exact hm.inn x' b hx'
      · have := hm.sz; exact .inr (by omega)
  · rcases h3.sn b o h with h | ⟨y, hy⟩ | h
    · exact hm.sn b o h
    · obtain ⟨y', hy', _⟩ := hown y b hy
      rcases hm.inn y' b hy' with h | h
      · exact .inr (.inl h)
      · exact .inr (.inr h)
    · have := hm.sz; have h : w.heap.size ≤ b := h; exact .inr (.inr (by omega))
  · rw [hfr b (by have := hm.sz; omega) (fun y hy => by
      obtain ⟨y', hy', _⟩ := hown y b hy
      rcases hm.inn y' b hy' with h | h
      · exact hn h
      · omega)]
    exact hm.fr b hb hn
  · obtain ⟨⟨ls, h1⟩, h2⟩ := hm.pin q p hp
    exact ⟨hM.keepObj q ls h1, h2⟩
  · obtain ⟨⟨lf, h1⟩, ⟨ls, h2, h4⟩, arr0, elem0, h5, h6⟩ := hm.bv q j u hu
    obtain ⟨ls', k1, k2, k3⟩ := hM.bas q j ls lf h2 h4 h1
    refine ⟨⟨lf, by rw [hM.bl]; exact h1⟩, ⟨ls', k1, k2⟩, ?_⟩
    rcases k3 with k3 | ⟨tl, lf', k3, k4, k5⟩
    · have hx : Owns (G.back G3 told keep) st' (false, q) (G.φ q) := ⟨⟨ls', k1⟩, rfl⟩
      refine ⟨arr0, elem0, ?_, h6⟩
      rcases cls _ _ hx with ⟨g1, g2⟩ | ⟨x3, g1, c⟩
      · rw [show (G.back G3 told keep).φ q = G.φ q from rfl, hfr _ (Owns.lt hm g1) g2]; exact h5
      · have hno : ∀ y, ¬ Owns (G.ren al) t y (G.φ q) := fun y hy => by
          obtain ⟨y', hy', c'⟩ := hown y _ hy
          have e := hm.dis (false, q) y' _ ⟨⟨ls, h2⟩, rfl⟩ hy'
          rcases c' with ⟨o, rfl, rfl⟩ | ⟨nm, a, A, rfl, rfl, _⟩
          · simp only [Prod.mk.injEq, true_and] at e
            subst e
            obtain ⟨⟨tl, ht⟩, _⟩ := hy
            rw [k3] at ht; cases ht
          · simp at e
        rw [show (G.back G3 told keep).φ q = G.φ q from rfl, hfr _ (Owns.lt hm (x := (false, q)) ⟨⟨ls, h2⟩, rfl⟩) hno]; exact h5
    · obtain ⟨f1, f2, f3⟩ := hφ q tl k3
      obtain ⟨hlt, _, _⟩ := hM.tobj q tl k3
      obtain ⟨arr1, elem1, u', q1, q2, q3⟩ := inCtx_bv hmt hlt k3 k5 k4
      have q1 : w.heap[G.φ q]? = some (.cells arr1 elem1 (0, 0)) := q1
      have q2 : arr1.toList[(G.pre q).length + j]? = some u' := q2
      rw [h5] at q1
      cases q1
      rw [h6] at q2
      cases q2
      obtain ⟨_, _, arr2, elem2, q4, q5⟩ := h3.bv q j u q3
      exact ⟨arr2, elem2, by rw [show (G.back G3 told keep).φ q = G.φ q from rfl, ← f1]; exact q4, by rw [show (G.back G3 told keep).pre q = G.pre q from rfl, ← f2]; exact q5⟩
end
end Go.Fx
