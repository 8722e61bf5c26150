/- The framework, twentieth text: a state that says less, its arrays under other names. -/
import Derived.Test.YtafpgfdjfnoagaaFx19
namespace Go.Fx
set_option linter.unusedVariables false
set_option linter.unusedSimpArgs false

/-- New names of arrays: of an old one, or of none (an empty one). -/
abbrev AL := List (Nat × Option Nat × Arr)
def Gh.ren (G : Gh) (al : AL) : Gh := { G with
  ψ := fun nm => match look al nm with | some (some a, _) => G.ψ a | _ => .slice none 0 0
  HA := fun nm => match look al nm with | some (some a, _) => G.HA a | _ => [] }

def St.regD (st : St) (i : Nat) : AVal := (match st.reg i with | some v => v | none => .one .any)

structure Norm (st t : St) (al : AL) : Prop where
  n : t.n = st.n
  arr : ∀ nm A, t.arr nm = some A → ∃ src, look al nm = some (src, A)
  src : ∀ nm a A, look al nm = some (some a, A) → A.sh = false ∧ st.arr a = some A
  nil : ∀ nm A, look al nm = some (none, A) → A.sh = false ∧ A.l = []
  inj : ∀ nm nm' a A A', look al nm = some (some a, A) → look al nm' = some (some a, A') → nm = nm'
  reg : ∀ i tv, t.reg i = some tv → ∀ X G w v, RelM X st G w → RelV G (st.regD i) v → RelV (G.ren al) tv v
  obj : ∀ o tl, t.obj o = some tl → ∃ sl, st.obj o = some sl ∧ All2 (fun a b => ∀ X G w v, RelM X st G w → RelL G a v → RelL (G.ren al) b v) (st.resl o 0 sl) (t.resl o 0 tl)
  pin : ∀ o sl, o < 10000 → st.obj o = some sl → ∃ tl, t.obj o = some tl
  bas : ∀ o j lf sl, o < 10000 → lookL st.bleaves o j = some lf → st.obj o = some sl → sl[j]? = some .bas → (∃ lf', lookL t.bleaves o j = some lf') ∧ ∃ tl, t.obj o = some tl ∧ tl[j]? = some .bas

theorem All2.comp {α β γ : Type} {R : α → γ → Prop} {T : β → γ → Prop} : ∀ {xs : List α} {ys : List β} {vs : List γ}, All2 (fun a b => ∀ v, R a v → T b v) xs ys → All2 R xs vs → All2 T ys vs
  | [], [], [], _, _ => trivial
  | _ :: _, _ :: _, _ :: _, h, k => ⟨h.1 _ k.1, All2.comp h.2 k.2⟩
  | [], [], _ :: _, _, k => k.elim
  | [], _ :: _, _, h, _ => h.elim
  | _ :: _, [], _, h, _ => h.elim
  | _ :: _, _ :: _, [], _, k => k.elim

theorem Norm.ok {st t : St} {al : AL} (h : Norm st t al) {X : Ctx} {G : Gh} {w : World} (hm : RelM X st G w) : RelM X t (G.ren al) w := by
  have own : ∀ x b, Owns (G.ren al) t x b → ∃ x', Owns G st x' b ∧ ((∃ o, x = (false, o) ∧ x' = (false, o)) ∨ ∃ nm a A, x = (true, nm) ∧ x' = (true, a) ∧ look al nm = some (some a, A)) := fun x b hx => by
    obtain ⟨k, n⟩ := x
    cases k with
    | false =>
      obtain ⟨⟨tl, ht⟩, rfl⟩ := hx
      obtain ⟨sl, hs, _⟩ := h.obj n tl ht
      exact ⟨(false, n), ⟨⟨sl, hs⟩, rfl⟩, .inl ⟨n, rfl, rfl⟩⟩
    | true =>
      obtain ⟨⟨A, hA, hs⟩, p, hp, rfl⟩ := hx
      obtain ⟨src, hl⟩ := h.arr n A hA
      cases src with
      | none => simp [Gh.ren, hl] at hp
      | some a =>
        simp only [Gh.ren, hl] at hp
        exact ⟨(true, a), ⟨⟨A, (h.src n a A hl).2, hs⟩, p, hp, rfl⟩, .inr ⟨n, a, A, rfl, rfl, hl⟩⟩
  refine { sl := fun a => ?_, sh := hm.sh, ob := fun o tl ho => ?_, ar := fun nm A hA => ?_, ah := fun nm A hA hs => ?_, nd := fun nm A hA hs => ?_, dis := fun x y b hx hy => ?_, dS := fun x b hx => ?_, inn := fun x b hx => ?_, s0 := hm.s0, sn := hm.sn, fr := hm.fr, sz := hm.sz, os := hm.os, tp := hm.tp, out := hm.out, pin := fun o p hp => ?_, bv := fun o j u hv => (by obtain ⟨⟨lf, h1⟩, ⟨sl, h2, h3⟩, r⟩ := hm.bv o j u hv; obtain ⟨q1, q2⟩ := h.bas o j lf sl (X.bl o j u hv) h1 h2 h3; exact ⟨q1, q2, r⟩) }
  · show ∃ b n c, (match look al a with | some (some a, _) => G.ψ a | _ => .slice none 0 0) = .slice b n c
    split
    · exact hm.sl _
    · exact ⟨_, _, _, rfl⟩
  · obtain ⟨sl, hs, ha⟩ := h.obj o tl ho
    obtain ⟨arr, elem, mid, g1, g2, g3⟩ := hm.ob o sl hs
    exact ⟨arr, elem, mid, g1, g2, (ha.imp fun a b hab v hv => hab X G w v hm hv).comp g3⟩
  · obtain ⟨src, hl⟩ := h.arr nm A hA
    cases src with
    | none =>
      obtain ⟨h1, h2⟩ := h.nil nm A hl
      simp only [ArrRel, h1, Bool.false_eq_true, if_false]
      exact .inl ⟨h2, by simp [Gh.ren, hl], by simp [Gh.ren, hl]⟩
    | some a =>
      obtain ⟨h1, h2⟩ := h.src nm a A hl
      have := hm.ar a A h2
      simp only [ArrRel, h1, Bool.false_eq_true, if_false] at this ⊢
      simpa [Gh.ren, hl] using this
  · obtain ⟨src, hl⟩ := h.arr nm A hA
    cases src with
    | none => intro p hp; simp [Gh.ren, hl] at hp
    | some a => simpa [Gh.ren, hl] using hm.ah a A (h.src nm a A hl).2 hs
  · obtain ⟨src, hl⟩ := h.arr nm A hA
    cases src with
    | none => simp [Gh.ren, hl]
    | some a => simpa [Gh.ren, hl] using hm.nd a A (h.src nm a A hl).2 hs
  · obtain ⟨x', hx', cx⟩ := own x b hx
    obtain ⟨y', hy', cy⟩ := own y b hy
    have e := hm.dis x' y' b hx' hy'
    rcases cx with ⟨o, rfl, rfl⟩ | ⟨nm, a, A, rfl, rfl, hl⟩ <;> rcases cy with ⟨o', rfl, rfl⟩ | ⟨nm', a', A', rfl, rfl, hl'⟩
    · exact e
    · simp at e
    · simp at e
    · simp only [Prod.mk.injEq, true_and] at e
      subst e
      rw [h.inj nm nm' a A A' hl hl']
  · obtain ⟨x', hx', _⟩ := own x b hx; exact hm.dS x' b hx'
  · obtain ⟨x', hx', _⟩ := own x b hx; exact hm.inn x' b hx'
  · obtain ⟨⟨sl, hs⟩, e⟩ := hm.pin o p hp
    exact ⟨h.pin o sl (X.pl o p hp) hs, e⟩

theorem Norm.regs {st t : St} {al : AL} (h : Norm st t al) {X : Ctx} {G : Gh} {w : World} (hm : RelM X st G w) {act : Act} (hr : RelR G st act) : RelR (G.ren al) t act :=
  ⟨hr.1, hr.2.1.trans h.n.symm, fun i tv ht => by
    refine h.reg i tv ht X G w _ hm ?_
    unfold St.regD
    cases hs : st.reg i with
    | none => trivial
    | some sv => exact hr.2.2 i sv hs⟩

/-- A state that says less, all names as they were. -/
structure Weak (st t : St) : Prop where
  n : t.n = st.n
  arr : ∀ nm A, t.arr nm = some A → st.arr nm = some A
  reg : ∀ i tv, t.reg i = some tv → ∀ G v, RelV G (st.regD i) v → RelV G tv v
  obj : ∀ o tl, t.obj o = some tl → ∃ sl, st.obj o = some sl ∧ All2 (fun a b => ∀ G v, RelL G a v → RelL G b v) (st.resl o 0 sl) (t.resl o 0 tl)
  pin : ∀ o sl, o < 10000 → st.obj o = some sl → ∃ tl, t.obj o = some tl
  bas : ∀ o j lf sl, lookL t.bleaves o j = some lf → st.obj o = some sl → sl[j]? = some .bas → ∃ tl, t.obj o = some tl ∧ tl[j]? = some .bas

theorem Weak.ok {st t : St} (h : Weak st t) {X : Ctx} {G : Gh} {w : World} (hm : RelM X st G w) (hbv : ∀ o j u, X.bv o j = some u → ∃ lf, lookL t.bleaves o j = some lf) : RelM X t G w := by
  have own : ∀ x b, Owns G t x b → Owns G st x b := fun x b hx => by
    obtain ⟨k, n⟩ := x
    cases k with
    | false =>
      obtain ⟨⟨tl, ht⟩, rfl⟩ := hx
      obtain ⟨sl, hs, _⟩ := h.obj n tl ht
      exact ⟨⟨sl, hs⟩, rfl⟩
    | true =>
      obtain ⟨⟨A, hA, hs⟩, p, hp, rfl⟩ := hx
      exact ⟨⟨A, h.arr n A hA, hs⟩, p, hp, rfl⟩
  refine { sl := hm.sl, sh := hm.sh, ob := fun o tl ho => ?_, ar := fun nm A hA => hm.ar nm A (h.arr nm A hA), ah := fun nm A hA hs => hm.ah nm A (h.arr nm A hA) hs, nd := fun nm A hA hs => hm.nd nm A (h.arr nm A hA) hs, dis := fun x y b hx hy => hm.dis x y b (own x b hx) (own y b hy), dS := fun x b hx => hm.dS x b (own x b hx), inn := fun x b hx => hm.inn x b (own x b hx), s0 := hm.s0, sn := hm.sn, fr := hm.fr, sz := hm.sz, os := hm.os, tp := hm.tp, out := hm.out, pin := fun o p hp => ?_, bv := fun o j u hv => (by obtain ⟨_, ⟨sl, h2, h3⟩, r⟩ := hm.bv o j u hv; obtain ⟨lf, h1⟩ := hbv o j u hv; exact ⟨⟨lf, h1⟩, h.bas o j lf sl h1 h2 h3, r⟩) }
  · obtain ⟨sl, hs, ha⟩ := h.obj o tl ho
    obtain ⟨arr, elem, mid, g1, g2, g3⟩ := hm.ob o sl hs
    exact ⟨arr, elem, mid, g1, g2, (ha.imp fun a b hab v hv => hab G v hv).comp g3⟩
  · obtain ⟨⟨sl, hs⟩, e⟩ := hm.pin o p hp
    exact ⟨h.pin o sl (X.pl o p hp) hs, e⟩

theorem Weak.regs {st t : St} (h : Weak st t) {G : Gh} {act : Act} (hr : RelR G st act) : RelR G t act :=
  ⟨hr.1, hr.2.1.trans h.n.symm, fun i tv ht => by
    refine h.reg i tv ht G _ ?_
    unfold St.regD
    cases hs : st.reg i with
    | none => trivial
    | some sv => exact hr.2.2 i sv hs⟩
end Go.Fx
