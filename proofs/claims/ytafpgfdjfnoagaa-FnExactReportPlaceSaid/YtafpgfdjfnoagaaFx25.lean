/- The framework, twenty-fifth text: loops. -/
import Derived.Test.YtafpgfdjfnoagaaFx24
namespace Go.Fx
set_option linter.unusedVariables false
set_option linter.unusedSimpArgs false

def allDat : List Leaf → Bool
  | [] => true
  | .dat _ _ :: r => allDat r
  | _ => false

/-- How a loop is left: what is done at an exit, what at a panic. -/
abbrev Dk (W : Type) : Type 1 := {R : Type} → W → ((e : Exit) → (vs : Pls) → PV vs → Option R) → (TypeId → List Leaf → Option R) → Option R

def Lay.with (L : Lay) (vs : Pls) : Lay := ⟨L.n, L.objs, L.cs, vs⟩
def outer (id : Nat) : Exit → Exit
  | .exit i => bif Nat.beq i id then .normal else .exit i
  | e => e

def loopSem (id : Nat) (L : Lay) {W : Type} (l : PV L.cs → PV L.vs → Option W) (dk : Dk W) : LoopSem where
  run st K KP := (match ent L st with
    | none => none
    | some (c, v, s) => (bif baseIn L.cs s then (l c v).bind fun x => dk x (fun e vs o => K (outer id e) (aft (L.with vs) c o st)) (fun T ls => KP (.ifc T ls) (aft (L.with []) c () st)) else none))

theorem ent_share {L : Lay} {st s : St} {c : PV L.cs} {v : PV L.vs} (h : ent L st = some (c, v, s)) : Base st s ∧ L.n = st.n ∧ ∃ a, rdAll s L.cs = some (c, a) := by
  unfold ent at h
  split at h
  · cases h
  · rename_i s1 h1
    split at h
    · cases h
    · rename_i s2 h2
      split at h
      · cases h
      · rename_i c' a hc
        split at h
        · cases h
        · rename_i v' b hv
          cases hk : (Nat.beq L.n s2.n && alOk (a ++ b) && objsOk L.objs s2) with
          | false => simp [hk] at h
          | true =>
            simp only [hk, cond_true, Option.some.injEq, Prod.mk.injEq] at h
            obtain ⟨rfl, rfl, rfl⟩ := h
            simp only [Bool.and_eq_true] at hk
            have hb := (shareAll_base h1).trans (shareAll_base h2)
            exact ⟨hb, (Nat.eq_of_beq_eq_true hk.1.1).trans hb.1, a, hc⟩

theorem aft_base {L : Lay} {c : PV L.cs} {v : PV L.vs} {st : St} (hn : L.n = st.n) : Base st (aft L c v st) := ⟨hn, rfl, rfl, rfl⟩

theorem loop_cong (id : Nat) (L : Lay) {W : Type} (l : PV L.cs → PV L.vs → Option W) (dk : Dk W) : LoopCong (loopSem id L l dk) := by
  intro R st K K' KP KP' hK hP
  simp only [loopSem]
  split
  · rfl
  · rename_i c v s hs
    obtain ⟨_, hn, _⟩ := ent_share hs
    have e1 : (fun (e : Exit) (vs : Pls) (o : PV vs) => K (outer id e) (aft (L.with vs) c o st)) = (fun e vs o => K' (outer id e) (aft (L.with vs) c o st)) := funext fun e => funext fun vs => funext fun o => hK _ _ (aft_base (L := L.with _) hn)
    have e2 : (fun (T : TypeId) (ls : List Leaf) => KP (.ifc T ls) (aft (L.with []) c () st)) = (fun T ls => KP' (.ifc T ls) (aft (L.with []) c () st)) := funext fun T => funext fun ls => hP _ _ (aft_base (L := L.with _) hn)
    rw [e1, e2]; rfl

theorem sub_allDat {G G' : Gh} (h : G.Sub G') : ∀ {ls : List Leaf} {vs : List Value}, All2 (RelL G) ls vs → All2 (RelL G') ls vs := fun {ls vs} hr => hr.imp fun l v h' => h'.sub h

theorem ren_dat {G : Gh} {al : AL} : ∀ {ls : List Leaf} {vs : List Value}, allDat ls = true → All2 (RelL G) ls vs → All2 (RelL (G.ren al)) ls vs
  | [], [], _, _ => trivial
  | .dat t d :: r, _ :: _, h, hr => ⟨hr.1, ren_dat (ls := r) h hr.2⟩
  | [], _ :: _, _, hr => hr.elim
  | _ :: _, [], _, hr => hr.elim

theorem rnd_ok' {L : Lay} {c : PV L.cs} {s : St} {v : PV L.vs} (hb : BaseOf L c s) (h : rnd L (keepAL L.cs c) s = some v) {X : Ctx} {G : Gh} {w : World} {act : Act} (hm : RelM X s G w) (hr : RelR G s act) :
    ∃ G', RelM X (L.st c v) G' w ∧ RelR G' (L.st c v) act ∧ ∀ T ls u, allDat ls = true → RelV G (.ifc T ls) u → RelV G' (.ifc T ls) u := by
  unfold rnd at h
  split at h
  · cases h
  · rename_i s1 h1
    split at h
    · cases h
    · rename_i v' b hv
      cases hk : (keepAll s1 L.cs && alOk (keepAL L.cs c ++ b) && objsOk L.objs s1) with
      | false => simp [hk] at h
      | true =>
        simp only [hk, cond_true, Option.some.injEq] at h
        subst h
        simp only [Bool.and_eq_true, keepAll] at hk
        obtain ⟨⟨⟨k0, k1⟩, k2⟩, k3⟩ := hk
        have hb1 := hb.base (shareAll_base h1)
        obtain ⟨G1, m1, a1, q1⟩ := shareAll_ok h1 hm
        have hn : ((keepAL L.cs c ++ b).map (·.1)).Nodup := by
          have := k2; simp only [alOk, Bool.and_eq_true] at this; exact nodupN_iff this.1
        have hf := foundAll (v := c) (nodupN_iff k0)
        have N := norm_of (L := L) (keep_src (full := ⟨L.cs, c⟩) hb1.2.1 hb1.2.2.1 hn hf k1 (fun e he => List.mem_append_left _ he)) (rdAll_src hn hv (fun e he => List.mem_append_right _ he))
          (fun nm src A hmem => by
            rcases List.mem_append.1 hmem with hmem | hmem
            · exact keep_good (full := ⟨L.cs, c⟩) hb1.2.2.2 hf k1 nm src A hmem
            · exact rdAll_good hv nm src A hmem) k2 k3 hb1.1 (fun o j lf hl => ⟨lf, by rw [← hb1.2.2.1]; exact hl⟩)
        exact ⟨_, N.ok m1, N.regs m1 (kept_regs q1 a1 hr), fun T ls u hd hu => by
          obtain ⟨x, cs, e1, e2, e3⟩ := hu
          exact ⟨x, cs, e1, e2, ren_dat hd (sub_allDat a1 e3)⟩⟩

noncomputable def gd (L : Lay) (c : PV L.cs) (s : St) {W : Type} (x : Option W) : Option W := @ite _ (BaseOf L c s) (Classical.propDecidable _) x none
theorem gd_pos {L : Lay} {c : PV L.cs} {s : St} {W : Type} {x : Option W} (h : BaseOf L c s) : gd L c s x = x := by
  unfold gd; rw [if_pos h]
theorem gd_some {L : Lay} {c : PV L.cs} {s : St} {W : Type} {x : Option W} {y : W} (h : gd L c s x = some y) : BaseOf L c s ∧ x = some y := by
  unfold gd at h
  split at h
  · rename_i hb; exact ⟨hb, h⟩
  · cases h

section
variable {P : Program} {E : Env} (hE : EnvOk P E)
include hE

theorem loop_ok {id : Nat} {body : Code} {L : Lay} {W : Type} {l : Nat → PV L.cs → PV L.vs → Option W} {dk : Dk W} {out : PV L.cs → Exit → St → Option W} {pout : PV L.cs → AVal → St → Option W} (hb : LoopsOk P E body)
    (h0 : ∀ c v, l 0 c v = none)
    (h1 : ∀ k c v, l (k + 1) c v = runC E body (L.st c v) (fun e s => match e with | .normal => (rnd L (keepAL L.cs c) s).bind (l k c) | e => out c e s) (pout c))
    (h2 : ∀ c e s x, out c e s = some x → ∃ vs o, rnd (L.with vs) (keepAL L.cs c) s = some o ∧ ∀ (R : Type) f g, dk (R := R) x f g = f e vs o)
    (h3 : ∀ c av s x, pout c av s = some x → ∃ T ls, av = .ifc T ls ∧ allDat ls = true ∧ rnd (L.with []) (keepAL L.cs c) s = some () ∧ ∀ (R : Type) f g, dk (R := R) x f g = g T ls) (k : Nat) :
    LoopOk P id (.loop body) (loopSem id L (l k) dk) := by
  intro R r X st G w act K KP Q h hm hr hK hP
  simp only [loopSem] at h
  split at h
  · cases h
  · rename_i c v s hs
    obtain ⟨hbs, hn, a, hrd⟩ := ent_share hs
    cases hbi : baseIn L.cs s with
    | false => simp [hbi] at h
    | true =>
      simp only [hbi, cond_true] at h
      obtain ⟨x, hx, h⟩ := Option.bind_eq_some_iff.1 h
      have bs0 := bsub_of hrd hbi
      have bs : BSub st L c := bs0.base hbs
      obtain ⟨G1, m1, r1⟩ := ent_ok hs (fun o j lf hl => ⟨lf, bs0.leaf o j lf hl⟩) hm hr
      -- what is left to be shown at the ways out
      let Q' : Exit → Act → World → Prop := fun e a w => match e with
        | .panic ch => Q (.panic ch) a w
        | e => Q (outer id e) a w
      have hQ : ∀ e a w, Q' e a w → Exit.inBlock id Q e a w := fun e a w hq => by
        cases e with
        | exit i =>
          simp only [Exit.inBlock]
          by_cases e : i = id
          · subst e; simp only [Q', outer, Nat.beq_refl, cond_true] at hq; simpa using hq
          · simp only [Q', outer, nbeq_false e, cond_false] at hq; simpa [e] using hq
        | _ => exact hq
      have hout : ∀ e s G w act, e ≠ .normal → BaseOf L c s → RelM X s G w → RelR G s act → out c e s = some x → Q' e act w := fun e s G w act hne hb m r' ho => by
        obtain ⟨vs, o, g1, g2⟩ := h2 c e s x ho
        rw [g2] at h
        obtain ⟨G', m', r''⟩ := rnd_ok (L := L.with vs) (c := c) (v := o) hb g1 m r'
        have wk := aft_weak (L := L.with vs) (c := c) (v := o) (st := st) ⟨bs.reg, bs.leaf, bs.arr⟩
        have := hK _ _ _ _ _ (wk.ok m' (fun o j u hu => (hm.bv o j u hu).1)) (wk.regs r'') h
        cases e with
        | panic ch => exact this
        | _ => exact this
      have hpan : ∀ av u s G w act, BaseOf L c s → RelM X s G w → RelR G s act → RelV G av u → pout c av s = some x → Q' (.panic [{ v := u, recovered := false }]) act w := fun av u s G w act hb m r' hv ho => by
        obtain ⟨T, ls, rfl, hd, g1, g2⟩ := h3 c av s x ho
        rw [g2] at h
        obtain ⟨G', m', r'', hp⟩ := rnd_ok' (L := L.with []) (c := c) (v := ()) hb g1 m r'
        have wk := aft_weak (L := L.with []) (c := c) (v := ()) (st := st) ⟨bs.reg, bs.leaf, bs.arr⟩
        exact hP _ _ _ _ _ _ (wk.ok m' (fun o j u hu => (hm.bv o j u hu).1)) (wk.regs r'') (hp T ls u hd hv) h
      refine wp_block (wp_mono (Q := Q') ?_ hQ)
      intro b kk cs
      have key : ∀ k v G act w, RelM X (L.st c v) G w → RelR G (L.st c v) act → l k c v = some x →
          ∃ e a' w', Q' e a' w' ∧ Arrives P (lone (b.at act (.code body :: .inLoop body :: kk)) cs w) b kk cs e a' w' := by
        intro k
        induction k with
        | zero => intro v G act w _ _ hl; rw [h0] at hl; cases hl
        | succ k ih =>
          intro v G act w m r' hl
          rw [h1] at hl
          have hl := (runC_cong hE.cong hE.lcong body (K' := fun e s => gd L c s (match e with | .normal => (rnd L (keepAL L.cs c) s).bind (l k c) | e => out c e s))
            (KP' := fun av s => gd L c s (pout c av s)) (fun e s hs => (gd_pos ⟨hs.1.symm, hs.2.1, hs.2.2.1, hs.2.2.2⟩).symm) (fun av s hs => (gd_pos ⟨hs.1.symm, hs.2.1, hs.2.2.1, hs.2.2.2⟩).symm)).symm.trans hl
          have hwp := runC_ok hE body hb (Q := Exit.then (fun a w => ∃ e a' w', Q' e a' w' ∧ Arrives P (lone (b.at a (.code body :: .inLoop body :: kk)) cs w) b kk cs e a' w') Q') hl m r'
            (fun e s G w act m r' hk => by
              obtain ⟨hbo, hk⟩ := gd_some hk
              cases e with
              | normal =>
                obtain ⟨v', g1, g2⟩ := Option.bind_eq_some_iff.1 hk
                obtain ⟨G', m', r''⟩ := rnd_ok hbo g1 m r'
                exact ih v' G' act w m' r'' g2
              | _ => exact hout _ _ _ _ _ (by simp) hbo m r' hk)
            (fun av u s G w act m r' hv hk => by
              obtain ⟨hbo, hk⟩ := gd_some hk
              exact hpan _ _ _ _ _ _ hbo m r' hv hk)
          obtain ⟨e, a₁, w₁, hq, harr⟩ := hwp b (.inLoop body :: kk) cs
          cases e with
          | normal =>
            obtain ⟨e₂, a₂, w₂, hq₂, harr₂⟩ := hq
            exact ⟨e₂, a₂, w₂, hq₂, .of_steps (Steps.trans harr (.one step_inLoop)) harr₂⟩
          | exit id => exact ⟨_, a₁, w₁, hq, .pass (x := .inLoop body) rfl (fun _ _ => .inl (by simp)) harr⟩
          | goto l => exact ⟨_, a₁, w₁, hq, .pass (x := .inLoop body) rfl (fun _ _ => .inl (by simp)) harr⟩
          | ret => exact ⟨_, a₁, w₁, hq, .pass (x := .inLoop body) rfl (fun _ _ => .inl (by simp)) harr⟩
          | panic ch => exact ⟨_, a₁, w₁, hq, .pass (x := .inLoop body) rfl (fun _ _ => .inl (by simp)) harr⟩
          | outgrown => exact ⟨_, a₁, w₁, hq, .pass (x := .inLoop body) rfl (fun _ _ => .inl (by simp)) harr⟩
      obtain ⟨e, a', w', hq, harr⟩ := key k v G1 act w m1 r1 hx
      exact ⟨e, a', w', hq, .of_steps (.one step_loop) harr⟩
end
end Go.Fx
