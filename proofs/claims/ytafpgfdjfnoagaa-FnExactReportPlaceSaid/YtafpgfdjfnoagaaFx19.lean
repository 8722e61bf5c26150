/- The framework, nineteenth text: regions and code. -/
import Derived.Test.YtafpgfdjfnoagaaFx18
namespace Go.Fx
set_option linter.unusedVariables false
set_option linter.unusedSimpArgs false

structure EnvOk (P : Program) (E : Env) : Prop where
  tab : TabOk P E.tab
  sem : ∀ f s, E.sem f = some s → SemOk P f s
  cong : ∀ f s, E.sem f = some s → SemCong s
  lcong : ∀ i L, E.loops i = some L → LoopCong L

theorem RelR.put {G : Gh} {st : St} {act : Act} {d : Tmp} {av : AVal} {v : Value} (hr : RelR G st act) (hd : d < st.n) (hv : RelV G av v) : RelR G (st.setReg d av) (act.put (some d) v) := by
  obtain ⟨h1, h2, h3⟩ := hr
  refine ⟨h1, by simp [Act.put, h2, St.setReg], fun i x hx => ?_⟩
  rw [reg_setReg] at hx
  simp only [Act.put]
  by_cases e : d = i
  · subst e
    simp only [if_true, Option.some.injEq] at hx
    subst hx
    have : d < act.tmps.size := by rw [h2]; exact hd
    simpa [Array.getD, this] using hv
  · simp only [e, if_false] at hx
    have := h3 i x hx
    simpa [Array.getD_eq_getD_getElem?, Array.getElem?_setIfInBounds, e] using this

theorem RelR.refine {G : Gh} {st : St} {act : Act} {d : Nat} {av : AVal} (hr : RelR G st act) (hv : RelV G av (act.tmps.getD d undef)) : RelR G (st.setReg d av) act := by
  obtain ⟨h1, h2, h3⟩ := hr
  refine ⟨h1, h2, fun i x hx => ?_⟩
  rw [reg_setReg] at hx
  by_cases e : d = i
  · subst e; simp only [if_true, Option.some.injEq] at hx; subst hx; exact hv
  · simp only [e, if_false] at hx; exact h3 i x hx

theorem RelM.setReg {X : Ctx} {st : St} {G : Gh} {w : World} (hm : RelM X st G w) (d : Nat) (av : AVal) : RelM X (st.setReg d av) G w :=
  { sl := hm.sl, sh := hm.sh, ob := fun o ls h => by
      obtain ⟨arr, elem, mid, g1, g2, g3⟩ := hm.ob o ls h
      refine ⟨arr, elem, mid, g1, g2, ?_⟩
      unfold LeavesRel at g3 ⊢
      rw [resl_congr (st := st) (fun j l => by simp)]; exact g3
    ar := hm.ar, ah := hm.ah, nd := hm.nd, dis := hm.dis, dS := hm.dS, inn := hm.inn, s0 := hm.s0, sn := hm.sn, fr := hm.fr, sz := hm.sz, os := hm.os, tp := hm.tp, out := hm.out, pin := hm.pin, bv := hm.bv }

theorem putK_ok {X : Ctx} {st : St} {G : Gh} {w : World} {R : Type} {r : R} {act : Act} {d : Option Tmp} {av : AVal} {v : Value} {K : St → Option R} (h : putK d av st K = some r) (hm : RelM X st G w) (hr : RelR G st act) (hv : RelV G av v) :
    ∃ st', RelM X st' G w ∧ RelR G st' (act.put d v) ∧ K st' = some r := by
  cases d with
  | none => exact ⟨st, hm, hr, h⟩
  | some d =>
    simp only [putK] at h
    cases hc : ((look st.bregs d).isSome || Nat.ble st.n d) with
    | true => simp [hc] at h
    | false =>
      simp only [hc, cond_false] at h
      simp only [Bool.or_eq_false_iff] at hc
      have hd : d < st.n := by
        rcases Nat.lt_or_ge d st.n with h' | h'
        · exact h'
        · have := Nat.ble_eq_true_of_le h'; rw [this] at hc; cases hc.2
      exact ⟨_, hm.setReg d av, hr.put hd hv, h⟩

section
variable {P : Program} {E : Env} (hE : EnvOk P E) {X : Ctx} {R : Type} {r : R}
include hE

theorem runOps_ok {ops : Array Oper} {KP : AVal → St → Option R} {K : St → Option R} {Q : Exit → Act → World → Prop}
    (hK : ∀ st G w act, RelM X st G w → RelR G st act → K st = some r → Q .normal act w)
    (hP : ∀ av v st G w act, RelM X st G w → RelR G st act → RelV G av v → KP av st = some r → Q (.panic [{ v, recovered := false }]) act w) :
    ∀ {l : List Oper} {st : St} {G : Gh} {w : World} {act : Act}, runOps E ops.toList l st K KP = some r → RelM X st G w → RelR G st act → wpList P ops Q l act w
  | [], st, G, w, act, h, hm, hr => hK _ _ _ _ hm hr h
  | o :: rest, st, G, w, act, h, hm, hr => by
    have step : ∀ {q : St}, RelM X q G w → RelR G q act → exec1 E o q (fun v st' => putK o.dst v st' fun s => runOps E ops.toList rest s K KP) KP = some r → Region.wanted o (yielded ops act.tmps) = true → wpList P ops Q (o :: rest) act w := fun {q} hm hr hx hw => by
      simp only [wpList, hw, if_true]
      exact .inl (exec1_ok hE.tab hE.sem hx hm hr (fun av v st' G' w' m' r' v' k' => by
        obtain ⟨s, m2, r2, k2⟩ := putK_ok k' m' r' v'
        exact runOps_ok hK hP k2 m2 r2) (fun av v st' G' w' m' r' v' k' => hP av v st' G' w' act m' r' v' k'))
    have skip : ∀ {q : St}, RelM X q G w → RelR G q act → putK o.dst (.one .und) q (fun s => runOps E ops.toList rest s K KP) = some r → Region.wanted o (yielded ops act.tmps) = false → wpList P ops Q (o :: rest) act w := fun {q} hm hr hx hw => by
      simp only [wpList, hw, Bool.false_eq_true, if_false]
      obtain ⟨s, m2, r2, k2⟩ := putK_ok hx hm hr (show RelV G (.one .und) undef from rfl)
      exact runOps_ok hK hP k2 m2 r2
    simp only [runOps] at h
    split at h
    · rename_i hg; exact step hm hr h (by simp [Region.wanted, hg])
    · rename_i j want hg
      split at h
      · cases h
      · rename_i g hgd
        have hy : ∀ j', yielded ops act.tmps j' = (match (((ops[j']?).bind (·.dst)).bind (act.tmps[·]?)) with | some (.bool b) => some b | _ => none) := fun j' => rfl
        have hg2 : (ops[j]?).bind (·.dst) = some g := by simpa [guardDst] using hgd
        split at h
        · rename_i c hreg
          have hv := boolof (v := .one (.dat .bool c)) rfl (hr.2.2 g _ hreg)
          have hget : act.tmps[g]? = some (.bool c) := by
            rw [Array.getD_eq_getD_getElem?] at hv
            cases hq : act.tmps[g]? with
            | none => rw [hq] at hv; cases hv
            | some u => rw [hq] at hv; simpa using hv
          have hyj : yielded ops act.tmps j = some c := by rw [hy, hg2]; simp [hget]
          have rel : ∀ b, c = b → RelR G (st.setReg g (.one (.dat .bool b))) act := fun b e => hr.refine (by rw [hv, e]; exact relBool b)
          cases c with
          | true =>
            simp only [cond_true] at h
            cases want with
            | true => simp only [cond_true] at h; exact step (hm.setReg _ _) (rel _ rfl) h (by simp [Region.wanted, hg, hyj])
            | false => simp only [cond_false] at h; exact skip (hm.setReg _ _) (rel _ rfl) h (by simp [Region.wanted, hg, hyj])
          | false =>
            simp only [cond_false] at h
            cases want with
            | true => simp only [cond_true] at h; exact skip (hm.setReg _ _) (rel _ rfl) h (by simp [Region.wanted, hg, hyj])
            | false => simp only [cond_false] at h; exact step (hm.setReg _ _) (rel _ rfl) h (by simp [Region.wanted, hg, hyj])
        · rename_i hreg
          have hv : act.tmps.getD g undef = undef := hr.2.2 g _ hreg
          have hyj : yielded ops act.tmps j = none := by
            rw [hy, hg2]
            rw [Array.getD_eq_getD_getElem?] at hv
            cases hq : act.tmps[g]? with
            | none => simp [hq]
            | some u =>
              rw [hq] at hv
              simp only [Option.getD_some] at hv
              subst hv
              simp [hq, undef]
          exact skip hm hr h (by simp [Region.wanted, hg, hyj])
        · cases h

/-- What is to be known of a loop. -/
def LoopOk (P : Program) (id : Nat) (body : Code) (L : LoopSem) : Prop :=
  ∀ {R : Type} {r : R} {X : Ctx} {st : St} {G : Gh} {w : World} {act : Act} {K : Exit → St → Option R} {KP : AVal → St → Option R} {Q : Exit → Act → World → Prop},
    L.run st K KP = some r → RelM X st G w → RelR G st act →
    (∀ e st G w act, RelM X st G w → RelR G st act → K e st = some r → Q e act w) →
    (∀ av v st G w act, RelM X st G w → RelR G st act → RelV G av v → KP av st = some r → Q (.panic [{ v, recovered := false }]) act w) → (Code.block id body).wp P Q act w

noncomputable def LoopsOk (P : Program) (E : Env) (c : Code) : Prop :=
  Code.rec (motive := fun _ => Prop) True (fun _ _ _ => True) (fun _ _ x y => x ∧ y) (fun _ _ _ x y => x ∧ y)
    (fun id b x => match E.loops id with | some L => LoopOk P id b L | none => x) (fun _ _ => True) (fun _ _ _ _ _ _ => True)
    (fun _ => True) (fun _ _ => True) (fun _ => True) (fun _ => True) True (fun _ => True) c

theorem runC_ok (c : Code) : LoopsOk P E c → ∀ {st : St} {G : Gh} {w : World} {act : Act} {K : Exit → St → Option R} {KP : AVal → St → Option R} {Q : Exit → Act → World → Prop}, runC E c st K KP = some r → RelM X st G w → RelR G st act →
    (∀ e st G w act, RelM X st G w → RelR G st act → K e st = some r → Q e act w) →
    (∀ av v st G w act, RelM X st G w → RelR G st act → RelV G av v → KP av st = some r → Q (.panic [{ v, recovered := false }]) act w) → c.wp P Q act w := by
  induction c with
  | skip => intro _ st G w act K KP Q h hm hr hK hP; exact wp_skip (hK _ _ _ _ _ hm hr h)
  | region id ops draw =>
    intro _ st G w act K KP Q h hm hr hK hP
    cases draw with
    | true => cases h
    | false => exact wp_region_list (runOps_ok hE (fun st G w act => hK .normal st G w act) hP h hm hr)
  | seq a b iha ihb =>
    intro hL st G w act K KP Q h hm hr hK hP
    refine wp_seq (iha hL.1 h hm hr (fun e s G w act m r' k => ?_) (fun av v s G w act m r' v' k => hP av v s G w act m r' v' k))
    cases e with
    | normal => exact ihb hL.2 k m r' hK hP
    | _ => exact hK _ _ _ _ _ m r' k
  | cond c t e iht ihe =>
    intro hL st G w act K KP Q h hm hr hK hP
    have h : (match (ev st c).bool? with | some b => bif b then runC E t st K KP else runC E e st K KP | none => none) = some r := h
    cases hb : (ev st c).bool? with
    | none => simp [hb] at h
    | some b =>
      simp only [hb] at h
      have hv := boolof hb (ev_ok hr c)
      cases b with
      | true => exact wp_cond_true hv (iht hL.1 h hm hr hK hP)
      | false => exact wp_cond_false hv (ihe hL.2 h hm hr hK hP)
  | block id b ih =>
    intro hL st G w act K KP Q h hm hr hK hP
    have h : (match E.loops id with
      | some L => L.run st K KP
      | none => runC E b st (fun e s => match e with | .exit i => (bif Nat.beq i id then K .normal s else K (.exit i) s) | e => K e s) KP) = some r := h
    have hL : (match E.loops id with | some L => LoopOk P id b L | none => LoopsOk P E b) := hL
    cases hl : E.loops id with
    | some L =>
      simp only [hl] at h hL
      exact hL h hm hr hK hP
    | none =>
      simp only [hl] at h hL
      refine wp_block (ih hL h hm hr (fun e s G w act m r' k => ?_) (fun av v s G w act m r' v' k => hP av v s G w act m r' v' k))
      cases e with
      | exit i =>
        simp only [Exit.inBlock]
        by_cases e : i = id
        · subst e
          simp only [Nat.beq_refl, cond_true] at k
          simp only [if_true]; exact hK _ _ _ _ _ m r' k
        · simp only [nbeq_false e, cond_false] at k
          simp only [e, if_false]; exact hK _ _ _ _ _ m r' k
      | _ => exact hK _ _ _ _ _ m r' k
  | exit id => intro _ st G w act K KP Q h hm hr hK hP; exact wp_exit (hK _ _ _ _ _ hm hr h)
  | ret => intro _ st G w act K KP Q h hm hr hK hP; exact wp_ret (hK _ _ _ _ _ hm hr h)
  | _ => intro _ st G w act K KP Q h; cases h
end
end Go.Fx
