/- Parts: Fx34, Fx35, Fx36, Fx37, Fx38, Fx39, Fx40, Fx41, Fx19, Fx20, Fx21, Fx22, Fx23, Fx24, Fx25. -/
import Derived.Test.YtafpgfdjfnoagaaDoorFxb
/- The framework: an operation that only reads, carried out. -/
namespace Go.Fx
set_option linter.unusedVariables false
set_option linter.unusedSimpArgs false

section
variable {P : Program} {E : Env} (hE : TabOk P E.tab) {X : Ctx} {st : St} {G : Gh} {w : World}
include hE

theorem still_ok {o : Oper} {act : Act} {v : AVal} (hs : isStill o.op = true) (hd : dynOk E o st = true) (h : out1 E o st = some ⟨v, st, true⟩) (hg0 : GlobIn E.gt X.S0) (hm : RelM X st G w) (hr : RelR G st act) :
    ∃ u G', (execOp act.eval o).run P w = .ok (.value u) w ∧ RelM X st G' w ∧ (∀ a, RelR G st a → RelR G' st a) ∧ RelV G' v u := by
  have hg : GlobIn E.gt G.S := hg0.mono hm.s0
  have simple : ∀ {s : Sem Value}, (∃ av u, s.run P w = .ok u w ∧ RelV G av u ∧ vOut av st = some ⟨v, st, true⟩) → (execOp act.eval o = do pure (.value (← s))) →
      ∃ u G', (execOp act.eval o).run P w = .ok (.value u) w ∧ RelM X st G' w ∧ (∀ a, RelR G st a → RelR G' st a) ∧ RelV G' v u := fun {s} ⟨av, u, h1, h2, h3⟩ he => by
    simp only [vOut, Option.some.injEq, Out.mk.injEq] at h3
    exact ⟨u, G, by rw [he, Sem.run_bind, h1]; rfl, hm, fun _ h => h, by rw [← h3.1]; exact h2⟩
  have here : ∀ {av : AVal} {u : Value}, vOut av st = some ⟨v, st, true⟩ → RelV G av u → (execOp act.eval o).run P w = .ok (.value u) w →
      ∃ u G', (execOp act.eval o).run P w = .ok (.value u) w ∧ RelM X st G' w ∧ (∀ a, RelR G st a → RelR G' st a) ∧ RelV G' v u := fun {av u} h3 h2 he => by
    simp only [vOut, Option.some.injEq, Out.mk.injEq] at h3
    exact ⟨u, G, he, hm, fun _ h => h, by rw [← h3.1]; exact h2⟩
  unfold out1 exec1 at h
  split at h <;> rename_i ho <;> simp only [ho, isStill, Bool.false_eq_true] at hs
  · rename_i x
    exact here h (ev_ok hg hr x) (by simp [execOp, ho])
  · rename_i x
    exact here h (ev_ok hg hr x) (by simp [execOp, ho])
  · rename_i c a b
    cases hc : (ev E st c).bool? with
    | none => simp [hc] at h
    | some b' =>
      simp only [hc] at h
      have hb := boolof hc (ev_ok hg hr c)
      cases b' with
      | true => simp only [cond_true] at h; exact here h (ev_ok hg hr a) (by simp only [execOp, ho, hb]; rfl)
      | false => simp only [cond_false] at h; exact here h (ev_ok hg hr b) (by simp only [execOp, ho, hb]; rfl)
  · rename_i x
    have hx := ev_ok hg hr x
    have key : (∃ a, act.eval x = .pointer (some a)) → vOut (ev E st x) st = some ⟨v, st, true⟩ → ∃ u G', (execOp act.eval o).run P w = .ok (.value u) w ∧ RelM X st G' w ∧ (∀ a, RelR G st a → RelR G' st a) ∧ RelV G' v u := fun ⟨a, ha⟩ hk =>
      here hk hx (by simp only [execOp, ho, ha]; rfl)
    cases hv : ev E st x with
    | one l =>
      rw [hv] at h hx key
      cases l with
      | ptr ob off => exact key ⟨_, hx⟩ (by simpa [AVal.leaf] using h)
      | elt a sz i off => obtain ⟨b, len, cap, h1, h2, h3⟩ := hx; exact key ⟨_, h3⟩ (by simpa [AVal.leaf] using h)
      | she t d off => obtain ⟨b, arr, elem, fz, pre, cs, post, h1, h2, h3, h4⟩ := hx; exact key ⟨_, h4⟩ (by simpa [AVal.leaf] using h)
      | _ => simp [AVal.leaf] at h
    | _ => rw [hv] at h; simp [AVal.leaf] at h
  · rename_i T parts
    refine simple (opBuild_ok hE h hm (map_ev2 hg hr _)) ?_
    have : (List.map (fun p => (p.1, act.eval p.2)) parts.toList).toArray = parts.map fun (i, x) => (i, act.eval x) := by rw [← Array.toList_map]
    rw [this]
    simp only [execOp, ho]
  · rename_i T x
    exact simple (opLoad_ok hE h hm (ev_ok hg hr x)) (by simp only [execOp, ho])
  · rename_i op T x y u
    exact simple (opBin_ok hE h hm (ev_ok hg hr x) (ev_ok hg hr y)) (by simp only [execOp, ho]; rfl)
  · rename_i op T x
    exact simple (opUn_ok h (ev_ok hg hr x)) (by simp only [execOp, ho])
  · rename_i S D x
    exact simple (opConvert_ok hE h hm (ev_ok hg hr x)) (by simp only [execOp, ho])
  · rename_i T x lo hi mx
    have opt : ∀ (q : Option Operand), (∀ a, q.map (ev E st) = some a → ∃ v, q.map act.eval = some v ∧ RelV G a v) ∧ (q.map (ev E st) = none → q.map act.eval = none) := fun q => by
      cases q with
      | none => simp
      | some x => simp; exact ev_ok hg hr x
    obtain ⟨av, u, st', G', h1, h2, h3, h4, h5⟩ := opSlice_ok hE h hm (ev_ok hg hr x) (opt lo).1 (opt lo).2 (opt hi).1 (opt hi).2 (opt mx).2
    simp only [vOut, Option.some.injEq, Out.mk.injEq, and_true] at h5
    obtain ⟨rfl, rfl⟩ := h5
    exact ⟨u, G', by simp only [execOp, ho, Sem.run_bind, h1]; rfl, h2, h3, h4⟩
  · rename_i T x f
    exact simple (opFieldAddr_ok hE h (ev_ok hg hr x)) (by simp only [execOp, ho])
  · rename_i T x f
    cases ha : (ev E st x).isAgg with
    | false => simp [ha] at h
    | true =>
      simp only [ha, cond_true] at h
      exact simple (opField_ok hE h hm (ev_ok hg hr x) (isAgg_ok ha (ev_ok hg hr x))) (by simp only [execOp, ho])
  · rename_i T x i
    exact simple (opIndexAddr_ok hE h hm (ev_ok hg hr x) (ev_ok hg hr i)) (by simp only [execOp, ho])
  · rename_i T x i
    exact simple (opIndex_ok hE h (ev_ok hg hr x) (ev_ok hg hr i)) (by simp only [execOp, ho])
  · rename_i x n
    have hx := ev_ok hg hr x
    split at h
    · rename_i vs hv
      rw [hv] at hx
      obtain ⟨us, hu, ha⟩ := hx
      cases hn : vs[n]? with
      | none => simp [hn] at h
      | some p =>
        simp only [hn] at h
        obtain ⟨u, hu2, hp⟩ := ha.get hn
        refine simple (s := Instr.extract (act.eval x) n) ⟨_, u, by simp [Instr.extract, hu, hu2], ?_, h⟩ (by simp only [execOp, ho])
        unfold packV
        split at hp
        · rename_i hc; simp only [hc, cond_true]; exact hp
        · rename_i hc
          obtain ⟨l, e, hl⟩ := hp
          simp only [Bool.not_eq_true] at hc
          simp only [hc, cond_false, e]; exact hl
    · cases h
  · rename_i c
    split at h
    · rename_i b hb
      simp only [hb] at hs
      have hargs := map_ev hg hr c.args.toList
      obtain ⟨cs0, hcs⟩ : ∃ cs0, (execOp act.eval o).run P w = (builtin b c.argTypes o.type cs0 (c.args.map act.eval)).run P w :=
        ⟨_, by simp only [execOp, ho, resolve, hb, Sem.run_bind, Sem.run_pure, Result.andThen_ok, invoke]; rfl⟩
      have e1 : (List.map act.eval c.args.toList).toArray = c.args.map act.eval := by rw [← Array.toList_map]
      have e2 : c.argTypes.toList.toArray = c.argTypes := by simp
      rw [← e1, ← e2] at hcs
      revert h hcs hargs
      generalize c.args.toList.map (ev E st) = vs
      generalize c.args.toList.map act.eval = us
      generalize c.argTypes.toList = ts
      intro h hargs hcs
      unfold opBuiltin at h
      split at h
      · rename_i v'
        obtain ⟨u, rfl⟩ : ∃ u, us = [u] := by
          cases us with
          | nil => exact hargs.elim
          | cons u us => cases us with
            | nil => exact ⟨u, rfl⟩
            | cons _ _ => exact hargs.2.elim
        cases ts with
        | nil => simp at h
        | cons t ts =>
          simp only [List.getElem?_cons_zero, Option.bind_some] at h
          split at h
          · rename_i hT
            split at h
            · rename_i s hs
              cases strof hs hargs.1
              have hu := (hE _ _ hT).str
              exact here h (relInt .i64 _) (by rw [hcs]; simp [builtin, Builtin.len_, run_underlying hu, strV, goInt]; rfl)
            · cases h
          · rename_i hT
            split at h
            · rename_i n hn hs
              obtain ⟨a, m, c, hv', rfl⟩ := opLen_ok hE hn hs hm hargs.1
              exact here h (relInt .i64 _) (by rw [hcs]; simp only [builtin, Sem.run_bind, run_len hE hT hv', Result.andThen_ok, Sem.run_pure])
            · cases h
          · cases h
      · simp at hs
      · rename_i v' vs
        cases us with
        | nil => exact hargs.elim
        | cons u us =>
          split at h
          · rename_i k a hi
            split at h
            · rename_i n hn
              cases intof hi hargs.1
              exact here h (relInt _ _) (by rw [hcs]; simp only [builtin, Builtin.min_, Sem.run_bind, fold_min hn hargs.2, Result.andThen_ok, Sem.run_pure])
            · cases h
          · cases h
      · rename_i v' vs
        cases us with
        | nil => exact hargs.elim
        | cons u us =>
          split at h
          · rename_i k a hi
            split at h
            · rename_i n hn
              cases intof hi hargs.1
              exact here h (relInt _ _) (by rw [hcs]; simp only [builtin, Builtin.max_, Sem.run_bind, fold_max hn hargs.2, Result.andThen_ok, Sem.run_pure])
            · cases h
          · cases h
      · cases h
    · rename_i f hf; simp only [hf, Bool.false_eq_true] at hs
    · cases h
  · rename_i T x
    cases hT : E.tab T with
    | none => simp [hT] at h
    | some ti =>
      simp only [hT] at h
      obtain ⟨d, u1, u2⟩ := (hE T ti hT).und
      split at h
      · cases h
      · rename_i ls hl hd
        refine simple (s := Instr.makeInterface T (act.eval x)) ⟨.ifc T ls, .iface T (act.eval x), ?_, ⟨_, _, rfl, rfl, leaves_ok hm hl (ev_ok hg hr x)⟩, h⟩ (by simp only [execOp, ho])
        simp only [Instr.makeInterface, Sem.run_bind, run_underlying u1, Result.andThen_ok]
        generalize ti.desc = q at u2 hd
        cases d with
        | interface _ => cases q <;> first | exact u2.elim | exact (hd rfl).elim
        | _ => rfl
      · cases h
end
end Go.Fx

/- The framework: a region that draws its order comes, in whatever order, to what it comes to in the order in which reading goes first. -/
namespace Go.Fx
set_option linter.unusedVariables false
set_option linter.unusedSimpArgs false

theorem memN_iff : ∀ {x : Nat} {l : List Nat}, memN x l = true ↔ x ∈ l
  | x, [] => by simp [memN]
  | x, y :: r => by
    simp only [memN, Bool.or_eq_true, List.mem_cons, memN_iff (l := r)]
    constructor
    · rintro (h | h)
      · exact .inl (Nat.eq_of_beq_eq_true h)
      · exact .inr h
    · rintro (h | h)
      · left; subst h; simp
      · exact .inr h
theorem eb_binds (e : Edge) : eb e = Region.binds .any e := by
  unfold eb Region.binds
  cases e.ground <;> rfl

/-! ### Who waits for whom -/
def After (all : List Oper) (i k : Nat) : Prop := ∃ o, all[i]? = some o ∧ ∃ e ∈ o.after, eb e = true ∧ e.on = k
def Clo (all : List Oper) (L : Nat → Prop) : Prop := ∀ i k, L i → After all i k → L k
inductive Reach (all : List Oper) : Nat → Nat → Prop where
  | one {i k : Nat} : After all i k → Reach all i k
  | more {i j k : Nat} : After all i j → Reach all j k → Reach all i k
theorem Clo.reach {all : List Oper} {L : Nat → Prop} (h : Clo all L) {i k : Nat} (r : Reach all i k) : L i → L k := by
  induction r with
  | one a => exact fun hi => h _ _ hi a
  | more a _ ih => exact fun hi => ih (h _ _ hi a)
theorem Clo.ready {all : List Oper} {L : Nat → Prop} (h : Clo all L) {i k : Nat} (hi : ∀ k, After all i k → L k) (r : Reach all i k) : L k := by
  cases r with
  | one a => exact hi _ a
  | more a r => exact h.reach r (hi _ a)

theorem uniN_mem {k : Nat} : ∀ {l m : List Nat}, k ∈ uniN l m → k ∈ l ∨ k ∈ m
  | [], m, h => .inr h
  | x :: r, m, h => by
    simp only [uniN] at h
    cases hb : memN x m with
    | true =>
      simp only [hb, cond_true] at h
      rcases uniN_mem h with h | h
      · exact .inl (List.mem_cons_of_mem _ h)
      · exact .inr h
    | false =>
      simp only [hb, cond_false] at h
      rcases uniN_mem h with h | h
      · exact .inl (List.mem_cons_of_mem _ h)
      · rcases List.mem_cons.1 h with rfl | h
        · exact .inl (List.mem_cons_self ..)
        · exact .inr h
theorem foldA_mem {acc : List (List Nat)} {k : Nat} : ∀ {l : List Edge} {m : List Nat}, k ∈ l.foldl (fun m e => bif eb e then uniN (e.on :: acc.getD e.on []) m else m) m →
    k ∈ m ∨ ∃ e ∈ l, eb e = true ∧ (k = e.on ∨ k ∈ acc.getD e.on [])
  | [], m, h => .inl h
  | e :: l, m, h => by
    rw [List.foldl_cons] at h
    rcases foldA_mem h with h | ⟨e', h1, h2, h3⟩
    · cases hb : eb e with
      | false => simp only [hb, cond_false] at h; exact .inl h
      | true =>
        simp only [hb, cond_true] at h
        rcases uniN_mem h with h | h
        · refine .inr ⟨e, List.mem_cons_self .., hb, ?_⟩
          rcases List.mem_cons.1 h with h | h
          · exact .inl h
          · exact .inr h
        · exact .inl h
    · exact .inr ⟨e', List.mem_cons_of_mem _ h1, h2, h3⟩
theorem ancs_go {all : List Oper} : ∀ (rest pre : List Oper) (acc : List (List Nat)), all = pre ++ rest → acc.length = pre.length → (∀ i k, k ∈ acc.getD i [] → Reach all i k) →
    ∀ i k, k ∈ (ancs rest acc).getD i [] → Reach all i k
  | [], pre, acc, _, _, h, i, k, hk => h i k hk
  | o :: r, pre, acc, hall, hlen, h, i, k, hk => by
    simp only [ancs] at hk
    refine ancs_go r (pre ++ [o]) _ (by rw [hall]; simp) (by simp [hlen]) (fun i k hk => ?_) i k hk
    rcases Nat.lt_trichotomy i acc.length with hi | hi | hi
    · rw [List.getD_eq_getElem?_getD, List.getElem?_append_left hi, ← List.getD_eq_getElem?_getD] at hk
      exact h i k hk
    · subst hi
      simp only [List.getD_eq_getElem?_getD, List.getElem?_concat_length, Option.getD_some] at hk
      rcases foldA_mem hk with hk | ⟨e, h1, h2, h3⟩
      · cases hk
      · have ha : After all acc.length e.on := ⟨o, by rw [hall, hlen]; simp, e, by simpa using h1, h2, rfl⟩
        rcases h3 with rfl | h3
        · exact .one ha
        · exact .more ha (h _ _ (by rw [List.getD_eq_getElem?_getD]; simpa [List.getD_eq_getElem?_getD] using h3))
    · rw [List.getD_eq_getElem?_getD, List.getElem?_eq_none (by simp; omega)] at hk
      cases hk
theorem ancs_ok {all : List Oper} {i k : Nat} (h : k ∈ (ancs all []).getD i []) : Reach all i k :=
  ancs_go all [] [] rfl rfl (fun i k h => by simp at h) i k h

theorem rdy_iff {all : List Oper} {done : List Nat} {i : Nat} : rdy all done i = true ↔ i ∉ done ∧ ∃ o, all[i]? = some o ∧ ∀ e ∈ o.after, eb e = true → e.on ∈ done := by
  unfold rdy
  cases ho : all[i]? with
  | none => simp
  | some o =>
    simp only [Bool.and_eq_true, Bool.not_eq_true', List.all_eq_true, Bool.or_eq_true, Option.some.injEq, exists_eq_left']
    constructor
    · rintro ⟨h1, h2⟩
      refine ⟨(fun h => (by rw [memN_iff.2 h] at h1; cases h1)), fun e he hb => ?_⟩
      rcases h2 e (by simpa using he) with h | h
      · rw [hb] at h; cases h
      · exact memN_iff.1 h
    · rintro ⟨h1, h2⟩
      refine ⟨(by
        cases hm : memN i done with
        | false => rfl
        | true => exact absurd (memN_iff.1 hm) h1), fun e he => ?_⟩
      cases hb : eb e with
      | false => exact .inl rfl
      | true => exact .inr (memN_iff.2 (h2 e (by simpa using he) hb))

theorem mem_rdy {all : List Oper} {done : List Nat} {k : Nat} : k ∈ (List.range all.length).filter (rdy all done) ↔ rdy all done k = true := by
  rw [List.mem_filter, List.mem_range]
  refine ⟨fun h => h.2, fun h => ⟨?_, h⟩⟩
  obtain ⟨_, o, ho, _⟩ := rdy_iff.1 h
  exact (List.getElem?_eq_some_iff.1 ho).1
theorem canons_ne {all : List Oper} {A : List (List Nat)} : ∀ {n : Nat} {done : List Nat}, ∃ l, l ∈ canons all A n done
  | 0, _ => ⟨[], List.mem_singleton.2 rfl⟩
  | n + 1, done => by
    simp only [canons]
    split
    · exact ⟨[], List.mem_singleton.2 rfl⟩
    · rename_i i r _
      split
      · rename_i k _
        obtain ⟨l, hl⟩ := canons_ne (all := all) (A := A) (n := n) (done := k :: done)
        exact ⟨k :: l, List.mem_map_of_mem hl⟩
      · obtain ⟨l, hl⟩ := canons_ne (all := all) (A := A) (n := n) (done := i :: done)
        exact ⟨i :: l, List.mem_flatMap.2 ⟨i, List.mem_cons_self .., List.mem_map_of_mem hl⟩⟩
theorem still_turn {all : List Oper} {A : List (List Nat)} {k : Nat} : still all A k = true ↔ ∃ o, all[k]? = some o ∧ inTurn all A k o = false := by
  unfold still
  cases h : all[k]? with
  | none => simp
  | some o => simp
end Go.Fx

/- The framework: the steps of such a region, one by one. -/
namespace Go.Fx
set_option linter.unusedVariables false
set_option linter.unusedSimpArgs false

theorem RelR.put {G : Gh} {st : St} {act : Act} {d : Tmp} {av : AVal} {v : Value} (hr : RelR G st act) (hd : d < st.n) (hv : RelV G av v) : RelR G (st.setReg d av) (act.put (some d) v) := by
  obtain ⟨h1, h2, h3⟩ := hr
  refine ⟨h1, by simp [Act.put, h2, St.setReg], fun i x hx => ?_⟩
  rw [reg_setReg] at hx
  simp only [Act.put]
  by_cases e : d = i
  · subst e
    simp only [if_true, Option.some.injEq] at hx
    subst hx
    have : d < act.tmps.size := by rw [h2]; exact hd
    simpa [Array.getD, this] using hv
  · simp only [e, if_false] at hx
    have := h3 i x hx
    simpa [Array.getD_eq_getD_getElem?, Array.getElem?_setIfInBounds, e] using this

theorem RelR.refine {G : Gh} {st : St} {act : Act} {d : Nat} {av : AVal} (hr : RelR G st act) (hv : RelV G av (act.tmps.getD d undef)) : RelR G (st.setReg d av) act := by
  obtain ⟨h1, h2, h3⟩ := hr
  refine ⟨h1, h2, fun i x hx => ?_⟩
  rw [reg_setReg] at hx
  by_cases e : d = i
  · subst e; simp only [if_true, Option.some.injEq] at hx; subst hx; exact hv
  · simp only [e, if_false] at hx; exact h3 i x hx

theorem RelM.setReg {X : Ctx} {st : St} {G : Gh} {w : World} (hm : RelM X st G w) (d : Nat) (av : AVal) : RelM X (st.setReg d av) G w :=
  { sl := hm.sl, sh := hm.sh, ob := fun o ls h => by
      obtain ⟨arr, elem, mid, g1, g2, g3⟩ := hm.ob o ls h
      refine ⟨arr, elem, mid, g1, g2, ?_⟩
      unfold LeavesRel at g3 ⊢
      rw [resl_congr (st := st) (fun j l => by simp)]; exact g3
    ar := hm.ar, ah := hm.ah, nd := hm.nd, dis := hm.dis, dS := hm.dS, inn := hm.inn, s0 := hm.s0, sn := hm.sn, fr := hm.fr, sz := hm.sz, os := hm.os, tp := hm.tp, out := hm.out, pin := hm.pin, bv := hm.bv }

/-- What is put into a temporary. -/
def putO (d : Option Tmp) (v : AVal) (st : St) : Option St := putK d v st some
theorem putK_some {d : Option Tmp} {v : AVal} {st : St} {R : Type} {r : R} {K : St → Option R} (h : putK d v st K = some r) : ∃ s, putO d v st = some s ∧ K s = some r := by
  cases d with
  | none => exact ⟨st, rfl, h⟩
  | some d =>
    simp only [putO, putK] at h ⊢
    cases hc : ((look st.bregs d).isSome || Nat.ble st.n d) with
    | true => simp [hc] at h
    | false => simp only [hc, cond_false] at h ⊢; exact ⟨_, rfl, h⟩
theorem putO_spec {d : Option Tmp} {v : AVal} {st s : St} (h : putO d v st = some s) :
    Base st s ∧ s.objs = st.objs ∧ s.arrs = st.arrs ∧ (∀ t, (∀ e, d = some e → e ≠ t) → s.reg t = st.reg t) ∧ (∀ e, d = some e → s.reg e = some v ∧ e < st.n) := by
  cases d with
  | none => simp only [putO, putK, Option.some.injEq] at h; subst h; exact ⟨.refl _, rfl, rfl, fun _ _ => rfl, fun _ h => by cases h⟩
  | some d =>
    simp only [putO, putK] at h
    cases hc : ((look st.bregs d).isSome || Nat.ble st.n d) with
    | true => simp [hc] at h
    | false =>
      simp only [hc, cond_false, Option.some.injEq] at h
      subst h
      simp only [Bool.or_eq_false_iff] at hc
      refine ⟨⟨rfl, rfl, rfl, rfl⟩, rfl, rfl, fun t ht => by rw [reg_setReg, if_neg (ht d rfl)], fun e he => ?_⟩
      cases he
      refine ⟨by rw [reg_setReg, if_pos rfl], ?_⟩
      rcases Nat.lt_or_ge d st.n with h | h
      · exact h
      · have := Nat.ble_eq_true_of_le h; rw [this] at hc; cases hc.2
theorem putO_rel {d : Option Tmp} {v : AVal} {st s : St} (h : putO d v st = some s) {X : Ctx} {G : Gh} {w : World} (hm : RelM X st G w) : RelM X s G w := by
  cases d with
  | none => simp only [putO, putK, Option.some.injEq] at h; subst h; exact hm
  | some d =>
    simp only [putO, putK] at h
    cases hc : ((look st.bregs d).isSome || Nat.ble st.n d) with
    | true => simp [hc] at h
    | false => simp only [hc, cond_false, Option.some.injEq] at h; subst h; exact hm.setReg d v
theorem putO_reg {d : Option Tmp} {v : AVal} {u : Value} {st s : St} (h : putO d v st = some s) {G : Gh} {act : Act} (hr : RelR G st act) (hv : RelV G v u) : RelR G s (act.put d u) := by
  cases d with
  | none => simp only [putO, putK, Option.some.injEq] at h; subst h; exact hr
  | some d =>
    obtain ⟨_, _, _, _, h5⟩ := putO_spec h
    have hd := (h5 d rfl).2
    simp only [putO, putK] at h
    cases hc : ((look st.bregs d).isSome || Nat.ble st.n d) with
    | true => simp [hc] at h
    | false => simp only [hc, cond_false, Option.some.injEq] at h; subst h; exact hr.put hd hv
end Go.Fx

/- The framework: whatever order is drawn. -/
namespace Go.Fx
set_option linter.unusedVariables false
set_option linter.unusedSimpArgs false

def SameRegs (st s : St) : Prop := Base st s ∧ s.objs = st.objs ∧ s.arrs = st.arrs ∧ ∀ t, s.reg t = st.reg t
theorem SameRegs.refl (st : St) : SameRegs st st := ⟨.refl _, rfl, rfl, fun _ => rfl⟩
theorem sameRegs_set {st : St} {g : Nat} {v : AVal} (h : st.reg g = some v) : SameRegs st (st.setReg g v) :=
  ⟨⟨rfl, rfl, rfl, rfl⟩, rfl, rfl, fun t => by
    rw [reg_setReg]
    by_cases e : g = t
    · subst e; rw [if_pos rfl, h]
    · rw [if_neg e]⟩
theorem SameRegs.rel {st s : St} (h : SameRegs st s) {X : Ctx} {G : Gh} {w : World} (hm : RelM X st G w) : RelM X s G w := by
  obtain ⟨⟨h1, h2, h3, h4⟩, h5, h6, h7⟩ := h
  have ho : ∀ o, s.obj o = st.obj o := fun o => by simp only [St.obj, h5]
  have ha : ∀ a, s.arr a = st.arr a := fun a => by simp only [St.arr, h6, h4]
  have hres : ∀ o j l, s.res o j l = st.res o j l := fun o j l => by cases l <;> simp [St.res, h3]
  have hown : ∀ x b, Owns G s x b → Owns G st x b := fun x b hx => by
    obtain ⟨k, n⟩ := x
    cases k with
    | false => obtain ⟨⟨ls, e⟩, e2⟩ := hx; exact ⟨⟨ls, by rw [← ho]; exact e⟩, e2⟩
    | true => obtain ⟨⟨A, e, e2⟩, e3⟩ := hx; exact ⟨⟨A, by rw [← ha]; exact e, e2⟩, e3⟩
  exact { sl := hm.sl, sh := hm.sh, ob := fun o ls h => (by
            obtain ⟨arr, elem, mid, g1, g2, g3⟩ := hm.ob o ls (by rw [← ho]; exact h)
            refine ⟨arr, elem, mid, g1, g2, ?_⟩
            unfold LeavesRel at g3 ⊢
            rw [resl_congr (st := st) (fun j l => hres o j l)]; exact g3)
          ar := fun a A h => hm.ar a A (by rw [← ha]; exact h), ah := fun a A h => hm.ah a A (by rw [← ha]; exact h), nd := fun a A h => hm.nd a A (by rw [← ha]; exact h)
          dis := fun x y b hx hy => hm.dis x y b (hown x b hx) (hown y b hy), dS := fun x b hx => hm.dS x b (hown x b hx), inn := fun x b hx => hm.inn x b (hown x b hx)
          s0 := hm.s0, sn := hm.sn, fr := hm.fr, sz := hm.sz, os := hm.os, tp := hm.tp, out := hm.out
          pin := fun o p h => (by obtain ⟨⟨ls, e⟩, e2⟩ := hm.pin o p h; exact ⟨⟨ls, by rw [ho]; exact e⟩, e2⟩)
          bv := fun o j u h => (by obtain ⟨e1, ⟨ls, e2, e3⟩, e4⟩ := hm.bv o j u h; exact ⟨by rw [h3]; exact e1, ⟨ls, by rw [ho]; exact e2, e3⟩, e4⟩) }
theorem SameRegs.regs {st s : St} (h : SameRegs st s) {G : Gh} {act : Act} (hr : RelR G st act) : RelR G s act :=
  ⟨hr.1, hr.2.1.trans h.1.1.symm, fun i v hv => hr.2.2 i v (by rw [← h.2.2.2]; exact hv)⟩

section
variable (E : Env) (all : List Oper)
def Wnt (o : Oper) (s : St) : Prop := o.guard = none ∨ ∃ j want g, o.guard = some (j, want) ∧ guardDst all j = some g ∧ s.reg g = some (.one (.dat .bool want))
def Unw (o : Oper) (s : St) : Prop := ∃ j want g, o.guard = some (j, want) ∧ guardDst all j = some g ∧ (s.reg g = some (.one .und) ∨ s.reg g = some (.one (.dat .bool (!want))))

/-- What one step of such a run comes to. -/
def StepC (i : Nat) (log : List (Nat × List Pat)) (st : St) (next : List (Nat × List Pat) → St → Prop) (KPok : AVal → St → Prop) : Prop :=
  ∃ o, all[i]? = some o ∧ ∃ st0, SameRegs st st0 ∧
    ((Unw all o st0 ∧ ∃ s, putO o.dst (.one .und) st0 = some s ∧ next log s) ∨
     (Wnt all o st0 ∧
      (inTurn all (ancs all []) i o = true → log.all (fun p => memN p.1 ((ancs all []).getD i []) || apartAll p.2 (writes E o st0)) = true ∧
        ∃ u, out1 E o st0 = some u ∧ (u.ok = true → ∃ s, putO o.dst u.v u.s = some s ∧ next log s) ∧ (u.ok = false → KPok u.v u.s)) ∧
      (inTurn all (ancs all []) i o = false → dynOk E o st0 = true ∧ ∃ v, out1 E o st0 = some ⟨v, st0, true⟩ ∧ ∃ s, putO o.dst v st0 = some s ∧ next ((i, reads E o st0) :: log) s)))
/-- What the run comes to, in each order that may be drawn. -/
def CanT (Kok : St → Prop) (KPok : AVal → St → Prop) : Nat → List Nat → List (Nat × List Pat) → St → Prop
  | 0, _, _, st => Kok st
  | n + 1, done, log, st => (match (List.range all.length).filter (rdy all done) with
    | [] => Kok st
    | i :: r => (match (i :: r).find? (still all (ancs all [])) with
      | some k => StepC E all k log st (CanT Kok KPok n (k :: done)) KPok
      | none => ∀ k ∈ i :: r, StepC E all k log st (CanT Kok KPok n (k :: done)) KPok))
theorem StepC.mono {i : Nat} {log : List (Nat × List Pat)} {st : St} {next next' : List (Nat × List Pat) → St → Prop} {KPok KPok' : AVal → St → Prop} (h : StepC E all i log st next KPok) (hn : ∀ lg s, next lg s → next' lg s) (hp : ∀ v s, KPok v s → KPok' v s) : StepC E all i log st next' KPok' := by
  obtain ⟨o, h1, st0, h2, h3⟩ := h
  refine ⟨o, h1, st0, h2, ?_⟩
  rcases h3 with ⟨h3, s1, h4, h5⟩ | ⟨h3, h4, h5⟩
  · exact .inl ⟨h3, s1, h4, hn _ _ h5⟩
  · refine .inr ⟨h3, fun ht => ?_, fun ht => ?_⟩
    · obtain ⟨g1, u, g2, g3, g4⟩ := h4 ht
      exact ⟨g1, u, g2, fun hu => (by obtain ⟨s1, g5, g6⟩ := g3 hu; exact ⟨s1, g5, hn _ _ g6⟩), fun hu => hp _ _ (g4 hu)⟩
    · obtain ⟨g1, v, g2, s1, g3, g4⟩ := h5 ht
      exact ⟨g1, v, g2, s1, g3, hn _ _ g4⟩
theorem CanT.mono {Kok Kok' : St → Prop} {KPok KPok' : AVal → St → Prop} (hk : ∀ s, Kok s → Kok' s) (hp : ∀ v s, KPok v s → KPok' v s) : ∀ {n : Nat} {done : List Nat} {log : List (Nat × List Pat)} {st : St}, CanT E all Kok KPok n done log st → CanT E all Kok' KPok' n done log st
  | 0, _, _, _, h => hk _ h
  | n + 1, done, log, st, h => by
    unfold CanT at h ⊢
    split
    · rename_i hf; rw [hf] at h; exact hk _ h
    · rename_i i r hf
      rw [hf] at h
      simp only at h
      split
      · rename_i k hk'; rw [hk'] at h; exact h.mono E all (fun lg s => CanT.mono hk hp) hp
      · rename_i hk'; rw [hk'] at h; exact fun k hkm => (h k hkm).mono E all (fun lg s => CanT.mono hk hp) hp

/-- How a point of such a run looks. -/
inductive Turn (n : Nat) (done : List Nat) : Prop where
  | fin : canons all (ancs all []) n done = [[]] → (∀ Kok KPok log st, CanT E all Kok KPok n done log st → Kok st) → ((∀ i, rdy all done i = false) ∨ n = 0) → Turn n done
  | still (m k : Nat) : n = m + 1 → rdy all done k = true → (∀ o, all[k]? = some o → inTurn all (ancs all []) k o = false) → (∀ r ∈ canons all (ancs all []) m (k :: done), k :: r ∈ canons all (ancs all []) n done) →
      (∀ Kok KPok log st, CanT E all Kok KPok n done log st → StepC E all k log st (CanT E all Kok KPok m (k :: done)) KPok) → Turn n done
  | turn (m : Nat) : n = m + 1 → (∃ k, rdy all done k = true) → (∀ k, rdy all done k = true → (∀ o, all[k]? = some o → inTurn all (ancs all []) k o = true) ∧ (∀ r ∈ canons all (ancs all []) m (k :: done), k :: r ∈ canons all (ancs all []) n done) ∧
      (∀ Kok KPok log st, CanT E all Kok KPok n done log st → StepC E all k log st (CanT E all Kok KPok m (k :: done)) KPok)) → Turn n done
/-- A point where nothing is to be told ahead. -/
def Head (n : Nat) (done : List Nat) : Prop := (canons all (ancs all []) n done = [[]] ∧ ∀ Kok KPok log st, CanT E all Kok KPok n done log st → Kok st) ∨
  ∃ m, n = m + 1 ∧ (∃ k, rdy all done k = true) ∧ ∀ k, rdy all done k = true → (∀ o, all[k]? = some o → inTurn all (ancs all []) k o = true) ∧ (∀ r ∈ canons all (ancs all []) m (k :: done), k :: r ∈ canons all (ancs all []) n done) ∧
      (∀ Kok KPok log st, CanT E all Kok KPok n done log st → StepC E all k log st (CanT E all Kok KPok m (k :: done)) KPok)
theorem turn_of (n : Nat) (done : List Nat) : Turn E all n done := by
  cases n with
  | zero => exact .fin rfl (fun _ _ _ _ h => h) (.inr rfl)
  | succ n =>
    cases hf : (List.range all.length).filter (rdy all done) with
    | nil =>
      refine .fin (by simp only [canons, hf]) (fun _ _ _ _ h => by unfold CanT at h; rw [hf] at h; exact h) (.inl fun i => ?_)
      cases hr : rdy all done i with
      | false => rfl
      | true => have := mem_rdy.2 hr; rw [hf] at this; cases this
    | cons i r =>
      cases hs : (i :: r).find? (Go.Fx.still all (ancs all [])) with
      | some k =>
        have hm := List.mem_of_find?_eq_some hs
        rw [← hf] at hm
        obtain ⟨o, h1, h2⟩ := still_turn.1 (List.find?_some hs)
        refine .still n k rfl (mem_rdy.1 hm) (fun o' ho' => by rw [h1] at ho'; cases ho'; exact h2) (fun r' hr' => ?_) (fun _ _ _ _ h => ?_)
        · simp only [canons, hf, hs]; exact List.mem_map_of_mem hr'
        · unfold CanT at h; rw [hf] at h; simp only [hs] at h; exact h
      | none =>
        refine .turn n rfl ⟨i, mem_rdy.1 (by rw [hf]; exact List.mem_cons_self ..)⟩ fun k hk => ?_
        have hm := mem_rdy.2 hk
        rw [hf] at hm
        refine ⟨fun o ho => ?_, fun r' hr' => ?_, fun _ _ _ _ h => ?_⟩
        · cases ht : inTurn all (ancs all []) k o with
          | true => rfl
          | false => exact absurd (still_turn.2 ⟨o, ho, ht⟩) (by have := List.find?_eq_none.1 hs k hm; simpa using this)
        · simp only [canons, hf, hs]; exact List.mem_flatMap.2 ⟨k, hm, List.mem_map_of_mem hr'⟩
        · unfold CanT at h; rw [hf] at h; simp only [hs] at h; exact h k hm
end

section
variable {E : Env} {all : List Oper}

theorem inTurn_still {A : List (List Nat)} {i : Nat} {o : Oper} (h : inTurn all A i o = false) : isStill o.op = true := by
  unfold inTurn at h
  simp only [Bool.or_eq_false_iff, Bool.not_eq_false'] at h
  exact h.1

variable (hD : ∀ f s, E.sem f = some s → SemDet s)
include hD

omit hD in
theorem putK_all {ι : Type} (x0 : ι) {R : Type} {r : R} {d : Option Tmp} {v : AVal} {st : St} {K : ι → St → Option R} (h : ∀ x, putK d v st (K x) = some r) : ∃ s, putO d v st = some s ∧ ∀ x, K x s = some r := by
  obtain ⟨s, h1, _⟩ := putK_some (h x0)
  refine ⟨s, h1, fun x => ?_⟩
  obtain ⟨s', h3, h4⟩ := putK_some (h x)
  rw [h1] at h3
  cases h3; exact h4
theorem step_can {ι : Type} (x0 : ι) {R : Type} {r : R} {i : Nat} {log : List (Nat × List Pat)} {st : St} {K : ι → List (Nat × List Pat) → St → Option R} {KP : AVal → St → Option R} (h : ∀ x, runD1 E all (ancs all []) i log st (K x) KP = some r) :
    StepC E all i log st (fun lg s => ∀ x, K x lg s = some r) (fun v s => KP v s = some r) := by
  simp only [runD1] at h
  split at h
  · cases h x0
  · rename_i o ho
    refine ⟨o, ho, ?_⟩
    have step : ∀ {st0 : St}, (∀ x, stepD E all (ancs all []) i o log st0 (K x) KP = some r) →
        (inTurn all (ancs all []) i o = true → log.all (fun p => memN p.1 ((ancs all []).getD i []) || apartAll p.2 (writes E o st0)) = true ∧
          ∃ u, out1 E o st0 = some u ∧ (u.ok = true → ∃ s, putO o.dst u.v u.s = some s ∧ ∀ x, K x log s = some r) ∧ (u.ok = false → KP u.v u.s = some r)) ∧
        (inTurn all (ancs all []) i o = false → dynOk E o st0 = true ∧ ∃ v, out1 E o st0 = some ⟨v, st0, true⟩ ∧ ∃ s, putO o.dst v st0 = some s ∧ ∀ x, K x ((i, reads E o st0) :: log) s = some r) := fun {st0} h => by
      unfold stepD at h
      constructor
      · intro ht
        simp only [ht, cond_true] at h
        cases hl : (log.all fun p => memN p.1 ((ancs all []).getD i []) || apartAll p.2 (writes E o st0)) with
        | false => simp only [hl, cond_false] at h; cases h x0
        | true =>
          simp only [hl, cond_true] at h
          obtain ⟨u, h1, _⟩ := exec1_out hD (h x0)
          have h2 : ∀ x, fin (fun v st' => putK o.dst v st' (K x log)) KP u = some r := fun x => by
            obtain ⟨u', h3, h4⟩ := exec1_out hD (h x)
            rw [h1] at h3; cases h3; exact h4
          refine ⟨rfl, u, h1, fun hu => ?_, fun hu => ?_⟩
          · exact putK_all x0 (K := fun x => K x log) fun x => by simpa only [fin, hu, cond_true] using h2 x
          · simpa only [fin, hu, cond_false] using h2 x0
      · intro ht
        simp only [ht, cond_false] at h
        cases hd : dynOk E o st0 with
        | false => simp only [hd, cond_false] at h; cases h x0
        | true =>
          simp only [hd, cond_true] at h
          obtain ⟨u, h1, _⟩ := exec1_out hD (h x0)
          have hu := out1_still hD (inTurn_still ht) hd h1
          have h2 : ∀ x, putK o.dst u.v st0 (K x ((i, reads E o st0) :: log)) = some r := fun x => by
            obtain ⟨u', h3, h4⟩ := exec1_out hD (h x)
            rw [h1] at h3; cases h3
            rw [hu] at h4
            simpa only [fin, cond_true] using h4
          rw [hu] at h1
          exact ⟨rfl, u.v, h1, putK_all x0 (K := fun x => K x ((i, reads E o st0) :: log)) h2⟩
    have skip : ∀ {st0 : St}, (∀ x, putK o.dst (.one .und) st0 (K x log) = some r) → ∃ s, putO o.dst (.one .und) st0 = some s ∧ ∀ x, K x log s = some r := fun {st0} h => putK_all x0 (K := fun x => K x log) h
    split at h
    · rename_i hg
      exact ⟨st, .refl _, .inr ⟨.inl hg, step h⟩⟩
    · rename_i j want hg
      split at h
      · cases h x0
      · rename_i g hgd
        split at h
        · rename_i c hreg
          cases c with
          | true =>
            simp only [cond_true] at h
            have hs := sameRegs_set hreg
            have hre : (st.setReg g (.one (.dat .bool true))).reg g = some (.one (.dat .bool true)) := by rw [reg_setReg, if_pos rfl]
            cases want with
            | true => simp only [cond_true] at h; exact ⟨_, hs, .inr ⟨.inr ⟨j, _, g, hg, hgd, hre⟩, step h⟩⟩
            | false => simp only [cond_false] at h; exact ⟨_, hs, .inl ⟨⟨j, _, g, hg, hgd, .inr hre⟩, skip h⟩⟩
          | false =>
            simp only [cond_false] at h
            have hs := sameRegs_set hreg
            have hre : (st.setReg g (.one (.dat .bool false))).reg g = some (.one (.dat .bool false)) := by rw [reg_setReg, if_pos rfl]
            cases want with
            | true => simp only [cond_true] at h; exact ⟨_, hs, .inl ⟨⟨j, _, g, hg, hgd, .inr hre⟩, skip h⟩⟩
            | false => simp only [cond_false] at h; exact ⟨_, hs, .inr ⟨.inr ⟨j, _, g, hg, hgd, hre⟩, step h⟩⟩
        · rename_i hreg
          exact ⟨st, .refl _, .inl ⟨⟨j, _, g, hg, hgd, .inl hreg⟩, skip h⟩⟩
        · cases h x0
theorem runD_can {R : Type} {r : R} {K : St → Option R} {KP : AVal → St → Option R} : ∀ {n : Nat} {done : List Nat} {log : List (Nat × List Pat)} {st : St}, (∀ l ∈ canons all (ancs all []) n done, runD E all (ancs all []) l log st K KP = some r) →
    CanT E all (fun s => K s = some r) (fun v s => KP v s = some r) n done log st
  | 0, done, log, st, h => h [] (List.mem_singleton.2 rfl)
  | n + 1, done, log, st, h => by
    have one : ∀ k, (∀ l ∈ canons all (ancs all []) n (k :: done), k :: l ∈ canons all (ancs all []) (n + 1) done) → StepC E all k log st (CanT E all (fun s => K s = some r) (fun v s => KP v s = some r) n (k :: done)) (fun v s => KP v s = some r) := fun k hk => by
      obtain ⟨l0, hl0⟩ := canons_ne (all := all) (A := ancs all []) (n := n) (done := k :: done)
      refine (step_can hD (ι := { l // l ∈ canons all (ancs all []) n (k :: done) }) ⟨l0, hl0⟩ (K := fun x lg s => runD E all (ancs all []) x.1 lg s K KP) (fun x => h (k :: x.1) (hk x.1 x.2))).mono E all (fun lg s hn => runD_can fun l hl => hn ⟨l, hl⟩) (fun _ _ h => h)
    unfold CanT
    split
    · rename_i hf
      exact h [] (by simp only [canons, hf]; exact List.mem_singleton.2 rfl)
    · rename_i i r hf
      split
      · rename_i k hs
        exact one k fun l hl => by simp only [canons, hf, hs]; exact List.mem_map_of_mem hl
      · rename_i hs
        exact fun k hkm => one k fun l hl => by simp only [canons, hf, hs]; exact List.mem_flatMap.2 ⟨k, hkm, List.mem_map_of_mem hl⟩
end
end Go.Fx

/- The framework: whatever order is drawn, second part: the walk along any order. -/
namespace Go.Fx
set_option linter.unusedVariables false
set_option linter.unusedSimpArgs false

theorem mem_looks_guard {all : List Oper} {o : Oper} {j g : Nat} {want : Bool} (h : o.guard = some (j, want)) (hg : guardDst all j = some g) : g ∈ looks all o := by
  simp [looks, h, hg]
theorem mem_tmps {t : Nat} : ∀ {l : List Operand}, Operand.tmp t ∈ l → t ∈ tmpsOf l
  | x :: r, h => by
    rcases List.mem_cons.1 h with rfl | h
    · exact List.mem_cons_self ..
    · have := mem_tmps h
      cases x <;> first | exact List.mem_cons_of_mem _ this | exact this
theorem mem_looks_tmp {all : List Oper} {o : Oper} {t : Nat} (h : Operand.tmp t ∈ o.op.operands) : t ∈ looks all o :=
  List.mem_append_right _ (mem_tmps (by simpa using h))
theorem dstIn_iff {o : Oper} {l : List Nat} : dstIn o l = true ↔ ∃ d, o.dst = some d ∧ d ∈ l := by
  unfold dstIn
  cases o.dst with
  | none => simp
  | some d => simp [memN_iff]

/-- What is asked of the operations, once. -/
structure Stat (all : List Oper) : Prop where
  dst : ∀ (i j : Nat) (a b : Oper) (d : Nat), all[i]? = some a → all[j]? = some b → a.dst = some d → b.dst = some d → i = j
  wait : ∀ (i j : Nat) (a b : Oper) (d : Nat), all[i]? = some a → all[j]? = some b → b.dst = some d → d ∈ looks all a → i ≠ j → j ∈ (ancs all []).getD i [] ∨ i ∈ (ancs all []).getD j []
  self : ∀ (i : Nat) (a : Oper) (d : Nat), all[i]? = some a → a.dst = some d → d ∉ looks all a
  sel : ∀ (i : Nat) (a : Oper) cs b, all[i]? = some a → a.op ≠ .select cs b
  low : ∀ (i : Nat) (a : Oper) (e : Edge), all[i]? = some a → e ∈ a.after → eb e = true → e.on < i
theorem dstsOk_ne {all : List Oper} : dstsOk all = true → ∀ (i j : Nat) (a b : Oper) (d : Nat), i < j → all[i]? = some a → all[j]? = some b → a.dst = some d → b.dst ≠ some d := by
  induction all with
  | nil => intro _ i j a b d _ ha; simp at ha
  | cons o r ih =>
    intro h i j a b d hij ha hb hd hbd
    simp only [dstsOk, Bool.and_eq_true, Bool.not_eq_true'] at h
    obtain ⟨j, rfl⟩ : ∃ m, j = m + 1 := ⟨j - 1, by omega⟩
    rw [List.getElem?_cons_succ] at hb
    cases i with
    | zero =>
      rw [List.getElem?_cons_zero, Option.some.injEq] at ha
      subst ha
      have h1 := h.1
      rw [hd] at h1
      have h2 := List.any_eq_false.1 h1 b (List.mem_of_getElem? hb)
      simp [hbd] at h2
    | succ i =>
      rw [List.getElem?_cons_succ] at ha
      exact ih h.2 i j a b d (by omega) ha hb hd hbd
theorem mem_zipIdx_of {all : List Oper} {i : Nat} {a : Oper} (h : all[i]? = some a) : (a, i) ∈ all.zipIdx := by
  rw [List.mem_zipIdx_iff_getElem?]; simpa using h
theorem stat_of {all : List Oper} (h : drawOk all (ancs all []) = true) : Stat all := by
  simp only [drawOk, Bool.and_eq_true] at h
  obtain ⟨⟨⟨h1, h2⟩, h3⟩, h4⟩ := h
  refine ⟨fun i j a b d ha hb hd hd' => ?_, fun i j a b d ha hb hd hl hne => ?_, fun i a d ha hd hl => ?_, fun i a cs b ha => ?_, fun i a e ha he hb => ?_⟩
  · rcases Nat.lt_trichotomy i j with hij | hij | hij
    · exact absurd hd' (dstsOk_ne h1 i j a b d hij ha hb hd)
    · exact hij
    · exact absurd hd (dstsOk_ne h1 j i b a d hij hb ha hd')
  · have := List.all_eq_true.1 (List.all_eq_true.1 h2 _ (mem_zipIdx_of ha)) _ (mem_zipIdx_of hb)
    simp only [Bool.or_eq_true, Bool.not_eq_true'] at this
    rcases this with ((e | e) | e) | e
    · exact absurd (Nat.eq_of_beq_eq_true e) hne
    · rw [dstIn_iff.2 ⟨d, hd, hl⟩] at e; cases e
    · exact .inl (memN_iff.1 e)
    · exact .inr (memN_iff.1 e)
  · have := List.all_eq_true.1 h4 _ (mem_zipIdx_of ha)
    simp only [Bool.and_eq_true, Bool.not_eq_true'] at this
    rw [dstIn_iff.2 ⟨d, hd, hl⟩] at this; cases this.1
  · have := List.all_eq_true.1 h3 a (List.mem_of_getElem? ha)
    intro e
    simp [e] at this
  · have := List.all_eq_true.1 h4 _ (mem_zipIdx_of ha)
    simp only [Bool.and_eq_true, List.all_eq_true, Bool.or_eq_true, Bool.not_eq_true'] at this
    rcases this.2 e (by simpa using he) with h | h
    · rw [hb] at h; cases h
    · simpa [Nat.blt_eq] using h
theorem inTurn_anti {all : List Oper} {i j : Nat} {a b : Oper} {d : Nat} (ha : all[i]? = some a) (hb : all[j]? = some b) (hd : b.dst = some d) (hl : d ∈ looks all a) (hn : j ∉ (ancs all []).getD i []) : inTurn all (ancs all []) j b = true := by
  unfold inTurn
  simp only [Bool.or_eq_true]
  refine .inr (List.any_eq_true.2 ⟨(a, i), mem_zipIdx_of ha, ?_⟩)
  simp only [Bool.and_eq_true, Bool.not_eq_true']
  refine ⟨dstIn_iff.2 ⟨d, hd, hl⟩, ?_⟩
  cases hm : memN j ((ancs all []).getD i []) with
  | false => rfl
  | true => exact absurd (memN_iff.1 hm) hn

/-! ### Frames that differ in what is not looked at -/
section act
variable {all : List Oper} {a b : Act}
def SameOn (T : Nat → Prop) (a b : Act) : Prop := ∀ t, T t → a.tmps[t]? = b.tmps[t]?
theorem eval_same {o : Oper} (h : SameOn (fun t => t ∈ looks all o) a b) : ∀ x ∈ o.op.operands, a.eval x = b.eval x := fun x hx => by
  cases x with
  | tmp t =>
    have := h t (mem_looks_tmp hx)
    simp only [Act.eval, Array.getD_eq_getD_getElem?, this]
  | _ => rfl
theorem execOp_same {o : Oper} (hs : ∀ cs b, o.op ≠ .select cs b) (h : SameOn (fun t => t ∈ looks all o) a b) : execOp a.eval o = execOp b.eval o := execOp_congr o hs (eval_same h)
theorem wanted_same {ops : Array Oper} {o : Oper} (h : SameOn (fun t => t ∈ looks ops.toList o) a b) : Region.wanted o (yielded ops a.tmps) = Region.wanted o (yielded ops b.tmps) := by
  unfold Region.wanted
  cases hg : o.guard with
  | none => rfl
  | some p =>
    obtain ⟨j, want⟩ := p
    have : yielded ops a.tmps j = yielded ops b.tmps j := by
      show (match (((ops[j]?).bind (·.dst)).bind (a.tmps[·]?)) with | some (.bool b) => some b | _ => none) = (match (((ops[j]?).bind (·.dst)).bind (b.tmps[·]?)) with | some (.bool b) => some b | _ => none)
      cases hd : (ops[j]?).bind (·.dst) with
      | none => rfl
      | some g =>
        have hg' : guardDst ops.toList j = some g := by simpa [guardDst] using hd
        simp only [Option.bind_some, h g (mem_looks_guard hg hg')]
    simp only [this]
end act

theorem wanted_wnt {ops : Array Oper} {o : Oper} {s : St} {G : Gh} {a : Act} (hr : RelR G s a) (h : Wnt ops.toList o s) : Region.wanted o (yielded ops a.tmps) = true := by
  rcases h with h | ⟨j, want, g, h1, h2, h3⟩
  · simp [Region.wanted, h]
  · have hv := boolof (v := .one (.dat .bool want)) rfl (hr.2.2 g _ h3)
    have hg2 : (ops[j]?).bind (·.dst) = some g := by simpa [guardDst] using h2
    have hget : a.tmps[g]? = some (.bool want) := by
      rw [Array.getD_eq_getD_getElem?] at hv
      cases hq : a.tmps[g]? with
      | none => rw [hq] at hv; cases hv
      | some u => rw [hq] at hv; simpa using hv
    simp [Region.wanted, h1, yielded, hg2, hget]
theorem wanted_unw {ops : Array Oper} {o : Oper} {s : St} {G : Gh} {a : Act} (hr : RelR G s a) (h : Unw ops.toList o s) : Region.wanted o (yielded ops a.tmps) = false := by
  obtain ⟨j, want, g, h1, h2, h3⟩ := h
  have hg2 : (ops[j]?).bind (·.dst) = some g := by simpa [guardDst] using h2
  rcases h3 with h3 | h3
  · have hv : a.tmps.getD g undef = undef := hr.2.2 g _ h3
    rw [Array.getD_eq_getD_getElem?] at hv
    cases hq : a.tmps[g]? with
    | none => simp [Region.wanted, h1, yielded, hg2, hq]
    | some u =>
      rw [hq] at hv
      simp only [Option.getD_some] at hv
      subst hv
      simp [Region.wanted, h1, yielded, hg2, hq, undef]
  · have hv := boolof (v := .one (.dat .bool (!want))) rfl (hr.2.2 g _ h3)
    have hget : a.tmps[g]? = some (.bool (!want)) := by
      rw [Array.getD_eq_getD_getElem?] at hv
      cases hq : a.tmps[g]? with
      | none => rw [hq] at hv; cases hv
      | some u => rw [hq] at hv; simpa using hv
    cases want <;> simp [Region.wanted, h1, yielded, hg2, hget]
end Go.Fx

/- The framework: whatever order is drawn, third part. -/
namespace Go.Fx
set_option linter.unusedVariables false
set_option linter.unusedSimpArgs false

theorem countP_lt {α : Type} {p q : α → Bool} : ∀ {l : List α}, (∀ x ∈ l, q x = true → p x = true) → (∃ x ∈ l, p x = true ∧ q x = false) → l.countP q < l.countP p
  | [], _, ⟨x, hx, _⟩ => by cases hx
  | a :: l, h, ⟨x, hx, h1, h2⟩ => by
    have hle : l.countP q ≤ l.countP p := List.countP_mono_left fun y hy hq => h y (List.mem_cons_of_mem _ hy) hq
    rw [List.countP_cons, List.countP_cons]
    rcases List.mem_cons.1 hx with rfl | hx
    · simp only [h1, h2, if_true, Bool.false_eq_true, if_false]; omega
    · have := countP_lt (fun y hy => h y (List.mem_cons_of_mem _ hy)) ⟨x, hx, h1, h2⟩
      have ha := h a (List.mem_cons_self ..)
      by_cases hq : q a = true
      · simp only [hq, ha hq, if_true]; omega
      · rw [if_neg hq]; split <;> omega

theorem put_get {a : Act} {d : Option Tmp} {v : Value} {t : Nat} (h : d ≠ some t) : (a.put d v).tmps[t]? = a.tmps[t]? := by
  cases d with
  | none => rfl
  | some d =>
    have : d ≠ t := fun e => h (by rw [e])
    simp [Act.put, Array.getElem?_setIfInBounds_ne this]
theorem put_defers (a : Act) (d : Option Tmp) (v : Value) : (a.put d v).defers = a.defers := by cases d <;> rfl
theorem put_size (a : Act) (d : Option Tmp) (v : Value) : (a.put d v).tmps.size = a.tmps.size := by cases d <;> simp [Act.put]
theorem put_both {a b : Act} {d : Option Tmp} {v : Value} {t : Nat} (hs : a.tmps.size = b.tmps.size) (h : d = some t) : (a.put d v).tmps[t]? = (b.put d v).tmps[t]? := by
  subst h
  simp [Act.put, Array.getElem?_setIfInBounds, hs]

section
variable {E : Env} {all : List Oper}
theorem reads_same {o : Oper} {s st : St} (he : ∀ x ∈ o.op.operands, ev E s x = ev E st x) : reads E o s = reads E o st := by
  unfold reads
  split <;> rename_i hop
  · rw [he _ (by simp [hop, Op.operands])]
  · rw [he _ (by simp [hop, Op.operands])]
  · rw [he _ (by simp [hop, Op.operands])]
  · rw [he _ (by simp [hop, Op.operands])]
  · rename_i c
    have : c.args.toList.map (ev E s) = c.args.toList.map (ev E st) := List.map_congr_left fun x hx => he x (by simp [hop, Op.operands, Call.operands]; exact .inr (by simpa using hx))
    rw [this]
  · rfl
theorem ev_same {o : Oper} {s st : St} (h : ∀ t ∈ looks all o, s.reg t = st.reg t) : ∀ x ∈ o.op.operands, ev E s x = ev E st x := fun x hx => by
  cases x with
  | tmp t => simp only [ev, h t (mem_looks_tmp hx)]
  | _ => rfl
theorem wnt_same {o : Oper} {s st : St} (h : ∀ t ∈ looks all o, s.reg t = st.reg t) (hw : Wnt all o st) : Wnt all o s := by
  rcases hw with hw | ⟨j, want, g, h1, h2, h3⟩
  · exact .inl hw
  · exact .inr ⟨j, want, g, h1, h2, by rw [h g (mem_looks_guard h1 h2)]; exact h3⟩
theorem unw_same {o : Oper} {s st : St} (h : ∀ t ∈ looks all o, s.reg t = st.reg t) (hw : Unw all o st) : Unw all o s := by
  obtain ⟨j, want, g, h1, h2, h3⟩ := hw
  exact ⟨j, want, g, h1, h2, by rw [h g (mem_looks_guard h1 h2)]; exact h3⟩

variable (hD : ∀ f s, E.sem f = some s → SemDet s)
include hD
theorem redo {o : Oper} {s st : St} {v : AVal} (ho : isStill o.op = true) (hd : dynOk E o st = true) (h : out1 E o st = some ⟨v, st, true⟩) (hb : Base st s) (he : ∀ x ∈ o.op.operands, ev E s x = ev E st x) (hk : ∀ p ∈ reads E o st, KeepP st s p) :
    dynOk E o s = true ∧ out1 E o s = some ⟨v, s, true⟩ := by
  obtain ⟨h1, h2⟩ := still_same ho hd hb he hk
  refine ⟨h1, ?_⟩
  have h3 := h2 (K := some) (r := v) (by rw [exact_of hD h])
  obtain ⟨u, h4, h5⟩ := exec1_out hD h3
  have h6 := out1_still hD ho h1 h4
  rw [h6] at h5 h4
  simp only [fin, cond_true, Option.some.injEq] at h5
  rw [h4, h5]
where
  exact_of {o : Oper} {st : St} {v : AVal} (hD : ∀ f s, E.sem f = some s → SemDet s) (h : out1 E o st = some ⟨v, st, true⟩) : exec1 E o st (fun v _ => some v) (fun _ _ => none) = some v := by
    rw [exec1_of_out hD h]; rfl

def Pend (E : Env) (all : List Oper) (i : Nat) (log : List (Nat × List Pat)) (s : St) : Prop := ∃ o, all[i]? = some o ∧ inTurn all (ancs all []) i o = false ∧
  ((Unw all o s ∧ ∀ d, o.dst = some d → s.reg d = some (.one .und) ∧ d < s.n) ∨
   (Wnt all o s ∧ dynOk E o s = true ∧ (i, reads E o s) ∈ log ∧ ∃ v, out1 E o s = some ⟨v, s, true⟩ ∧ ∀ d, o.dst = some d → s.reg d = some v ∧ d < s.n))
theorem Pend.keep {k : Nat} {log log1 : List (Nat × List Pat)} {s s1 : St} (hp : Pend E all k log s) (hb : Base s s1) (hreg : ∀ o, all[k]? = some o → ∀ t, t ∈ looks all o ∨ o.dst = some t → s1.reg t = s.reg t)
    (hk : ∀ rd, (k, rd) ∈ log → ∀ p ∈ rd, KeepP s s1 p) (hl : ∀ x ∈ log, x ∈ log1) : Pend E all k log1 s1 := by
  obtain ⟨o, h1, h2, h3⟩ := hp
  have hr : ∀ t ∈ looks all o, s1.reg t = s.reg t := fun t ht => hreg o h1 t (.inl ht)
  refine ⟨o, h1, h2, ?_⟩
  rcases h3 with ⟨h3, h4⟩ | ⟨h3, h4, h5, v, h6, h7⟩
  · exact .inl ⟨unw_same hr h3, fun d hd => by rw [hreg o h1 d (.inr hd), hb.1]; exact h4 d hd⟩
  · have he := ev_same (E := E) hr
    obtain ⟨g1, g2⟩ := redo hD (inTurn_still h2) h4 h6 hb he (hk _ h5)
    exact .inr ⟨wnt_same hr h3, g1, by rw [reads_same he]; exact hl _ h5, v, g2, fun d hd => by rw [hreg o h1 d (.inr hd), hb.1]; exact h7 d hd⟩
end
end Go.Fx

/- The framework: whatever order is drawn, fourth part: the walk. -/
namespace Go.Fx
set_option linter.unusedVariables false
set_option linter.unusedSimpArgs false

structure Inv (E : Env) (X : Ctx) (ops : Array Oper) (Kok : St → Prop) (KPok : AVal → St → Prop) (n : Nat) (done : List Nat) (log : List (Nat × List Pat)) (s : St) (G : Gh) (as : Act) (listed : Array Bool) (act : Act) (w : World) : Prop where
  can : CanT E ops.toList Kok KPok n done log s
  cov : ∀ l ∈ canons ops.toList (ancs ops.toList []) n done, ∀ i, i < ops.size → i ∈ done ∨ i ∈ l
  clo : Clo ops.toList (· ∈ done)
  lclo : Clo ops.toList (fun i => listed.getD i false = true)
  lsub : ∀ i, listed.getD i false = true → i ∈ done
  lsz : listed.size = ops.size
  rel : RelM X s G w
  reg : RelR G s as
  pend : ∀ i, i ∈ done → listed.getD i false = false → Pend E ops.toList i log s
  dfs : act.defers = as.defers
  sz : act.tmps.size = as.tmps.size
  same : ∀ t, (∀ i o, i ∈ done → listed.getD i false = false → ops.toList[i]? = some o → o.dst ≠ some t) → act.tmps[t]? = as.tmps[t]?

section
variable {P : Program} {E : Env} (hE : TabOk P E.tab) (hS : ∀ f s, E.sem f = some s → SemOk P E.gt f s) (hC : ∀ f s, E.sem f = some s → SemCong s) (hD : ∀ f s, E.sem f = some s → SemDet s)
  {X : Ctx} (hg0 : GlobIn E.gt X.S0) {ops : Array Oper} (hst : Stat ops.toList) {Q : Exit → Act → World → Prop} {Kok : St → Prop} {KPok : AVal → St → Prop}
  (hK : ∀ st G w act, RelM X st G w → RelR G st act → Kok st → Q .normal act w)
  (hP : ∀ av v st G w act, RelM X st G w → act.defers = [] → RelV G av v → KPok av st → Q (.panic [{ v, recovered := false }]) act w)

theorem getD_ff {listed : Array Bool} {i : Nat} (h : i < listed.size) : listed.getD i true = listed.getD i false := by simp [h]
theorem getD_set {listed : Array Bool} {i : Nat} (h : i < listed.size) (j : Nat) : (listed.setIfInBounds i true).getD j false = if i = j then true else listed.getD j false := by
  by_cases e : i = j
  · subst e; simp [h]
  · rw [getD_set_ne false e, if_neg e]

/-- A step that touches one temporary and keeps what is read leaves what is pending. -/
theorem pend_step {s s1 : St} {log log1 : List (Nat × List Pat)} {done : List Nat} {listed : Array Bool} {i : Nat} {o : Oper} (hD : ∀ f s, E.sem f = some s → SemDet s) (hst : Stat ops.toList) (hclo : Clo ops.toList (· ∈ done)) (hi : i ∉ done) (ho : ops.toList[i]? = some o)
    (hpend : ∀ k, k ∈ done → listed.getD k false = false → Pend E ops.toList k log s)
    (hb : Base s s1) (hreg : ∀ t, o.dst ≠ some t → s1.reg t = s.reg t)
    (hk : ∀ k rd, k ∈ done → listed.getD k false = false → (k, rd) ∈ log → ∀ p ∈ rd, KeepP s s1 p) (hl : ∀ x ∈ log, x ∈ log1)
    (hturn : inTurn ops.toList (ancs ops.toList []) i o = false ∨ ∀ k, Reach ops.toList i k → listed.getD k false = true) :
    ∀ k, k ∈ done → listed.getD k false = false → Pend E ops.toList k log1 s1 := by
  intro k hkd hkl
  refine (hpend k hkd hkl).keep hD hb (fun ok hok t ht => hreg t fun hd => ?_) (fun rd hrd => hk k rd hkd hkl hrd) hl
  have hne : k ≠ i := fun e => hi (e ▸ hkd)
  rcases ht with ht | ht
  · rcases hst.wait k i ok o t hok ho hd ht hne with h | h
    · exact hi (hclo.reach (ancs_ok h) hkd)
    · rcases hturn with h' | h'
      · by_cases hA : i ∈ (ancs ops.toList []).getD k []
        · exact hi (hclo.reach (ancs_ok hA) hkd)
        · rw [inTurn_anti hok ho hd ht hA] at h'; cases h'
      · rw [h' k (ancs_ok h)] at hkl; cases hkl
  · exact hne (hst.dst k i ok o t hok ho ht hd)

include hE hD hg0 hst in
theorem settle {listed : Array Bool} {act : Act} {w : World} : ∀ {n : Nat} {done : List Nat} {log : List (Nat × List Pat)} {s : St} {G : Gh} {as : Act}, Inv E X ops Kok KPok n done log s G as listed act w →
    ∃ n' done' log' s' G' as', Inv E X ops Kok KPok n' done' log' s' G' as' listed act w ∧ Head E ops.toList n' done'
  | n, done, log, s, G, as, h => by
    cases turn_of E (all := ops.toList) n done with
    | fin h1 h2 _ => exact ⟨n, done, log, s, G, as, h, .inl ⟨h1, h2⟩⟩
    | turn m h1 h2 h3 => exact ⟨n, done, log, s, G, as, h, .inr ⟨m, h1, h2, h3⟩⟩
    | still m i hnm hr hall hcs hstep =>
      subst hnm
      obtain ⟨hid, o', ho', haft⟩ := rdy_iff.1 hr
      obtain ⟨o, ho, st0, hsr, hc⟩ := hstep _ _ _ _ h.can
      obtain rfl : o = o' := by rw [ho] at ho'; exact Option.some.inj ho'
      have ht := hall o ho
      have hil : listed.getD i false = false := by
        cases hl : listed.getD i false with
        | false => rfl
        | true => exact absurd (h.lsub i hl) hid
      have hclo1 : Clo ops.toList (· ∈ i :: done) := fun a k ha hak => by
        rcases List.mem_cons.1 ha with rfl | ha
        · obtain ⟨o2, h1, e, h2, h3, rfl⟩ := hak
          rw [ho] at h1
          cases h1
          exact List.mem_cons_of_mem _ (haft e h2 h3)
        · exact List.mem_cons_of_mem _ (h.clo a k ha hak)
      have hcov : ∀ l ∈ canons ops.toList (ancs ops.toList []) m (i :: done), ∀ k, k < ops.size → k ∈ i :: done ∨ k ∈ l := fun l hl k hk => by
        rcases h.cov _ (hcs l hl) k hk with h1 | h1
        · exact .inl (List.mem_cons_of_mem _ h1)
        · rcases List.mem_cons.1 h1 with rfl | h1
          · exact .inl (List.mem_cons_self ..)
          · exact .inr h1
      have hself : ∀ t ∈ looks ops.toList o, o.dst ≠ some t := fun t ht hd => hst.self i o t ho hd ht
      -- the step, in the ghosts alone
      have go : ∀ {v : AVal} {u : Value} {s1 : St} {log1 : List (Nat × List Pat)} {G1 : Gh}, putO o.dst v st0 = some s1 → RelM X st0 G1 w → RelR G1 st0 as → RelV G1 v u → CanT E ops.toList Kok KPok m (i :: done) log1 s1 →
          (∀ x ∈ log, x ∈ log1) → Pend E ops.toList i log1 s1 → ∃ n' done' log' s' G' as', Inv E X ops Kok KPok n' done' log' s' G' as' listed act w ∧ Head E ops.toList n' done' :=
        fun {v u s1 log1 G1} hput hm hr hv hcan hlog hpi => by
          obtain ⟨p1, p2, p3, p4, p5⟩ := putO_spec hput
          have hb : Base s s1 := hsr.1.trans p1
          refine settle (n := m) (done := i :: done) (log := log1) (s := s1) (G := G1) (as := as.put o.dst u)
            { can := hcan, cov := hcov, clo := hclo1, lclo := h.lclo, lsub := fun k hk => List.mem_cons_of_mem _ (h.lsub k hk), lsz := h.lsz
              rel := putO_rel hput hm, reg := putO_reg hput hr hv, pend := fun k hk hkl => ?_, dfs := by rw [put_defers]; exact h.dfs, sz := by rw [put_size]; exact h.sz, same := fun t ht => ?_ }
          · rcases List.mem_cons.1 hk with rfl | hk
            · exact hpi
            · exact pend_step hD hst h.clo hid ho h.pend hb (fun t ht => by rw [p4 t (fun e he e2 => ht (by rw [he, e2])), hsr.2.2.2]) (fun k rd _ _ _ p _ => keep_regs (by rw [p2, hsr.2.1]) (by rw [p3, hsr.2.2.1]) (by rw [p1.2.2.2, hsr.1.2.2.2]) p) hlog (.inl ht) k hk hkl
          · rw [put_get (ht i o (List.mem_cons_self ..) hil ho)]
            exact h.same t fun k ok hk => ht k ok (List.mem_cons_of_mem _ hk)
      rcases hc with ⟨hu, s1, hput, hcan⟩ | ⟨hw, _, hstill⟩
      · obtain ⟨p1, p2, p3, p4, p5⟩ := putO_spec hput
        exact go hput (hsr.rel h.rel) (hsr.regs h.reg) (show RelV G (.one .und) undef from rfl) hcan (fun _ h => h)
          ⟨o, ho, ht, .inl ⟨unw_same (fun t ht' => p4 t fun e he e2 => hself t ht' (by rw [he, e2])) hu, fun d hd => ⟨(p5 d hd).1, by rw [p1.1]; exact (p5 d hd).2⟩⟩⟩
      · obtain ⟨hd, v, hout, s1, hput, hcan⟩ := hstill ht
        obtain ⟨p1, p2, p3, p4, p5⟩ := putO_spec hput
        obtain ⟨u, G1, _, hm1, hr1, hv1⟩ := still_ok hE (inTurn_still ht) hd hout hg0 (hsr.rel h.rel) (hsr.regs h.reg)
        have hregs : ∀ t ∈ looks ops.toList o, s1.reg t = st0.reg t := fun t ht' => p4 t fun e he e2 => hself t ht' (by rw [he, e2])
        have he := ev_same (E := E) hregs
        obtain ⟨g1, g2⟩ := redo hD (inTurn_still ht) hd hout p1 he (fun p _ => keep_regs p2 p3 p1.2.2.2 p)
        exact go hput hm1 (hr1 _ (hsr.regs h.reg)) hv1 hcan (fun _ h => List.mem_cons_of_mem _ h)
          ⟨o, ho, ht, .inr ⟨wnt_same hregs hw, g1, by rw [reads_same he]; exact List.mem_cons_self .., v, g2, fun d hd => ⟨(p5 d hd).1, by rw [p1.1]; exact (p5 d hd).2⟩⟩⟩
end
end Go.Fx

/- The framework: whatever order is drawn, fifth part: the whole region. -/
namespace Go.Fx
set_option linter.unusedVariables false
set_option linter.unusedSimpArgs false

theorem RelR.put_same {G : Gh} {s : St} {a : Act} {d : Option Tmp} {v : AVal} {u : Value} (hr : RelR G s a) (hd : ∀ e, d = some e → s.reg e = some v ∧ e < s.n) (hv : RelV G v u) : RelR G s (a.put d u) := by
  cases d with
  | none => exact hr
  | some d =>
    obtain ⟨h1, h2⟩ := hd d rfl
    have := hr.put (av := v) h2 hv
    exact ⟨this.1, this.2.1, fun i x hx => this.2.2 i x (by
      rw [reg_setReg]
      by_cases e : d = i
      · subst e; rw [if_pos rfl, ← h1, hx]
      · rw [if_neg e]; exact hx)⟩

/-- What an operation does in one frame it does in another one that agrees in what it looks at. -/
theorem upon_act {P : Program} {o : Oper} {a b : Act} {N1 N2 : Act → World → Prop} {Q1 Q2 : Exit → Act → World → Prop} {res : Result Next} (hb : ∀ a' w, N1 a' w → ∃ v, a' = b.put o.dst v ∧ N2 (a.put o.dst v) w) (hdd : a.defers = b.defers)
    (hp : ∀ c w, Q1 (.panic c) b w → Q2 (.panic c) a w) (ho : LetsOut Q1 → LetsOut Q2) (hinj : ∀ v v', b.put o.dst v = b.put o.dst v' → a.put o.dst v = a.put o.dst v') (h : o.upon P b N1 Q1 res) : o.upon P a N2 Q2 res := by
  have nx : ∀ v w, N1 (b.put o.dst v) w → N2 (a.put o.dst v) w := fun v w hn => by
    obtain ⟨v', h1, h2⟩ := hb _ _ hn
    rw [hinj v v' h1]; exact h2
  cases res with
  | ok n w' =>
    cases n <;> simp only [Oper.upon] at h ⊢
    case value u => exact nx _ _ h
    case skip => exact nx _ _ h
    case defer d =>
      obtain ⟨v', h1, h2⟩ := hb _ _ h
      have : d :: b.defers = b.defers := by
        have := congrArg Act.defers h1
        rw [put_defers, put_defers] at this; exact this
      exact absurd this (by simp)
    case enter f args =>
      refine Calls.mono h fun e w'' he => ?_
      cases e with
      | returned u => exact nx _ _ he
      | panicked c => exact hp _ _ he
      | outgrown => exact ho he
    case row row args => exact Rows.mono h fun u w'' he => nx _ _ he
  | halt x w' =>
    cases x <;> simp only [Oper.upon] at h ⊢
    case panic u => exact hp _ _ h

section
variable {P : Program} {E : Env} (hE : TabOk P E.tab) (hS : ∀ f s, E.sem f = some s → SemOk P E.gt f s) (hC : ∀ f s, E.sem f = some s → SemCong s) (hD : ∀ f s, E.sem f = some s → SemDet s)
  {X : Ctx} (hg0 : GlobIn E.gt X.S0) {ops : Array Oper} (hst : Stat ops.toList) {Q : Exit → Act → World → Prop} {Kok : St → Prop} {KPok : AVal → St → Prop}
  (hK : ∀ st G w act, RelM X st G w → RelR G st act → Kok st → Q .normal act w)
  (hP : ∀ av v st G w act, RelM X st G w → act.defers = [] → RelV G av v → KPok av st → Q (.panic [{ v, recovered := false }]) act w)

include hK in
theorem all_listed {n : Nat} {done : List Nat} {log : List (Nat × List Pat)} {s : St} {G : Gh} {as act : Act} {listed : Array Bool} {w : World} (h : Inv E X ops Kok KPok n done log s G as listed act w) (hh : Head E ops.toList n done) (hall : ∀ i, i < ops.size → listed.getD i false = true) : Q .normal act w := by
  have hcan : Kok s := by
    rcases hh with ⟨_, h2⟩ | ⟨m, _, ⟨i, hr⟩, _⟩
    · exact h2 _ _ _ _ h.can
    · obtain ⟨h1, o, h2, _⟩ := rdy_iff.1 hr
      exact absurd (h.lsub i (hall i (by simpa using (List.getElem?_eq_some_iff.1 h2).1))) h1
  have hact : act = as := by
    have htm : act.tmps = as.tmps := by
      apply Array.ext h.sz
      intro i h1 h2
      have := h.same i (fun k o hk hkl hko => by
        have hlt : k < ops.size := by simpa using (List.getElem?_eq_some_iff.1 hko).1
        rw [hall k hlt] at hkl; cases hkl)
      simpa [h1, h2] using this
    cases act; cases as
    simp only at htm
    have := h.dfs
    simp only at this
    rw [htm, this]
  rw [hact]
  exact hK _ _ _ _ h.rel h.reg hcan

theorem ready_nil (hst : Stat ops.toList) {listed : Array Bool} (hsz : listed.size = ops.size) (h : Region.ready .any ops listed = []) : ∀ i, i < ops.size → listed.getD i false = true := by
  intro i
  induction i using Nat.strongRecOn with
  | ind i ih =>
    intro hi
    cases hl : listed.getD i false with
    | true => rfl
    | false =>
      have : i ∈ Region.ready .any ops listed := mem_ready.2 ⟨by rw [getD_ff (by omega)]; exact hl, ops[i], by simp [hi], fun e he hb => by
        have hlow := hst.low i ops[i] e (by simp [hi]) he (by rw [eb_binds]; exact hb)
        exact ih e.on hlow (by omega)⟩
      rw [h] at this; cases this

include hE hS hC hD hg0 hst hK hP in
theorem walk_any : ∀ (fuel : Nat) {listed : Array Bool} {act : Act} {w : World} {n : Nat} {done : List Nat} {log : List (Nat × List Pat)} {s : St} {G : Gh} {as : Act}, Inv E X ops Kok KPok n done log s G as listed act w →
    Head E ops.toList n done → (List.range ops.size).countP (fun i => !listed.getD i false) ≤ fuel → wpAny P .any ops Q fuel listed act w
  | 0, listed, act, w, n, done, log, s, G, as, h, hhead, hf => by
    have hall : ∀ i, i < ops.size → listed.getD i false = true := fun i hi => by
      have h0 : (List.range ops.size).countP (fun i => !listed.getD i false) = 0 := by omega
      have := List.countP_eq_zero.1 h0 i (List.mem_range.2 hi)
      simpa using this
    refine ⟨List.eq_nil_iff_forall_not_mem.2 fun i hi => ?_, all_listed hK h hhead hall⟩
    obtain ⟨h1, o, h2, _⟩ := mem_ready.1 hi
    have hlt : i < ops.size := (Array.getElem?_eq_some_iff.1 h2).1
    rw [getD_ff (by rw [h.lsz]; exact hlt), hall i hlt] at h1; cases h1
  | fuel + 1, listed, act, w, n, done, log, s, G, as, h, hhead, hf => by
    refine ⟨fun hr => all_listed hK h hhead (ready_nil hst h.lsz hr), fun i hi => ?_⟩
    obtain ⟨hl1, o, hoa, haft0⟩ := mem_ready.1 hi
    have hlt : i < ops.size := (Array.getElem?_eq_some_iff.1 hoa).1
    have hlt' : i < listed.size := by rw [h.lsz]; exact hlt
    have hil : listed.getD i false = false := by rw [← getD_ff hlt']; exact hl1
    have ho : ops.toList[i]? = some o := by simpa using hoa
    have haft : ∀ k, After ops.toList i k → listed.getD k false = true := fun k ⟨o2, h1, e, h2, h3, h4⟩ => by
      rw [ho] at h1
      cases h1
      rw [← h4]; exact haft0 e h2 (by rw [← eb_binds]; exact h3)
    have hreach : ∀ k, Reach ops.toList i k → listed.getD k false = true := fun k hk => h.lclo.ready haft hk
    let listed' := listed.setIfInBounds i true
    have hlc : Clo ops.toList (fun k => listed'.getD k false = true) := fun a k ha hak => by
      show (listed.setIfInBounds i true).getD k false = true
      rw [getD_set hlt']
      by_cases e : i = k
      · simp [e]
      · rw [if_neg e]
        by_cases e2 : i = a
        · subst e2; exact haft k hak
        · have ha' : listed.getD a false = true := by
            have := ha
            simp only [listed', getD_set hlt', if_neg e2] at this; exact this
          exact h.lclo a k ha' hak
    have hlz : listed'.size = ops.size := by simp [listed', h.lsz]
    have hun : ∀ k, listed'.getD k false = false → k ≠ i ∧ listed.getD k false = false := fun k hk => by
      simp only [listed', getD_set hlt'] at hk
      by_cases e : i = k
      · simp [e] at hk
      · rw [if_neg e] at hk; exact ⟨fun h => e h.symm, hk⟩
    have hcnt : (List.range ops.size).countP (fun k => !listed'.getD k false) ≤ fuel := by
      have := countP_lt (p := fun k => !listed.getD k false) (q := fun k => !listed'.getD k false) (l := List.range ops.size) (fun k _ hk => by
        have := hun k (by simpa using hk)
        simpa using this.2) ⟨i, List.mem_range.2 hlt, by simpa using hil, by simp [listed', hlt']⟩
      omega
    have hlook : SameOn (fun t => t ∈ looks ops.toList o) act as := fun t ht => by
      refine h.same t fun k ok hk hkl hko hd => ?_
      by_cases e : k = i
      · subst e
        rw [ho] at hko
        cases hko
        exact hst.self _ _ t ho hd ht
      · rcases hst.wait i k o ok t ho hko hd ht (Ne.symm e) with h1 | h1
        · rw [hreach k (ancs_ok h1)] at hkl; cases hkl
        · obtain ⟨o2, g1, g2, _⟩ := h.pend k hk hkl
          rw [hko] at g1
          cases g1
          by_cases hA : k ∈ (ancs ops.toList []).getD i []
          · rw [hreach k (ancs_ok hA)] at hkl; cases hkl
          · rw [inTurn_anti ho hko hd ht hA] at g2; cases g2
    have hexe : execOp act.eval o = execOp as.eval o := execOp_same (fun cs b => hst.sel i o cs b ho) hlook
    have hwan : Region.wanted o (yielded ops act.tmps) = Region.wanted o (yielded ops as.tmps) := wanted_same hlook
    have hsame' : ∀ (v : Value) t, (∀ k ok, k ∈ done → listed'.getD k false = false → ops.toList[k]? = some ok → ok.dst ≠ some t) → (act.put o.dst v).tmps[t]? = (as.put o.dst v).tmps[t]? := fun v t ht => by
      by_cases e : o.dst = some t
      · exact put_both h.sz e
      · rw [put_get e, put_get e]
        refine h.same t fun k ok hk hkl hko hd => ?_
        by_cases e2 : k = i
        · subst e2
          rw [ho] at hko
          cases hko
          exact e hd
        · exact ht k ok hk (by simp only [listed', getD_set hlt', if_neg (Ne.symm e2)]; exact hkl) hko hd
    unfold wpOp
    simp only [hoa]
    by_cases hid : i ∈ done
    · -- what was told ahead is carried out
      have go : ∀ {G1 : Gh} {v : Value}, RelM X s G1 w → RelR G1 s (as.put o.dst v) → wpAny P .any ops Q fuel listed' (act.put o.dst v) w := fun {G1 v} hm hr =>
        walk_any fuel (n := n) (done := done) (log := log) (s := s) (G := G1) (as := as.put o.dst v)
          { can := h.can, cov := h.cov, clo := h.clo, lclo := hlc, lsz := hlz, rel := hm, reg := hr
            lsub := fun k hk => (by
              by_cases e : i = k
              · rw [← e]; exact hid
              · simp only [listed', getD_set hlt', if_neg e] at hk; exact h.lsub k hk)
            pend := fun k hk hkl => h.pend k hk (hun k hkl).2, dfs := by rw [put_defers, put_defers]; exact h.dfs, sz := by rw [put_size, put_size]; exact h.sz
            same := hsame' v } hhead hcnt
      obtain ⟨o2, g1, g2, g3⟩ := h.pend i hid hil
      rw [ho] at g1
      cases g1
      rcases g3 with ⟨hu, hd⟩ | ⟨hw, hdy, _, v, hout, hd⟩
      · rw [hwan, wanted_unw h.reg hu]
        simp only [Bool.false_eq_true, if_false]
        exact go h.rel (h.reg.put_same hd (show RelV G (.one .und) undef from rfl))
      · rw [hwan, wanted_wnt h.reg hw]
        simp only [if_true]
        obtain ⟨u, G1, hrun, hm1, hr1, hv1⟩ := still_ok hE (inTurn_still g2) hdy hout hg0 h.rel h.reg
        refine .inl ?_
        unfold Oper.wp
        rw [hexe, hrun]
        exact go hm1 ((hr1 _ h.reg).put_same hd hv1)
    · -- it is the one whose turn it is
      have hrdy : rdy ops.toList done i = true := rdy_iff.2 ⟨hid, o, ho, fun e he hb => h.lsub _ (haft0 e he (by rw [← eb_binds]; exact hb))⟩
      obtain ⟨m, hnm, htn, hcs, hstep⟩ : ∃ m, n = m + 1 ∧ inTurn ops.toList (ancs ops.toList []) i o = true ∧ (∀ r ∈ canons ops.toList (ancs ops.toList []) m (i :: done), i :: r ∈ canons ops.toList (ancs ops.toList []) n done) ∧
          StepC E ops.toList i log s (CanT E ops.toList Kok KPok m (i :: done)) KPok := by
        rcases hhead with ⟨h1, _⟩ | ⟨m, h1, _, h3⟩
        · rcases h.cov [] (by rw [h1]; exact List.mem_singleton.2 rfl) i hlt with h2 | h2
          · exact absurd h2 hid
          · cases h2
        · obtain ⟨g1, g2, g3⟩ := h3 i hrdy
          exact ⟨m, h1, g1 o ho, g2, g3 _ _ _ _ h.can⟩
      subst hnm
      have hclo1 : Clo ops.toList (· ∈ i :: done) := fun a k ha hak => by
        rcases List.mem_cons.1 ha with rfl | ha
        · exact List.mem_cons_of_mem _ (h.lsub k (haft k hak))
        · exact List.mem_cons_of_mem _ (h.clo a k ha hak)
      have hcov : ∀ l ∈ canons ops.toList (ancs ops.toList []) m (i :: done), ∀ k, k < ops.size → k ∈ i :: done ∨ k ∈ l := fun l hl k hk => by
        rcases h.cov _ (hcs l hl) k hk with h1 | h1
        · exact .inl (List.mem_cons_of_mem _ h1)
        · rcases List.mem_cons.1 h1 with rfl | h1
          · exact .inl (List.mem_cons_self ..)
          · exact .inr h1
      have go : ∀ {v : AVal} {u : Value} {st' s1 : St} {G1 : Gh} {w1 : World}, putO o.dst v st' = some s1 → RelM X st' G1 w1 → RelR G1 st' as → RelV G1 v u → CanT E ops.toList Kok KPok m (i :: done) log s1 → Base s st' → (∀ t, st'.reg t = s.reg t) →
          (∀ k rd, k ∈ done → listed.getD k false = false → (k, rd) ∈ log → ∀ p ∈ rd, KeepP s st' p) → wpAny P .any ops Q fuel listed' (act.put o.dst u) w1 := fun {v u st' s1 G1 w1} hput hm hr hv hcan hbs hrg hkeep => by
        obtain ⟨p1, p2, p3, p4, p5⟩ := putO_spec hput
        have hinv : Inv E X ops Kok KPok m (i :: done) log s1 G1 (as.put o.dst u) listed' (act.put o.dst u) w1 :=
          { can := hcan, cov := hcov, clo := hclo1, lclo := hlc, lsz := hlz, rel := putO_rel hput hm, reg := putO_reg hput hr hv
            lsub := fun k hk => (by
              by_cases e : i = k
              · rw [← e]; exact List.mem_cons_self ..
              · simp only [listed', getD_set hlt', if_neg e] at hk; exact List.mem_cons_of_mem _ (h.lsub k hk))
            pend := fun k hk hkl => (by
              obtain ⟨hki, hkl⟩ := hun k hkl
              rcases List.mem_cons.1 hk with e | hk
              · exact absurd e hki
              · exact pend_step hD hst h.clo hid ho h.pend (hbs.trans p1) (fun t ht => by rw [p4 t (fun e he e2 => ht (by rw [he, e2])), hrg]) (fun k rd a b c p hp => (hkeep k rd a b c p hp).trans (keep_regs p2 p3 p1.2.2.2 p)) (fun _ h => h) (.inr hreach) k hk hkl)
            dfs := by rw [put_defers, put_defers]; exact h.dfs, sz := by rw [put_size, put_size]; exact h.sz
            same := fun t ht => hsame' u t fun k ok hk => ht k ok (List.mem_cons_of_mem _ hk) }
        obtain ⟨n', done', log', s', G', as', hinv', hh'⟩ := settle hE hD hg0 hst hinv
        exact walk_any fuel hinv' hh' hcnt
      obtain ⟨o2, g1, st0, hsr, hc⟩ := hstep
      rw [ho] at g1
      cases g1
      have hr0 := hsr.regs h.reg
      rcases hc with ⟨hu, s1, hput, hcan⟩ | ⟨hw, hturn, _⟩
      · rw [hwan, wanted_unw hr0 hu]
        simp only [Bool.false_eq_true, if_false]
        exact go hput (hsr.rel h.rel) hr0 (show RelV G (.one .und) undef from rfl) hcan hsr.1 hsr.2.2.2 (fun k rd _ _ _ p _ => keep_regs hsr.2.1 hsr.2.2.1 hsr.1.2.2.2 p)
      · rw [hwan, wanted_wnt hr0 hw]
        simp only [if_true]
        obtain ⟨hlog, u, hout, hok, hno⟩ := hturn htn
        refine .inl ?_
        let Q1 : Exit → Act → World → Prop := fun e a w => match e with
          | .panic c => a = as → Q (.panic c) act w
          | e => Q e a w
        have hwp : o.wp P as w (fun a' w' => ∃ v, a' = as.put o.dst v ∧ wpAny P .any ops Q fuel listed' (act.put o.dst v) w') Q1 :=
          exec1_ok hE hS (K := vOut) (KP := pOut) (r := u) hout hg0 (hsr.rel h.rel) hr0
            (fun av v st' G' w' hm hr hv hu => by
              simp only [vOut, Option.some.injEq] at hu
              subst hu
              obtain ⟨s1, hput, hcan⟩ := hok rfl
              obtain ⟨hb, hupd⟩ := out1_upd hD hC hout
              have hupd := hupd rfl
              refine ⟨v, rfl, go hput hm hr hv hcan (hsr.1.trans hb) (fun t => ?_) (fun k rd hk hkl hkr p hp => ?_)⟩
              · show st'.reg t = s.reg t
                rw [← hsr.2.2.2 t]
                have e1 : st'.regs = st0.regs := hupd.regs
                have e2 : st'.bregs = st0.bregs := hb.2.1
                simp only [St.reg, e1, e2]
              · have h1 := List.all_eq_true.1 hlog _ hkr
                simp only [Bool.or_eq_true] at h1
                rcases h1 with h1 | h1
                · rw [hreach k (ancs_ok (memN_iff.1 h1))] at hkl; cases hkl
                · refine (keep_regs hsr.2.1 hsr.2.2.1 hsr.1.2.2.2 p).trans (hupd.keep fun q hq => ?_)
                  exact List.all_eq_true.1 (List.all_eq_true.1 h1 p hp) q hq)
            (fun av v st' G' w' hm hv hu => by
              simp only [pOut, Option.some.injEq] at hu
              subst hu
              intro _
              exact hP av v st' G' w' act hm (by rw [h.dfs]; exact hr0.1) hv (hno rfl))
        unfold Oper.wp at hwp ⊢
        rw [hexe]
        refine upon_act (Q1 := Q1) (Q2 := Q) (N2 := wpAny P .any ops Q fuel listed') (fun a' w' h => h) h.dfs (fun c w' hq => hq rfl) (fun ⟨a, w', hq⟩ => ⟨a, w', hq⟩) (fun v v' e => ?_) hwp
        cases hd : o.dst with
        | none => rfl
        | some d =>
          rw [hd] at e
          have e1 := congrArg Act.tmps e
          simp only [Act.put] at e1 ⊢
          congr 1
          by_cases hdl : d < act.tmps.size
          · have : v = v' := by
              have h2 : (as.tmps.setIfInBounds d v)[d]? = (as.tmps.setIfInBounds d v')[d]? := by rw [e1]
              have hdl' : d < as.tmps.size := by rw [← h.sz]; exact hdl
              simpa [hdl'] using h2
            rw [this]
          · rw [Array.setIfInBounds_eq_of_size_le (Nat.le_of_not_lt hdl), Array.setIfInBounds_eq_of_size_le (Nat.le_of_not_lt hdl)]

include hE hS hC hD hg0 hK hP in
/-- **A region that draws its order**: where each order in which reading goes first comes to the same. -/
theorem runM_ok (hmix : P.follows .mixedOrders = true) {id : Nat} {R : Type} {r : R} {K : St → Option R} {KP : AVal → St → Option R} {st : St} {G : Gh} {w : World} {act : Act} (hd : drawOk ops.toList (ancs ops.toList []) = true)
    (h : ∀ l ∈ canons ops.toList (ancs ops.toList []) ops.toList.length [], covers ops.toList l = true ∧ runD E ops.toList (ancs ops.toList []) l [] st K KP = some r)
    (hKok : ∀ s, K s = some r → Kok s) (hKPok : ∀ av s, KP av s = some r → KPok av s) (hm : RelM X st G w) (hr : RelR G st act) : (Code.region id ops true).wp P Q act w := by
  have hst := stat_of hd
  have hcan0 := runD_can hD fun l hl => (h l hl).2
  refine wp_region_any hmix ?_
  have hz : ∀ i d, (Array.replicate ops.size false).getD i d = true → d = true := fun i d hi => by
    rcases Nat.lt_or_ge i ops.size with h' | h'
    · simp [h'] at hi
    · simpa [Array.getElem?_eq_none, h'] using hi
  have hf : ∀ i, (Array.replicate ops.size false).getD i false = false := fun i => by
    cases hq : (Array.replicate ops.size false).getD i false with
    | false => rfl
    | true => have := hz i false hq; cases this
  have hinv : Inv E X ops Kok KPok ops.toList.length [] [] st G act (Array.replicate ops.size false) act { w with drawn := w.drawn + 1 } :=
    { can := hcan0.mono E ops.toList hKok hKPok, cov := fun l hl i hi => .inr (memN_iff.1 (List.all_eq_true.1 (h l hl).1 i (List.mem_range.2 (by simpa using hi))))
      clo := fun a k ha => by cases ha
      lclo := fun a k ha => by
        have ha' : (Array.replicate ops.size false).getD a false = true := ha
        rw [hf] at ha'; cases ha'
      lsub := fun i hi => by rw [hf] at hi; cases hi
      lsz := by simp, rel := hm.drew, reg := hr, pend := fun i hi => by cases hi
      dfs := rfl, sz := rfl, same := fun t _ => rfl }
  obtain ⟨n', done', log', s', G', as', hinv', hh'⟩ := settle hE hD hg0 hst hinv
  exact walk_any hE hS hC hD hg0 hst hK hP ops.size hinv' hh' (by
    refine Nat.le_trans List.countP_le_length ?_
    simp)

include hE hS hC hD hg0 hK hP in
/-- The same, where there is but one. -/
theorem runR_ok (hmix : P.follows .mixedOrders = true) {id : Nat} {R : Type} {r : R} {K : St → Option R} {KP : AVal → St → Option R} {st : St} {G : Gh} {w : World} {act : Act} (h : runR E ops.toList st K KP = some r)
    (hKok : ∀ s, K s = some r → Kok s) (hKPok : ∀ av s, KP av s = some r → KPok av s) (hm : RelM X st G w) (hr : RelR G st act) : (Code.region id ops true).wp P Q act w := by
  unfold runR at h
  cases hd : drawOk ops.toList (ancs ops.toList []) with
  | false => simp [hd] at h
  | true =>
    simp only [hd, cond_true] at h
    split at h
    · rename_i l hl
      cases hc : covers ops.toList l with
      | false => rw [hc] at h; cases h
      | true =>
        rw [hc, cond_true] at h
        exact runM_ok hE hS hC hD hg0 hK hP hmix hd (fun l' hl' => by rw [hl] at hl'; obtain rfl := List.mem_singleton.1 hl'; exact ⟨hc, h⟩) hKok hKPok hm hr
    · cases h
end
end Go.Fx

/- The framework, nineteenth text: regions and code. -/
namespace Go.Fx
set_option linter.unusedVariables false
set_option linter.unusedSimpArgs false

structure EnvOk (P : Program) (E : Env) : Prop where
  tab : TabOk P E.tab
  mix : P.follows .mixedOrders = true
  sem : ∀ f s, E.sem f = some s → SemOk P E.gt f s
  det : ∀ f s, E.sem f = some s → SemDet s
  cong : ∀ f s, E.sem f = some s → SemCong s
  lcong : ∀ i L, E.loops i = some L → LoopCong L

theorem putK_ok {X : Ctx} {st : St} {G : Gh} {w : World} {R : Type} {r : R} {act : Act} {d : Option Tmp} {av : AVal} {v : Value} {K : St → Option R} (h : putK d av st K = some r) (hm : RelM X st G w) (hr : RelR G st act) (hv : RelV G av v) :
    ∃ st', RelM X st' G w ∧ RelR G st' (act.put d v) ∧ K st' = some r := by
  cases d with
  | none => exact ⟨st, hm, hr, h⟩
  | some d =>
    simp only [putK] at h
    cases hc : ((look st.bregs d).isSome || Nat.ble st.n d) with
    | true => simp [hc] at h
    | false =>
      simp only [hc, cond_false] at h
      simp only [Bool.or_eq_false_iff] at hc
      have hd : d < st.n := by
        rcases Nat.lt_or_ge d st.n with h' | h'
        · exact h'
        · have := Nat.ble_eq_true_of_le h'; rw [this] at hc; cases hc.2
      exact ⟨_, hm.setReg d av, hr.put hd hv, h⟩

section
variable {P : Program} {E : Env} (hE : EnvOk P E) {X : Ctx} {R : Type} {r : R} (hg0 : GlobIn E.gt X.S0)
include hE hg0

theorem runOps_ok {ops : Array Oper} {KP : AVal → St → Option R} {K : St → Option R} {Q : Exit → Act → World → Prop}
    (hK : ∀ st G w act, RelM X st G w → RelR G st act → K st = some r → Q .normal act w)
    (hP : ∀ av v st G w act, RelM X st G w → act.defers = [] → RelV G av v → KP av st = some r → Q (.panic [{ v, recovered := false }]) act w) :
    ∀ {l : List Oper} {st : St} {G : Gh} {w : World} {act : Act}, runOps E ops.toList l st K KP = some r → RelM X st G w → RelR G st act → wpList P ops Q l act w
  | [], st, G, w, act, h, hm, hr => hK _ _ _ _ hm hr h
  | o :: rest, st, G, w, act, h, hm, hr => by
    have step : ∀ {q : St}, RelM X q G w → RelR G q act → exec1 E o q (fun v st' => putK o.dst v st' fun s => runOps E ops.toList rest s K KP) KP = some r → Region.wanted o (yielded ops act.tmps) = true → wpList P ops Q (o :: rest) act w := fun {q} hm hr hx hw => by
      simp only [wpList, hw, if_true]
      exact .inl (exec1_ok hE.tab hE.sem hx hg0 hm hr (fun av v st' G' w' m' r' v' k' => by
        obtain ⟨s, m2, r2, k2⟩ := putK_ok k' m' r' v'
        exact runOps_ok hK hP k2 m2 r2) (fun av v st' G' w' m' v' k' => hP av v st' G' w' act m' hr.1 v' k'))
    have skip : ∀ {q : St}, RelM X q G w → RelR G q act → putK o.dst (.one .und) q (fun s => runOps E ops.toList rest s K KP) = some r → Region.wanted o (yielded ops act.tmps) = false → wpList P ops Q (o :: rest) act w := fun {q} hm hr hx hw => by
      simp only [wpList, hw, Bool.false_eq_true, if_false]
      obtain ⟨s, m2, r2, k2⟩ := putK_ok hx hm hr (show RelV G (.one .und) undef from rfl)
      exact runOps_ok hK hP k2 m2 r2
    simp only [runOps] at h
    split at h
    · rename_i hg; exact step hm hr h (by simp [Region.wanted, hg])
    · rename_i j want hg
      split at h
      · cases h
      · rename_i g hgd
        have hy : ∀ j', yielded ops act.tmps j' = (match (((ops[j']?).bind (·.dst)).bind (act.tmps[·]?)) with | some (.bool b) => some b | _ => none) := fun j' => rfl
        have hg2 : (ops[j]?).bind (·.dst) = some g := by simpa [guardDst] using hgd
        split at h
        · rename_i c hreg
          have hv := boolof (v := .one (.dat .bool c)) rfl (hr.2.2 g _ hreg)
          have hget : act.tmps[g]? = some (.bool c) := by
            rw [Array.getD_eq_getD_getElem?] at hv
            cases hq : act.tmps[g]? with
            | none => rw [hq] at hv; cases hv
            | some u => rw [hq] at hv; simpa using hv
          have hyj : yielded ops act.tmps j = some c := by rw [hy, hg2]; simp [hget]
          have rel : ∀ b, c = b → RelR G (st.setReg g (.one (.dat .bool b))) act := fun b e => hr.refine (by rw [hv, e]; exact relBool b)
          cases c with
          | true =>
            simp only [cond_true] at h
            cases want with
            | true => simp only [cond_true] at h; exact step (hm.setReg _ _) (rel _ rfl) h (by simp [Region.wanted, hg, hyj])
            | false => simp only [cond_false] at h; exact skip (hm.setReg _ _) (rel _ rfl) h (by simp [Region.wanted, hg, hyj])
          | false =>
            simp only [cond_false] at h
            cases want with
            | true => simp only [cond_true] at h; exact skip (hm.setReg _ _) (rel _ rfl) h (by simp [Region.wanted, hg, hyj])
            | false => simp only [cond_false] at h; exact step (hm.setReg _ _) (rel _ rfl) h (by simp [Region.wanted, hg, hyj])
        · rename_i hreg
          have hv : act.tmps.getD g undef = undef := hr.2.2 g _ hreg
          have hyj : yielded ops act.tmps j = none := by
            rw [hy, hg2]
            rw [Array.getD_eq_getD_getElem?] at hv
            cases hq : act.tmps[g]? with
            | none => simp [hq]
            | some u =>
              rw [hq] at hv
              simp only [Option.getD_some] at hv
              subst hv
              simp [hq, undef]
          exact skip hm hr h (by simp [Region.wanted, hg, hyj])
        · cases h

omit hE hg0 in
/-- What is to be known of a piece of code that is told in one. -/
def CodeOk (P : Program) (gt : Nat → Option GA) (c : Code) (L : LoopSem) : Prop :=
  ∀ {R : Type} {r : R} {X : Ctx} {st : St} {G : Gh} {w : World} {act : Act} {K : Exit → St → Option R} {KP : AVal → St → Option R} {Q : Exit → Act → World → Prop},
    L.run st K KP = some r → GlobIn gt X.S0 → RelM X st G w → RelR G st act →
    (∀ e st G w act, RelM X st G w → RelR G st act → K e st = some r → Q e act w) →
    (∀ av v st G w act, RelM X st G w → act.defers = [] → RelV G av v → KP av st = some r → Q (.panic [{ v, recovered := false }]) act w) → c.wp P Q act w
abbrev LoopOk (P : Program) (gt : Nat → Option GA) (id : Nat) (body : Code) (L : LoopSem) : Prop := CodeOk P gt (.block id body) L

noncomputable def LoopsOk (P : Program) (E : Env) (c : Code) : Prop :=
  Code.rec (motive := fun _ => Prop) True (fun id ops draw => match draw, E.loops (id + 1000000) with | true, some L => CodeOk P E.gt (.region id ops true) L | _, _ => True) (fun _ _ x y => x ∧ y) (fun _ _ _ x y => x ∧ y)
    (fun id b x => match E.loops id with | some L => LoopOk P E.gt id b L | none => x) (fun _ _ => True) (fun _ _ _ _ _ _ => True)
    (fun _ => True) (fun _ _ => True) (fun _ => True) (fun _ => True) True (fun _ => True) c

theorem runC_ok (c : Code) : LoopsOk P E c → ∀ {st : St} {G : Gh} {w : World} {act : Act} {K : Exit → St → Option R} {KP : AVal → St → Option R} {Q : Exit → Act → World → Prop}, runC E c st K KP = some r → RelM X st G w → RelR G st act →
    (∀ e st G w act, RelM X st G w → RelR G st act → K e st = some r → Q e act w) →
    (∀ av v st G w act, RelM X st G w → act.defers = [] → RelV G av v → KP av st = some r → Q (.panic [{ v, recovered := false }]) act w) → c.wp P Q act w := by
  induction c with
  | skip => intro _ st G w act K KP Q h hm hr hK hP; exact wp_skip (hK _ _ _ _ _ hm hr h)
  | region id ops draw =>
    intro hL st G w act K KP Q h hm hr hK hP
    cases draw with
    | true =>
      have h : (match E.loops (id + 1000000) with | some L => L.run st K KP | none => runR E ops.toList st (fun s => K .normal s) KP) = some r := h
      have hL : (match true, E.loops (id + 1000000) with | true, some L => CodeOk P E.gt (.region id ops true) L | _, _ => True) := hL
      cases hl : E.loops (id + 1000000) with
      | some L =>
        simp only [hl] at h hL
        exact hL h hg0 hm hr hK hP
      | none =>
        simp only [hl] at h
        exact runR_ok hE.tab hE.sem hE.cong hE.det hg0 (fun st G w act m' r' k' => hK .normal st G w act m' r' k') (Kok := fun s => K .normal s = some r) (KPok := fun av s => KP av s = some r) hP hE.mix h (fun _ h => h) (fun _ _ h => h) hm hr
    | false => exact wp_region_list (runOps_ok hE hg0 (fun st G w act => hK .normal st G w act) hP h hm hr)
  | seq a b iha ihb =>
    intro hL st G w act K KP Q h hm hr hK hP
    refine wp_seq (iha hL.1 h hm hr (fun e s G w act m r' k => ?_) (fun av v s G w act m r' v' k => hP av v s G w act m r' v' k))
    cases e with
    | normal => exact ihb hL.2 k m r' hK hP
    | _ => exact hK _ _ _ _ _ m r' k
  | cond c t e iht ihe =>
    intro hL st G w act K KP Q h hm hr hK hP
    have h : (match (ev E st c).bool? with | some b => bif b then runC E t st K KP else runC E e st K KP | none => none) = some r := h
    cases hb : (ev E st c).bool? with
    | none => simp [hb] at h
    | some b =>
      simp only [hb] at h
      have hv := boolof hb (ev_ok (hg0.mono hm.s0) hr c)
      cases b with
      | true => exact wp_cond_true hv (iht hL.1 h hm hr hK hP)
      | false => exact wp_cond_false hv (ihe hL.2 h hm hr hK hP)
  | block id b ih =>
    intro hL st G w act K KP Q h hm hr hK hP
    have h : (match E.loops id with
      | some L => L.run st K KP
      | none => runC E b st (fun e s => match e with | .exit i => (bif Nat.beq i id then K .normal s else K (.exit i) s) | e => K e s) KP) = some r := h
    have hL : (match E.loops id with | some L => LoopOk P E.gt id b L | none => LoopsOk P E b) := hL
    cases hl : E.loops id with
    | some L =>
      simp only [hl] at h hL
      exact hL h hg0 hm hr hK hP
    | none =>
      simp only [hl] at h hL
      refine wp_block (ih hL h hm hr (fun e s G w act m r' k => ?_) (fun av v s G w act m r' v' k => hP av v s G w act m r' v' k))
      cases e with
      | exit i =>
        simp only [Exit.inBlock]
        by_cases e : i = id
        · subst e
          simp only [Nat.beq_refl, cond_true] at k
          simp only [if_true]; exact hK _ _ _ _ _ m r' k
        · simp only [nbeq_false e, cond_false] at k
          simp only [e, if_false]; exact hK _ _ _ _ _ m r' k
      | _ => exact hK _ _ _ _ _ m r' k
  | exit id => intro _ st G w act K KP Q h hm hr hK hP; exact wp_exit (hK _ _ _ _ _ hm hr h)
  | ret => intro _ st G w act K KP Q h hm hr hK hP; exact wp_ret (hK _ _ _ _ _ hm hr h)
  | _ => intro _ st G w act K KP Q h; cases h
end
end Go.Fx

/- The framework, twentieth text: a state that says less, its arrays under other names. -/
namespace Go.Fx
set_option linter.unusedVariables false
set_option linter.unusedSimpArgs false

/-- New names of arrays: of an old one, or of none (an empty one). -/
abbrev AL := List (Nat × Option Nat × Arr)
def Gh.ren (G : Gh) (al : AL) : Gh := { G with
  ψ := fun nm => match look al nm with | some (some a, _) => G.ψ a | _ => .slice none 0 0
  HA := fun nm => match look al nm with | some (some a, _) => G.HA a | _ => [] }

def St.regD (st : St) (i : Nat) : AVal := (match st.reg i with | some v => v | none => .one .any)

/-- A state that says less; what a frame is asked to keep is not looked at. -/
structure NormC (st t : St) (al : AL) : Prop where
  n : t.n = st.n
  arr : ∀ nm A, t.arr nm = some A → ∃ src, look al nm = some (src, A)
  src : ∀ nm a A, look al nm = some (some a, A) → A.sh = false ∧ st.arr a = some A
  nil : ∀ nm A, look al nm = some (none, A) → A.sh = false ∧ A.l = [] ∧ A.own = true
  inj : ∀ nm nm' a A A', look al nm = some (some a, A) → look al nm' = some (some a, A') → nm = nm'
  reg : ∀ i tv, t.reg i = some tv → ∀ X G w v, RelM X st G w → RelV G (st.regD i) v → RelV (G.ren al) tv v
  obj : ∀ o tl, t.obj o = some tl → ∃ sl, st.obj o = some sl ∧ All2 (fun a b => ∀ X G w v, RelM X st G w → RelL G a v → RelL (G.ren al) b v) (st.resl o 0 sl) (t.resl o 0 tl)
structure Norm (st t : St) (al : AL) : Prop extends NormC st t al where
  pin : ∀ o sl, o < 10000 → st.obj o = some sl → ∃ tl, t.obj o = some tl
  bas : ∀ o j lf sl, o < 10000 → lookL st.bleaves o j = some lf → st.obj o = some sl → sl[j]? = some .bas → (∃ lf', lookL t.bleaves o j = some lf') ∧ ∃ tl, t.obj o = some tl ∧ tl[j]? = some .bas

theorem All2.comp {α β γ : Type} {R : α → γ → Prop} {T : β → γ → Prop} : ∀ {xs : List α} {ys : List β} {vs : List γ}, All2 (fun a b => ∀ v, R a v → T b v) xs ys → All2 R xs vs → All2 T ys vs
  | [], [], [], _, _ => trivial
  | _ :: _, _ :: _, _ :: _, h, k => ⟨h.1 _ k.1, All2.comp h.2 k.2⟩
  | [], [], _ :: _, _, k => k.elim
  | [], _ :: _, _, h, _ => h.elim
  | _ :: _, [], _, h, _ => h.elim
  | _ :: _, _ :: _, [], _, k => k.elim

theorem NormC.own {st t : St} {al : AL} (h : NormC st t al) {G : Gh} : ∀ x b, Owns (G.ren al) t x b → ∃ x', Owns G st x' b ∧ ((∃ o, x = (false, o) ∧ x' = (false, o)) ∨ ∃ nm a A, x = (true, nm) ∧ x' = (true, a) ∧ look al nm = some (some a, A)) := fun x b hx => by
  obtain ⟨k, n⟩ := x
  cases k with
  | false =>
    obtain ⟨⟨tl, ht⟩, rfl⟩ := hx
    obtain ⟨sl, hs, _⟩ := h.obj n tl ht
    exact ⟨(false, n), ⟨⟨sl, hs⟩, rfl⟩, .inl ⟨n, rfl, rfl⟩⟩
  | true =>
    obtain ⟨⟨A, hA, hs⟩, p, hp, rfl⟩ := hx
    obtain ⟨src, hl⟩ := h.arr n A hA
    cases src with
    | none => simp [Gh.ren, hl] at hp
    | some a =>
      simp only [Gh.ren, hl] at hp
      exact ⟨(true, a), ⟨⟨A, (h.src n a A hl).2, hs⟩, p, hp, rfl⟩, .inr ⟨n, a, A, rfl, rfl, hl⟩⟩

theorem NormC.ok {st t : St} {al : AL} (h : NormC st t al) {X : Ctx} {G : Gh} {w : World} (hm : RelM X st G w) (hpin : ∀ o p, X.pin o = some p → ∃ tl, t.obj o = some tl)
    (hbv : ∀ o j u, X.bv o j = some u → (∃ lf', lookL t.bleaves o j = some lf') ∧ ∃ tl, t.obj o = some tl ∧ tl[j]? = some .bas) : RelM X t (G.ren al) w := by
  have own := h.own (G := G)
  refine { sl := fun a => ?_, sh := hm.sh, ob := fun o tl ho => ?_, ar := fun nm A hA => ?_, ah := fun nm A hA hs => ?_, nd := fun nm A hA hs => ?_, dis := fun x y b hx hy => ?_, dS := fun x b hx => ?_, inn := fun x b hx => ?_, s0 := hm.s0, sn := hm.sn, fr := hm.fr, sz := hm.sz, os := hm.os, tp := hm.tp, out := hm.out, pin := fun o p hp => ?_, bv := fun o j u hv => (by obtain ⟨_, _, r⟩ := hm.bv o j u hv; obtain ⟨q1, q2⟩ := hbv o j u hv; exact ⟨q1, q2, r⟩) }
  · show SlV (match look al a with | some (some a, _) => G.ψ a | _ => .slice none 0 0)
    split
    · exact hm.sl _
    · exact .inl ⟨_, _, _, rfl⟩
  · obtain ⟨sl, hs, ha⟩ := h.obj o tl ho
    obtain ⟨arr, elem, mid, g1, g2, g3⟩ := hm.ob o sl hs
    exact ⟨arr, elem, mid, g1, g2, (ha.imp fun a b hab v hv => hab X G w v hm hv).comp g3⟩
  · obtain ⟨src, hl⟩ := h.arr nm A hA
    cases src with
    | none =>
      obtain ⟨h1, h2, h3⟩ := h.nil nm A hl
      refine (arrRel_own h1 h3).2 ?_
      exact .inl ⟨h2, by simp [Gh.ren, hl], by simp [Gh.ren, hl]⟩
    | some a =>
      obtain ⟨h1, h2⟩ := h.src nm a A hl
      exact (hm.ar a A h2).mono (G := G) (a := a) (G' := G.ren al) (a' := nm) (fun _ _ h => h) (by simp [Gh.ren, hl]) (by simp [Gh.ren, hl]) (fun _ _ _ => ⟨rfl, rfl, rfl⟩)
  · obtain ⟨src, hl⟩ := h.arr nm A hA
    cases src with
    | none => intro p hp; simp [Gh.ren, hl] at hp
    | some a => simpa [Gh.ren, hl] using hm.ah a A (h.src nm a A hl).2 hs
  · obtain ⟨src, hl⟩ := h.arr nm A hA
    cases src with
    | none => simp [Gh.ren, hl]
    | some a => simpa [Gh.ren, hl] using hm.nd a A (h.src nm a A hl).2 hs
  · obtain ⟨x', hx', cx⟩ := own x b hx
    obtain ⟨y', hy', cy⟩ := own y b hy
    have e := hm.dis x' y' b hx' hy'
    rcases cx with ⟨o, rfl, rfl⟩ | ⟨nm, a, A, rfl, rfl, hl⟩ <;> rcases cy with ⟨o', rfl, rfl⟩ | ⟨nm', a', A', rfl, rfl, hl'⟩
    · exact e
    · simp at e
    · simp at e
    · simp only [Prod.mk.injEq, true_and] at e
      subst e
      rw [h.inj nm nm' a A A' hl hl']
  · obtain ⟨x', hx', _⟩ := own x b hx; exact hm.dS x' b hx'
  · obtain ⟨x', hx', _⟩ := own x b hx; exact hm.inn x' b hx'
  · exact ⟨hpin o p hp, (hm.pin o p hp).2⟩
theorem Norm.ok {st t : St} {al : AL} (h : Norm st t al) {X : Ctx} {G : Gh} {w : World} (hm : RelM X st G w) : RelM X t (G.ren al) w :=
  h.toNormC.ok hm (fun o p hp => (by obtain ⟨⟨sl, hs⟩, _⟩ := hm.pin o p hp; exact h.pin o sl (X.pl o p hp) hs))
    (fun o j u hv => (by obtain ⟨⟨lf, h1⟩, ⟨sl, h2, h3⟩, _⟩ := hm.bv o j u hv; exact h.bas o j lf sl (X.bl o j u hv) h1 h2 h3))

theorem NormC.regs {st t : St} {al : AL} (h : NormC st t al) {X : Ctx} {G : Gh} {w : World} (hm : RelM X st G w) {act : Act} (hr : RelR G st act) : RelR (G.ren al) t act :=
  ⟨hr.1, hr.2.1.trans h.n.symm, fun i tv ht => by
    refine h.reg i tv ht X G w _ hm ?_
    unfold St.regD
    cases hs : st.reg i with
    | none => trivial
    | some sv => exact hr.2.2 i sv hs⟩

/-- A state that says less, all names as they were. -/
structure Weak (st t : St) : Prop where
  n : t.n = st.n
  arr : ∀ nm A, t.arr nm = some A → st.arr nm = some A
  reg : ∀ i tv, t.reg i = some tv → ∀ G v, RelV G (st.regD i) v → RelV G tv v
  obj : ∀ o tl, t.obj o = some tl → ∃ sl, st.obj o = some sl ∧ All2 (fun a b => ∀ G v, RelL G a v → RelL G b v) (st.resl o 0 sl) (t.resl o 0 tl)
  pin : ∀ o sl, o < 10000 → st.obj o = some sl → ∃ tl, t.obj o = some tl
  bas : ∀ o j lf sl, lookL t.bleaves o j = some lf → st.obj o = some sl → sl[j]? = some .bas → ∃ tl, t.obj o = some tl ∧ tl[j]? = some .bas

theorem Weak.ok {st t : St} (h : Weak st t) {X : Ctx} {G : Gh} {w : World} (hm : RelM X st G w) (hbv : ∀ o j u, X.bv o j = some u → ∃ lf, lookL t.bleaves o j = some lf) : RelM X t G w := by
  have own : ∀ x b, Owns G t x b → Owns G st x b := fun x b hx => by
    obtain ⟨k, n⟩ := x
    cases k with
    | false =>
      obtain ⟨⟨tl, ht⟩, rfl⟩ := hx
      obtain ⟨sl, hs, _⟩ := h.obj n tl ht
      exact ⟨⟨sl, hs⟩, rfl⟩
    | true =>
      obtain ⟨⟨A, hA, hs⟩, p, hp, rfl⟩ := hx
      exact ⟨⟨A, h.arr n A hA, hs⟩, p, hp, rfl⟩
  refine { sl := hm.sl, sh := hm.sh, ob := fun o tl ho => ?_, ar := fun nm A hA => hm.ar nm A (h.arr nm A hA), ah := fun nm A hA hs => hm.ah nm A (h.arr nm A hA) hs, nd := fun nm A hA hs => hm.nd nm A (h.arr nm A hA) hs, dis := fun x y b hx hy => hm.dis x y b (own x b hx) (own y b hy), dS := fun x b hx => hm.dS x b (own x b hx), inn := fun x b hx => hm.inn x b (own x b hx), s0 := hm.s0, sn := hm.sn, fr := hm.fr, sz := hm.sz, os := hm.os, tp := hm.tp, out := hm.out, pin := fun o p hp => ?_, bv := fun o j u hv => (by obtain ⟨_, ⟨sl, h2, h3⟩, r⟩ := hm.bv o j u hv; obtain ⟨lf, h1⟩ := hbv o j u hv; exact ⟨⟨lf, h1⟩, h.bas o j lf sl h1 h2 h3, r⟩) }
  · obtain ⟨sl, hs, ha⟩ := h.obj o tl ho
    obtain ⟨arr, elem, mid, g1, g2, g3⟩ := hm.ob o sl hs
    exact ⟨arr, elem, mid, g1, g2, (ha.imp fun a b hab v hv => hab G v hv).comp g3⟩
  · obtain ⟨⟨sl, hs⟩, e⟩ := hm.pin o p hp
    exact ⟨h.pin o sl (X.pl o p hp) hs, e⟩

theorem Weak.regs {st t : St} (h : Weak st t) {G : Gh} {act : Act} (hr : RelR G st act) : RelR G t act :=
  ⟨hr.1, hr.2.1.trans h.n.symm, fun i tv ht => by
    refine h.reg i tv ht G _ ?_
    unfold St.regD
    cases hs : st.reg i with
    | none => trivial
    | some sv => exact hr.2.2 i sv hs⟩
end Go.Fx

/- The framework, twenty-first text: states that are laid out, and how they are read. Definitions. -/
namespace Go.Fx
set_option linter.unusedVariables false

inductive Pl where
  | r (i : Nat) | l (o j : Nat)
def Pl.key : Pl → Nat
  | .r i => 1000000 + i
  | .l o j => 2000000 + o * 1000 + j
/-- Modes in which an array is handed on. -/
def Md.same : Md → Md → Bool
  | .flat, .flat => true
  | .deep, .deep => true
  | .mp, .mp => true
  | _, _ => false
theorem Md.eq_same {m m' : Md} (h : m.same m' = true) : m = m' := by cases m <;> cases m' <;> simp_all [Md.same]
def Md.owns : Md → Bool
  | .flat => true
  | .deep => true
  | _ => false
inductive Spec where
  | any | d (t : Ty) | h (m : Md) (t : Ty) | lit (l : Leaf)
@[reducible] def Spec.V : Spec → Type
  | .any => Unit | .d t => t.den | .h _ t => List t.den | .lit _ => Unit
abbrev Pls := List (Pl × Spec)
@[reducible] def PV : Pls → Type
  | [] => Unit
  | p :: r => p.2.V × PV r

def Spec.leaf (nm : Nat) : (s : Spec) → s.V → Leaf
  | .any, _ => .any
  | .d t, x => .dat t x
  | .h _ _, _ => .hdl nm
  | .lit l, _ => l
def Spec.arr : (s : Spec) → s.V → Option Arr
  | .h m t, x => some ⟨t, m, false, x⟩
  | _, _ => none

def regsOf : (ps : Pls) → PV ps → List (Nat × AVal)
  | [], _ => []
  | (.r i, s) :: r, v => (i, .one (s.leaf (Pl.r i).key v.1)) :: regsOf r v.2
  | (.l _ _, _) :: r, v => regsOf r v.2
def leavesOf : (ps : Pls) → PV ps → List (Nat × Nat × Leaf)
  | [], _ => []
  | (.l o j, s) :: r, v => (o, j, s.leaf (Pl.l o j).key v.1) :: leavesOf r v.2
  | (.r _, _) :: r, v => leavesOf r v.2
def arrsOf : (ps : Pls) → PV ps → List (Nat × Arr)
  | [], _ => []
  | (p, s) :: r, v => (match s.arr v.1 with | some A => (p.key, A) :: arrsOf r v.2 | none => arrsOf r v.2)

structure Lay where
  n : Nat
  objs : List (Nat × Nat)
  cs : Pls
  vs : Pls

def shapeL (cl vl : List (Nat × Nat × Leaf)) (o : Nat) : Nat → Nat → List Leaf
  | _, 0 => []
  | j, k + 1 => (match lookL cl o j with | some _ => .bas | none => match lookL vl o j with | some l => l | none => .any) :: shapeL cl vl o (j + 1) k
def Lay.st (L : Lay) (c : PV L.cs) (v : PV L.vs) : St :=
  ⟨L.n, regsOf L.vs v, L.objs.map fun p => (p.1, shapeL (leavesOf L.cs c) (leavesOf L.vs v) p.1 0 p.2), arrsOf L.vs v, regsOf L.cs c, leavesOf L.cs c, arrsOf L.cs c⟩

def litEq : Leaf → Leaf → Bool
  | .nil, .nil => true
  | .nilp, .nilp => true
  | .und, .und => true
  | .ptr o f, .ptr o' f' => Nat.beq o o' && Nat.beq f f'
  | .fn f, .fn f' => Nat.beq f f'
  | _, _ => false

def St.at (st : St) : Pl → AVal
  | .r i => st.regD i
  | .l o j => (match st.obj o with | some ls => (match ls[j]? with | some l => .one (st.res o j l) | none => .one .any) | none => .one .any)

/-- One place is read. -/
def rd1 (st : St) (p : Pl) : (s : Spec) → Option (s.V × AL)
  | .any => some ((), [])
  | .d t => (match (st.at p).get st t with | some x => some (x, []) | none => none)
  | .h m t => (match st.at p with
    | .one .nil => (bif m.owns then some ([], [(p.key, none, ⟨t, m, false, []⟩)]) else none)
    | .one (.hdl a) => (match st.arr a with
      | some A => (bif A.sh || !m.same A.md then none else match cast? (.slice A.t) (.slice t) A.l with | some x => some (x, [(p.key, some a, ⟨t, m, false, x⟩)]) | none => none)
      | none => none)
    | _ => none)
  | .lit l => (match st.at p with | .one l' => (bif litEq l l' then some ((), []) else none) | _ => none)
def rdAll (st : St) : (ps : Pls) → Option (PV ps × AL)
  | [] => some ((), [])
  | p :: r => (match rd1 st p.1 p.2 with
    | some (x, a) => (match rdAll st r with | some (xs, b) => some ((x, xs), a ++ b) | none => none)
    | none => none)

/-- What is to be read as data is given away. -/
def shareAll : Pls → St → Option St
  | [], st => some st
  | (p, .d _) :: r, st => (match (st.at p).shared st with | some st' => shareAll r st' | none => none)
  | _ :: r, st => shareAll r st

def nodupN : List Nat → Bool
  | [] => true
  | x :: r => !memN x r && nodupN r
def alOk (al : AL) : Bool := nodupN (al.map (·.1)) && nodupN (al.filterMap (·.2.1))
def objsOk (objs : List (Nat × Nat)) (st : St) : Bool :=
  objs.all (fun p => match st.obj p.1 with | some ls => Nat.beq ls.length p.2 | none => false) && st.objs.all fun p => Nat.ble 10000 p.1 || memN p.1 (objs.map (·.1))

/-- The things that do not change are as they were. -/
def keep1 (st : St) : Pl → Spec → Bool
  | .r i, s => (look st.regs i).isNone && (match s with | .h _ _ => (look st.arrs (Pl.r i).key).isNone | .lit l => litEq l l | _ => true)
  | .l o j, s => (match st.obj o with | some ls => (match ls[j]? with | some .bas => true | _ => false) | none => false) && (match s with | .h _ _ => (look st.arrs (Pl.l o j).key).isNone | .lit l => litEq l l | _ => true)
def keepAll (st : St) (cs : Pls) : Bool := nodupN (cs.map fun p => p.1.key) && cs.all fun p => keep1 st p.1 p.2
def keepAL : (cs : Pls) → PV cs → AL
  | [], _ => []
  | (p, s) :: r, v => (match s.arr v.1 with | some A => (p.key, some p.key, A) :: keepAL r v.2 | none => keepAL r v.2)

/-- The state at a loop's head. -/
def ent (L : Lay) (st : St) : Option (PV L.cs × PV L.vs × St) :=
  match shareAll L.cs st with
  | none => none
  | some s => (match shareAll L.vs s with
    | none => none
    | some s => (match rdAll s L.cs with
      | none => none
      | some (c, a) => (match rdAll s L.vs with
        | none => none
        | some (v, b) => (bif Nat.beq L.n s.n && alOk (a ++ b) && objsOk L.objs s then some (c, v, s) else none))))
/-- The state behind a round, or at an exit. -/
def rnd (L : Lay) (al : AL) (s : St) : Option (PV L.vs) :=
  match shareAll L.vs s with
  | none => none
  | some s => (match rdAll s L.vs with
    | none => none
    | some (v, b) => (bif keepAll s L.cs && alOk (al ++ b) && objsOk L.objs s then some v else none))
end Go.Fx

/- The framework, twenty-second text: reading a state that is laid out is sound. -/
namespace Go.Fx
set_option linter.unusedVariables false
set_option linter.unusedSimpArgs false

theorem nodupN_iff : ∀ {l : List Nat}, nodupN l = true → l.Nodup
  | [], _ => List.nodup_nil
  | x :: r, h => by
    simp only [nodupN, Bool.and_eq_true, Bool.not_eq_true'] at h
    rw [List.nodup_cons]
    exact ⟨(fun hx => (by rw [memN_iff.2 hx] at h; cases h.1)), nodupN_iff h.2⟩

theorem look_of_mem {α : Type} : ∀ {l : List (Nat × α)} {k : Nat} {v : α}, (l.map (·.1)).Nodup → (k, v) ∈ l → look l k = some v
  | (k', v') :: r, k, v, hn, h => by
    rw [look_cons]
    rw [List.map_cons, List.nodup_cons] at hn
    by_cases e : k' = k
    · subst e
      rcases List.mem_cons.1 h with h | h
      · cases h; simp
      · exact absurd (List.mem_map_of_mem (f := (·.1)) h) hn.1
    · rw [if_neg e]
      rcases List.mem_cons.1 h with h | h
      · cases h; exact absurd rfl e
      · exact look_of_mem hn.2 h

theorem src_inj : ∀ {al : AL} {n n' a : Nat} {A A' : Arr}, (al.filterMap (·.2.1)).Nodup → (n, some a, A) ∈ al → (n', some a, A') ∈ al → n = n'
  | (k, src, B) :: r, n, n', a, A, A', hn, h, h' => by
    have hmem : ∀ {m : Nat} {C : Arr}, (m, some a, C) ∈ r → a ∈ r.filterMap (·.2.1) := fun {m C} hm => List.mem_filterMap.2 ⟨_, hm, rfl⟩
    rcases List.mem_cons.1 h with h1 | h1 <;> rcases List.mem_cons.1 h' with h2 | h2
    · cases h1; cases h2; rfl
    · cases h1
      simp only [List.filterMap_cons, List.nodup_cons] at hn
      exact absurd (hmem h2) hn.1
    · cases h2
      simp only [List.filterMap_cons, List.nodup_cons] at hn
      exact absurd (hmem h1) hn.1
    · refine src_inj (al := r) ?_ h1 h2
      cases src with
      | none => simpa using hn
      | some _ => simp only [List.filterMap_cons, List.nodup_cons] at hn; exact hn.2

/-- A name's source is what it is said to be. -/
def ALgood (s : St) (al : AL) : Prop := ∀ nm src A, (nm, src, A) ∈ al → A.sh = false ∧ (match src with | some a => s.arr a = some A | none => A.l = [] ∧ A.own = true)

structure Src (s : St) (al : AL) (p : Pl) (sp : Spec) (x : sp.V) : Prop where
  rel : ∀ X G w v, RelM X s G w → RelV G (s.at p) v → RelV (G.ren al) (.one (sp.leaf p.key x)) v
  arr : ∀ A, sp.arr x = some A → ∃ src, look al p.key = some (src, A)
def SrcAll (s : St) (al : AL) : (ps : Pls) → PV ps → Prop
  | [], _ => True
  | (p, sp) :: r, v => Src s al p sp v.1 ∧ SrcAll s al r v.2

theorem litEq_eq {l l' : Leaf} (h : litEq l l' = true) : l = l' := by
  cases l <;> cases l' <;> simp_all [litEq]
theorem lit_ren {G : Gh} {al : AL} {l l' : Leaf} {v : Value} (h : litEq l l' = true) (r : RelL G l' v) : RelL (G.ren al) l v := by
  rw [litEq_eq h]
  cases l' <;> first | exact r | (cases l <;> simp [litEq] at h)

theorem rd1_good {s : St} {p : Pl} {sp : Spec} {x : sp.V} {a : AL} (h : rd1 s p sp = some (x, a)) : ALgood s a := by
  cases sp with
  | any => simp only [rd1, Option.some.injEq, Prod.mk.injEq] at h; obtain ⟨_, rfl⟩ := h; intro _ _ _ hm; cases hm
  | d t =>
    simp only [rd1] at h
    split at h
    · simp only [Option.some.injEq, Prod.mk.injEq] at h; obtain ⟨_, rfl⟩ := h; intro _ _ _ hm; cases hm
    · cases h
  | lit l =>
    simp only [rd1] at h
    split at h
    · rename_i l' _
      cases he : litEq l l' <;> simp [he] at h
      subst h; intro _ _ _ hm; cases hm
    · cases h
  | h m t =>
    simp only [rd1] at h
    split at h
    · cases hw : m.owns with
      | false => simp [hw] at h
      | true =>
      simp only [hw, cond_true, Option.some.injEq, Prod.mk.injEq] at h
      obtain ⟨_, rfl⟩ := h
      intro nm src A hm
      simp only [List.mem_singleton, Prod.mk.injEq] at hm
      obtain ⟨_, rfl, rfl⟩ := hm
      exact ⟨rfl, rfl, hw⟩
    · rename_i b _
      split at h
      · rename_i A hA
        cases hs : (A.sh || !m.same A.md) with
        | true => simp [hs] at h
        | false =>
          simp only [hs, cond_false] at h
          simp only [Bool.or_eq_false_iff, Bool.not_eq_false'] at hs
          split at h
          · rename_i y hy
            simp only [Option.some.injEq, Prod.mk.injEq] at h
            obtain ⟨rfl, rfl⟩ := h
            intro nm src B hm
            simp only [List.mem_singleton, Prod.mk.injEq] at hm
            obtain ⟨_, rfl, rfl⟩ := hm
            obtain ⟨ec, el⟩ := cast?_some hy
            have hmd := Md.eq_same hs.2
            obtain ⟨t', dp, sh, ll⟩ := A
            simp only [Ty.slice.injEq] at ec
            subst ec
            simp only at el hs hmd
            obtain ⟨rfl, _⟩ := hs
            subst el hmd
            exact ⟨rfl, hA⟩
          · cases h
      · cases h
    · cases h

theorem rd1_src {s : St} {p : Pl} {sp : Spec} {x : sp.V} {a al : AL} (h : rd1 s p sp = some (x, a)) (hsub : ∀ e ∈ a, e ∈ al) (hn : (al.map (·.1)).Nodup) : Src s al p sp x := by
  cases sp with
  | any => exact ⟨fun _ _ _ _ _ _ => trivial, fun A hA => by cases hA⟩
  | d t =>
    simp only [rd1] at h
    split at h
    · rename_i y hy
      simp only [Option.some.injEq, Prod.mk.injEq] at h
      obtain ⟨rfl, _⟩ := h
      exact ⟨fun X G w v hm hv => avget_ok hm hy hv, fun A hA => by cases hA⟩
    · cases h
  | lit l =>
    simp only [rd1] at h
    split at h
    · rename_i l' hl'
      cases he : litEq l l' <;> simp [he] at h
      refine ⟨fun X G w v hm hv => ?_, fun A hA => by cases hA⟩
      rw [hl'] at hv
      exact lit_ren he hv
    · cases h
  | h m t =>
    simp only [rd1] at h
    split at h
    · rename_i hat
      cases hw : m.owns with
      | false => simp [hw] at h
      | true =>
      simp only [hw, cond_true, Option.some.injEq, Prod.mk.injEq] at h
      obtain ⟨rfl, rfl⟩ := h
      have hl := look_of_mem hn (hsub _ (List.mem_singleton.2 rfl))
      refine ⟨fun X G w v hm hv => ?_, fun A hA => ⟨none, by rw [hl]; simp [Spec.arr] at hA; rw [hA]⟩⟩
      rw [hat] at hv
      show v = (G.ren al).ψ p.key
      simp only [Gh.ren, hl]
      exact hv
    · rename_i b hat
      split at h
      · rename_i A hA
        cases hs : (A.sh || !m.same A.md) with
        | true => simp [hs] at h
        | false =>
          simp only [hs, cond_false] at h
          split at h
          · rename_i y hy
            simp only [Option.some.injEq, Prod.mk.injEq] at h
            obtain ⟨rfl, rfl⟩ := h
            have hl := look_of_mem hn (hsub _ (List.mem_singleton.2 rfl))
            refine ⟨fun X G w v hm hv => ?_, fun A hA => ⟨some b, by rw [hl]; simp [Spec.arr] at hA; rw [hA]⟩⟩
            rw [hat] at hv
            show v = (G.ren al).ψ p.key
            simp only [Gh.ren, hl]
            exact hv
          · cases h
      · cases h
    · cases h

theorem rdAll_good {s : St} : ∀ {ps : Pls} {v : PV ps} {a : AL}, rdAll s ps = some (v, a) → ALgood s a
  | [], v, a, h => by simp only [rdAll, Option.some.injEq, Prod.mk.injEq] at h; obtain ⟨_, rfl⟩ := h; intro _ _ _ hm; cases hm
  | (p, sp) :: r, v, a, h => by
    simp only [rdAll] at h
    split at h
    · rename_i x a1 h1
      split at h
      · rename_i xs b h2
        simp only [Option.some.injEq, Prod.mk.injEq] at h
        obtain ⟨_, rfl⟩ := h
        intro nm src A hm
        rcases List.mem_append.1 hm with hm | hm
        · exact rd1_good h1 nm src A hm
        · exact rdAll_good h2 nm src A hm
      · cases h
    · cases h
theorem rdAll_src {s : St} {al : AL} (hn : (al.map (·.1)).Nodup) : ∀ {ps : Pls} {v : PV ps} {a : AL}, rdAll s ps = some (v, a) → (∀ e ∈ a, e ∈ al) → SrcAll s al ps v
  | [], v, a, h, _ => trivial
  | (p, sp) :: r, v, a, h, hsub => by
    simp only [rdAll] at h
    split at h
    · rename_i x a1 h1
      split at h
      · rename_i xs b h2
        simp only [Option.some.injEq, Prod.mk.injEq] at h
        obtain ⟨rfl, rfl⟩ := h
        exact ⟨rd1_src h1 (fun e he => hsub e (List.mem_append_left _ he)) hn, rdAll_src hn h2 (fun e he => hsub e (List.mem_append_right _ he))⟩
      · cases h
    · cases h

theorem arrsOf_src {s : St} {al : AL} : ∀ {ps : Pls} {v : PV ps} {nm : Nat} {A : Arr}, SrcAll s al ps v → look (arrsOf ps v) nm = some A → ∃ src, look al nm = some (src, A)
  | [], v, nm, A, _, h => by cases h
  | (p, sp) :: r, v, nm, A, hs, h => by
    simp only [arrsOf] at h
    split at h
    · rename_i B hB
      rw [look_cons] at h
      by_cases e : p.key = nm
      · simp only [e, if_true, Option.some.injEq] at h
        subst h; subst e
        exact hs.1.arr _ hB
      · simp only [e, if_false] at h; exact arrsOf_src hs.2 h
    · exact arrsOf_src hs.2 h
theorem regsOf_src {s : St} {al : AL} : ∀ {ps : Pls} {v : PV ps} {i : Nat} {tv : AVal}, SrcAll s al ps v → look (regsOf ps v) i = some tv → ∀ X G w u, RelM X s G w → RelV G (s.regD i) u → RelV (G.ren al) tv u
  | [], v, i, tv, _, h => by cases h
  | (.r j, sp) :: r, v, i, tv, hs, h => by
    simp only [regsOf] at h
    rw [look_cons] at h
    by_cases e : j = i
    · simp only [e, if_true, Option.some.injEq] at h
      subst h; subst e
      exact hs.1.rel
    · simp only [e, if_false] at h; exact regsOf_src hs.2 h
  | (.l o j, sp) :: r, v, i, tv, hs, h => regsOf_src (ps := r) hs.2 h
theorem leavesOf_src {s : St} {al : AL} : ∀ {ps : Pls} {v : PV ps} {o j : Nat} {lf : Leaf}, SrcAll s al ps v → lookL (leavesOf ps v) o j = some lf → ∀ X G w u, RelM X s G w → RelV G (s.at (.l o j)) u → RelL (G.ren al) lf u
  | [], v, o, j, lf, _, h => by cases h
  | (.r _, sp) :: r, v, o, j, lf, hs, h => leavesOf_src (ps := r) hs.2 h
  | (.l o' j', sp) :: r, v, o, j, lf, hs, h => by
    simp only [leavesOf, lookL] at h
    cases hb : (Nat.beq o' o && Nat.beq j' j) with
    | true =>
      simp only [hb, cond_true, Option.some.injEq] at h
      simp only [Bool.and_eq_true] at hb
      have e1 := Nat.eq_of_beq_eq_true hb.1
      have e2 := Nat.eq_of_beq_eq_true hb.2
      subst h; subst e1; subst e2
      exact fun X G w u hm hu => hs.1.rel X G w u hm hu
    | false => simp only [hb, cond_false] at h; exact leavesOf_src hs.2 h

theorem look_objs {cl vl : List (Nat × Nat × Leaf)} : ∀ {objs : List (Nat × Nat)} {o : Nat} {tl : List Leaf}, look (objs.map fun p => (p.1, shapeL cl vl p.1 0 p.2)) o = some tl → ∃ len, (o, len) ∈ objs ∧ tl = shapeL cl vl o 0 len
  | [], o, tl, h => by cases h
  | (q, len) :: r, o, tl, h => by
    simp only [List.map_cons, look_cons] at h
    by_cases e : q = o
    · simp only [e, if_true, Option.some.injEq] at h
      subst h; subst e; exact ⟨len, by simp, rfl⟩
    · simp only [e, if_false] at h
      obtain ⟨len, h1, h2⟩ := look_objs h
      exact ⟨len, List.mem_cons_of_mem _ h1, h2⟩
theorem look_map_some {α β : Type} {f : Nat × α → β} : ∀ {l : List (Nat × α)} {o : Nat}, o ∈ l.map (·.1) → ∃ b, look (l.map fun p => (p.1, f p)) o = some b
  | [], o, h => by cases h
  | p :: r, o, h => by
    simp only [List.map_cons, look_cons]
    by_cases e : p.1 = o
    · simp [e]
    · simp only [e, if_false]
      rcases List.mem_cons.1 h with h | h
      · exact absurd h.symm e
      · exact look_map_some h

theorem shape_src {s : St} {al : AL} {L : Lay} {c : PV L.cs} {v : PV L.vs} (hc : SrcAll s al L.cs c) (hv : SrcAll s al L.vs v) {o : Nat} {sl : List Leaf} (ho : s.obj o = some sl) : ∀ (k j : Nat) (l : List Leaf), l.length = k → (∀ i, sl[j + i]? = l[i]?) →
    All2 (fun a b => ∀ X G w u, RelM X s G w → RelL G a u → RelL (G.ren al) b u) (s.resl o j l) ((L.st c v).resl o j (shapeL (leavesOf L.cs c) (leavesOf L.vs v) o j k))
  | 0, j, [], _, _ => trivial
  | k + 1, j, a :: l, hl, hi => by
    refine ⟨fun X G w u hm hu => ?_, shape_src hc hv ho k (j + 1) l (by simpa using hl) (fun i => by have := hi (i + 1); rw [show j + (i + 1) = j + 1 + i by omega] at this; simpa using this)⟩
    have hat : s.at (.l o j) = .one (s.res o j a) := by
      have h0 : sl[j]? = some a := by simpa using hi 0
      simp [St.at, ho, h0]
    have hu' : RelV G (s.at (.l o j)) u := by rw [hat]; exact hu
    cases hcl : lookL (leavesOf L.cs c) o j with
    | some lf =>
      simp only [hcl, St.res]
      have : (L.st c v).bleaves = leavesOf L.cs c := rfl
      rw [this, hcl]
      exact leavesOf_src hc hcl X G w u hm hu'
    | none =>
      simp only [hcl]
      cases hvl : lookL (leavesOf L.vs v) o j with
      | none => exact trivial
      | some lf =>
        simp only
        have h1 := leavesOf_src hv hvl X G w u hm hu'
        cases lf with
        | bas =>
          simp only [St.res]
          have : (L.st c v).bleaves = leavesOf L.cs c := rfl
          rw [this, hcl]; trivial
        | _ => exact h1

theorem shapeL_get {cl vl : List (Nat × Nat × Leaf)} {o : Nat} : ∀ {k i j : Nat} {lf : Leaf}, j < k → lookL cl o (i + j) = some lf → (shapeL cl vl o i k)[j]? = some .bas
  | k + 1, i, 0, lf, _, h => by simp only [shapeL]; rw [Nat.add_zero] at h; simp [h]
  | k + 1, i, j + 1, lf, hj, h => by
    simp only [shapeL, List.getElem?_cons_succ]
    exact shapeL_get (by omega) (by rw [show i + 1 + j = i + (j + 1) by omega]; exact h)
theorem normC_of {s : St} {al : AL} {L : Lay} {c : PV L.cs} {v : PV L.vs} (hc : SrcAll s al L.cs c) (hv : SrcAll s al L.vs v) (hg : ALgood s al) (hal : alOk al = true) (ho : (L.objs.all fun p => match s.obj p.1 with | some ls => Nat.beq ls.length p.2 | none => false) = true) (hn : L.n = s.n) : NormC s (L.st c v) al := by
  simp only [alOk, Bool.and_eq_true] at hal
  refine { n := hn, arr := fun nm A h => ?_, src := fun nm a A h => ?_, nil := fun nm A h => ?_, inj := fun nm nm' a A A' h h' => ?_, reg := fun i tv h => ?_, obj := fun o tl h => ?_ }
  · unfold St.arr at h
    split at h
    · rename_i B hB; cases h; exact arrsOf_src hv hB
    · exact arrsOf_src hc h
  · exact hg nm (some a) A (look_mem h)
  · exact hg nm none A (look_mem h)
  · exact src_inj (nodupN_iff hal.2) (look_mem h) (look_mem h')
  · unfold St.reg at h
    split at h
    · rename_i B hB; cases h; exact regsOf_src hv hB
    · exact regsOf_src hc h
  · obtain ⟨len, h1, rfl⟩ := look_objs h
    have h2 := List.all_eq_true.1 ho _ h1
    split at h2
    · rename_i sl hsl
      exact ⟨sl, hsl, shape_src hc hv hsl len 0 sl (Nat.eq_of_beq_eq_true h2) (fun i => by rw [Nat.zero_add])⟩
    · cases h2
theorem norm_of {s : St} {al : AL} {L : Lay} {c : PV L.cs} {v : PV L.vs} (hc : SrcAll s al L.cs c) (hv : SrcAll s al L.vs v) (hg : ALgood s al) (hal : alOk al = true) (ho : objsOk L.objs s = true) (hn : L.n = s.n) (hbl : ∀ o j lf, lookL s.bleaves o j = some lf → ∃ lf', lookL (leavesOf L.cs c) o j = some lf') : Norm s (L.st c v) al := by
  simp only [objsOk, Bool.and_eq_true] at ho
  refine { toNormC := normC_of hc hv hg hal ho.1 hn, pin := fun o sl hlt h => ?_, bas := fun o j lf sl hlt hl h hj => ?_ }
  · have h2 := List.all_eq_true.1 ho.2 _ (look_mem h)
    simp only [Bool.or_eq_true] at h2
    rcases h2 with h2 | h2
    · have := Nat.le_of_ble_eq_true h2; omega
    · exact look_map_some (f := fun p => shapeL (leavesOf L.cs c) (leavesOf L.vs v) p.1 0 p.2) (memN_iff.1 h2)
  · have h2 := List.all_eq_true.1 ho.2 _ (look_mem h)
    simp only [Bool.or_eq_true] at h2
    obtain ⟨lf', hlf⟩ := hbl o j lf hl
    refine ⟨⟨lf', hlf⟩, ?_⟩
    rcases h2 with h2 | h2
    · have := Nat.le_of_ble_eq_true h2; omega
    · obtain ⟨tl, htl⟩ := look_map_some (f := fun p => shapeL (leavesOf L.cs c) (leavesOf L.vs v) p.1 0 p.2) (memN_iff.1 h2)
      refine ⟨tl, htl, ?_⟩
      obtain ⟨len, h1, rfl⟩ := look_objs htl
      have h3 := List.all_eq_true.1 ho.1 _ h1
      simp only [h] at h3
      have h3 : sl.length = len := Nat.eq_of_beq_eq_true h3
      have hjl : j < sl.length := (List.getElem?_eq_some_iff.1 hj).1
      exact shapeL_get (by omega) (by rw [Nat.zero_add]; exact hlf)
end Go.Fx

/- The framework, twenty-third text: entering a loop, going round, leaving. -/
namespace Go.Fx
set_option linter.unusedVariables false
set_option linter.unusedSimpArgs false

theorem shareAll_ok {X : Ctx} {w : World} : ∀ {ps : Pls} {st st' : St} {G : Gh}, shareAll ps st = some st' → RelM X st G w → ∃ G', RelM X st' G' w ∧ G.Sub G' ∧ Kept st st'
  | [], st, st', G, h, hm => by simp only [shareAll, Option.some.injEq] at h; subst h; exact ⟨G, hm, .refl G, .refl _⟩
  | (p, sp) :: r, st, st', G, h, hm => by
    cases sp with
    | d t =>
      simp only [shareAll] at h
      split at h
      · rename_i s1 h1
        obtain ⟨G1, m1, a1, k1⟩ := shared_ok h1 hm
        obtain ⟨G2, m2, a2, k2⟩ := shareAll_ok h m1
        exact ⟨G2, m2, a1.trans a2, k1.trans k2⟩
      · cases h
    | _ => exact shareAll_ok (ps := r) h hm
theorem shareAll_base : ∀ {ps : Pls} {st st' : St}, shareAll ps st = some st' → Base st st'
  | [], st, st', h => by simp only [shareAll, Option.some.injEq] at h; subst h; exact .refl _
  | (p, sp) :: r, st, st', h => by
    cases sp with
    | d t =>
      simp only [shareAll] at h
      split at h
      · rename_i s1 h1; exact (shared_base h1).trans (shareAll_base h)
      · cases h
    | _ => exact shareAll_base (ps := r) h
theorem kept_regs {G G' : Gh} {st st' : St} (k : Kept st st') (h : G.Sub G') {act : Act} (r : RelR G st act) : RelR G' st' act := r.sub h k.n k.reg

theorem ent_ok {L : Lay} {st s : St} {c : PV L.cs} {v : PV L.vs} (h : ent L st = some (c, v, s)) (hbl : ∀ o j lf, lookL s.bleaves o j = some lf → ∃ lf', lookL (leavesOf L.cs c) o j = some lf') {X : Ctx} {G : Gh} {w : World} {act : Act} (hm : RelM X st G w) (hr : RelR G st act) :
    ∃ G', RelM X (L.st c v) G' w ∧ RelR G' (L.st c v) act := by
  unfold ent at h
  split at h
  · cases h
  · rename_i s1 h1
    split at h
    · cases h
    · rename_i s2 h2
      split at h
      · cases h
      · rename_i c' a hc
        split at h
        · cases h
        · rename_i v' b hv
          cases hk : (Nat.beq L.n s2.n && alOk (a ++ b) && objsOk L.objs s2) with
          | false => simp [hk] at h
          | true =>
            simp only [hk, cond_true, Option.some.injEq, Prod.mk.injEq] at h
            obtain ⟨rfl, rfl, rfl⟩ := h
            simp only [Bool.and_eq_true] at hk
            obtain ⟨⟨k1, k2⟩, k3⟩ := hk
            obtain ⟨G1, m1, a1, q1⟩ := shareAll_ok h1 hm
            obtain ⟨G2, m2, a2, q2⟩ := shareAll_ok h2 m1
            have hn : ((a ++ b).map (·.1)).Nodup := by
              have := k2; simp only [alOk, Bool.and_eq_true] at this; exact nodupN_iff this.1
            have N := norm_of (L := L) (rdAll_src hn hc (fun e he => List.mem_append_left _ he)) (rdAll_src hn hv (fun e he => List.mem_append_right _ he))
              (fun nm src A hmem => by
                rcases List.mem_append.1 hmem with hmem | hmem
                · exact rdAll_good hc nm src A hmem
                · exact rdAll_good hv nm src A hmem) k2 k3 (Nat.eq_of_beq_eq_true k1) hbl
            exact ⟨_, N.ok m2, N.regs m2 (kept_regs q2 a2 (kept_regs q1 a1 hr))⟩

/-! ### What does not change -/
/-- Each place is found where the lists say. -/
def FoundAll (full : (ps : Pls) × PV ps) : (ps : Pls) → PV ps → Prop
  | [], _ => True
  | (.r i, sp) :: r, v => look (regsOf full.1 full.2) i = some (.one (sp.leaf (Pl.r i).key v.1)) ∧ (∀ A, sp.arr v.1 = some A → look (arrsOf full.1 full.2) (Pl.r i).key = some A) ∧ FoundAll full r v.2
  | (.l o j, sp) :: r, v => lookL (leavesOf full.1 full.2) o j = some (sp.leaf (Pl.l o j).key v.1) ∧ (∀ A, sp.arr v.1 = some A → look (arrsOf full.1 full.2) (Pl.l o j).key = some A) ∧ FoundAll full r v.2

def cons1 (p : Pl × Spec) (x : p.2.V) (f : (ps : Pls) × PV ps) : (ps : Pls) × PV ps := ⟨p :: f.1, (x, f.2)⟩

theorem FoundAll.cons {p : Pl × Spec} {x : p.2.V} {full : (ps : Pls) × PV ps} : ∀ {ps : Pls} {v : PV ps}, FoundAll full ps v → p.1.key ∉ ps.map (fun p => p.1.key) → FoundAll (cons1 p x full) ps v
  | [], v, _, _ => trivial
  | (.r i, sp) :: r, v, h, hn => by
    obtain ⟨h1, h2, h3⟩ := h
    simp only [List.map_cons, List.mem_cons, not_or] at hn
    refine ⟨?_, fun A hA => ?_, FoundAll.cons h3 hn.2⟩
    · obtain ⟨q, sq⟩ := p
      cases q with
      | r j =>
        have : j ≠ i := fun e => hn.1 (by rw [e])
        simp only [cons1, regsOf, look_cons, if_neg this]; exact h1
      | l o j => exact h1
    · have := h2 A hA
      simp only [cons1, arrsOf]
      split
      · rw [look_cons, if_neg hn.1]; exact this
      · exact this
  | (.l o j, sp) :: r, v, h, hn => by
    obtain ⟨h1, h2, h3⟩ := h
    simp only [List.map_cons, List.mem_cons, not_or] at hn
    refine ⟨?_, fun A hA => ?_, FoundAll.cons h3 hn.2⟩
    · obtain ⟨q, sq⟩ := p
      cases q with
      | r i => exact h1
      | l o' j' =>
        have : (Nat.beq o' o && Nat.beq j' j) = false := by
          cases hb : (Nat.beq o' o && Nat.beq j' j) with
          | false => rfl
          | true =>
            simp only [Bool.and_eq_true] at hb
            exact absurd (by rw [Nat.eq_of_beq_eq_true hb.1, Nat.eq_of_beq_eq_true hb.2]) hn.1
        simp only [cons1, leavesOf, lookL, this, cond_false]; exact h1
    · have := h2 A hA
      simp only [cons1, arrsOf]
      split
      · rw [look_cons, if_neg hn.1]; exact this
      · exact this

theorem foundAll : ∀ {ps : Pls} {v : PV ps}, (ps.map fun p => p.1.key).Nodup → FoundAll ⟨ps, v⟩ ps v
  | [], v, _ => trivial
  | p :: r, v, hn => by
    rw [List.map_cons, List.nodup_cons] at hn
    have ih := FoundAll.cons (p := p) (x := v.1) (foundAll (v := v.2) hn.2) hn.1
    obtain ⟨q, sq⟩ := p
    cases q with
    | r i =>
      refine ⟨by simp [regsOf, look_cons], fun A hA => ?_, ih⟩
      simp only at hA
      simp [arrsOf, hA, look_cons]
    | l o j =>
      refine ⟨by simp [leavesOf, lookL], fun A hA => ?_, ih⟩
      simp only at hA
      simp [arrsOf, hA, look_cons]

def BaseOf (L : Lay) (c : PV L.cs) (s : St) : Prop := L.n = s.n ∧ s.bregs = regsOf L.cs c ∧ s.bleaves = leavesOf L.cs c ∧ s.barrs = arrsOf L.cs c

theorem keep_one {s : St} {al : AL} {p : Pl} {sp : Spec} {x : sp.V} (hat : s.at p = .one (sp.leaf p.key x)) (hl : ∀ l, sp = .lit l → litEq l l = true) (ha : ∀ A, sp.arr x = some A → look al p.key = some (some p.key, A)) : Src s al p sp x := by
  refine ⟨fun X G w u hm hu => ?_, fun A hA => ⟨_, ha A hA⟩⟩
  rw [hat] at hu
  cases sp with
  | any => trivial
  | d t => exact hu
  | lit l => exact lit_ren (hl l rfl) hu
  | h m t =>
    have := ha _ rfl
    show u = (G.ren al).ψ p.key
    simp only [Gh.ren, this]; exact hu

theorem keep_src {s : St} {al : AL} {full : (ps : Pls) × PV ps} (h1 : s.bregs = regsOf full.1 full.2) (h2 : s.bleaves = leavesOf full.1 full.2) (hn : (al.map (·.1)).Nodup) :
    ∀ {ps : Pls} {v : PV ps}, FoundAll full ps v → (ps.all fun p => keep1 s p.1 p.2) = true → (∀ e ∈ keepAL ps v, e ∈ al) → SrcAll s al ps v
  | [], v, _, _, _ => trivial
  | (.r i, sp) :: r, v, hf, hk, hs => by
    obtain ⟨f1, f2, f3⟩ := hf
    simp only [List.all_cons, Bool.and_eq_true] at hk
    obtain ⟨k12, k3⟩ := hk
    simp only [keep1, Bool.and_eq_true] at k12
    obtain ⟨k1, k2⟩ := k12
    have hlr : look s.regs i = none := by simpa using k1
    refine ⟨keep_one (by simp [St.at, St.regD, St.reg, hlr, h1, f1]) (fun l e => by subst e; exact k2) (fun A hA => ?_), keep_src h1 h2 hn f3 (by simpa using k3) (fun e he => hs e ?_)⟩
    · exact look_of_mem hn (hs _ (by simp [keepAL, hA]))
    · simp only [keepAL]; split <;> simp [he]
  | (.l o j, sp) :: r, v, hf, hk, hs => by
    obtain ⟨f1, f2, f3⟩ := hf
    simp only [List.all_cons, Bool.and_eq_true] at hk
    obtain ⟨k12, k3⟩ := hk
    simp only [keep1, Bool.and_eq_true] at k12
    obtain ⟨k1, k2⟩ := k12
    refine ⟨keep_one ?_ (fun l e => by subst e; exact k2) (fun A hA => ?_), keep_src h1 h2 hn f3 (by simpa using k3) (fun e he => hs e ?_)⟩
    · split at k1
      · rename_i ls ho
        split at k1
        · rename_i hj
          simp [St.at, ho, hj, St.res, h2, f1]
        · cases k1
      · cases k1
    · exact look_of_mem hn (hs _ (by simp [keepAL, hA]))
    · simp only [keepAL]; split <;> simp [he]

theorem arr_spec {sp : Spec} {x : sp.V} {A : Arr} (h : sp.arr x = some A) : A.sh = false ∧ ∃ m t, sp = .h m t := by
  cases sp <;> simp [Spec.arr] at h
  subst h; exact ⟨rfl, _, _, rfl⟩

theorem keep_good {s : St} {full : (ps : Pls) × PV ps} (h3 : s.barrs = arrsOf full.1 full.2) :
    ∀ {ps : Pls} {v : PV ps}, FoundAll full ps v → (ps.all fun p => keep1 s p.1 p.2) = true → ALgood s (keepAL ps v)
  | [], v, _, _ => by intro _ _ _ h; cases h
  | (p, sp) :: r, v, hf, hk => by
    simp only [List.all_cons, Bool.and_eq_true] at hk
    obtain ⟨k1, k3⟩ := hk
    have f2 : ∀ A, sp.arr v.1 = some A → look (arrsOf full.1 full.2) p.key = some A := by
      cases p <;> exact hf.2.1
    have f3 : FoundAll full r v.2 := by cases p <;> exact hf.2.2
    intro nm src A hm
    simp only [keepAL] at hm
    split at hm
    · rename_i B hB
      rcases List.mem_cons.1 hm with hm | hm
      · simp only [Prod.mk.injEq] at hm
        obtain ⟨rfl, rfl, rfl⟩ := hm
        obtain ⟨e1, m, t, e2⟩ := arr_spec hB
        refine ⟨e1, ?_⟩
        have hno : look s.arrs p.key = none := by
          subst e2
          cases p <;> (simp only [keep1, Bool.and_eq_true] at k1; simpa using k1.2)
        simp [St.arr, hno, h3, f2 _ hB]
      · exact keep_good h3 f3 (by simpa using k3) nm src A hm
    · exact keep_good h3 f3 (by simpa using k3) nm src A hm

theorem BaseOf.base {L : Lay} {c : PV L.cs} {s s' : St} (h : BaseOf L c s) (b : Base s s') : BaseOf L c s' := ⟨h.1.trans b.1.symm, b.2.1.trans h.2.1, b.2.2.1.trans h.2.2.1, b.2.2.2.trans h.2.2.2⟩

theorem rnd_ok {L : Lay} {c : PV L.cs} {s : St} {v : PV L.vs} (hb : BaseOf L c s) (h : rnd L (keepAL L.cs c) s = some v) {X : Ctx} {G : Gh} {w : World} {act : Act} (hm : RelM X s G w) (hr : RelR G s act) :
    ∃ G', RelM X (L.st c v) G' w ∧ RelR G' (L.st c v) act := by
  unfold rnd at h
  split at h
  · cases h
  · rename_i s1 h1
    split at h
    · cases h
    · rename_i v' b hv
      cases hk : (keepAll s1 L.cs && alOk (keepAL L.cs c ++ b) && objsOk L.objs s1) with
      | false => simp [hk] at h
      | true =>
        simp only [hk, cond_true, Option.some.injEq] at h
        subst h
        simp only [Bool.and_eq_true, keepAll] at hk
        obtain ⟨⟨⟨k0, k1⟩, k2⟩, k3⟩ := hk
        have hb1 := hb.base (shareAll_base h1)
        obtain ⟨G1, m1, a1, q1⟩ := shareAll_ok h1 hm
        have hn : ((keepAL L.cs c ++ b).map (·.1)).Nodup := by
          have := k2; simp only [alOk, Bool.and_eq_true] at this; exact nodupN_iff this.1
        have hf := foundAll (v := c) (nodupN_iff k0)
        have N := norm_of (L := L) (keep_src (full := ⟨L.cs, c⟩) hb1.2.1 hb1.2.2.1 hn hf k1 (fun e he => List.mem_append_left _ he)) (rdAll_src hn hv (fun e he => List.mem_append_right _ he))
          (fun nm src A hmem => by
            rcases List.mem_append.1 hmem with hmem | hmem
            · exact keep_good (full := ⟨L.cs, c⟩) hb1.2.2.2 hf k1 nm src A hmem
            · exact rdAll_good hv nm src A hmem) k2 k3 hb1.1 (fun o j lf hl => ⟨lf, by rw [← hb1.2.2.1]; exact hl⟩)
        exact ⟨_, N.ok m1, N.regs m1 (kept_regs q1 a1 hr)⟩
end Go.Fx

/- The framework, twenty-fourth text: behind a loop. -/
namespace Go.Fx
set_option linter.unusedVariables false
set_option linter.unusedSimpArgs false

def okSpec (st : St) (k : Nat) : Spec → AVal → Bool
  | .d _, .one (.dat _ _) => true
  | .h _ _, .one (.hdl a) => Nat.beq a k && (look st.arrs k).isNone
  | .lit l, .one l' => litEq l l'
  | .any, .one .any => true
  | _, _ => false
def baseP (st : St) : Pl → Spec → Bool
  | .r i, s => (match look st.bregs i with | none => true | some tv => (look st.regs i).isNone && okSpec st (Pl.r i).key s tv)
  | .l o j, s => (match lookL st.bleaves o j with | none => true | some lf => (match st.obj o with | some ls => (match ls[j]? with | some .bas => true | _ => false) | none => false) && okSpec st (Pl.l o j).key s (.one lf))
def hasR (i : Nat) : Pls → Bool
  | [] => false
  | (.r j, _) :: r => Nat.beq j i || hasR i r
  | _ :: r => hasR i r
def hasL (o j : Nat) : Pls → Bool
  | [] => false
  | (.l o' j', _) :: r => (Nat.beq o' o && Nat.beq j' j) || hasL o j r
  | _ :: r => hasL o j r
def hasA (st : St) (nm : Nat) : Pls → Bool
  | [] => false
  | (p, .h _ _) :: r => (Nat.beq p.key nm && (match p with | .r i => (look st.bregs i).isSome | .l o j => (lookL st.bleaves o j).isSome)) || hasA st nm r
  | _ :: r => hasA st nm r
/-- What did not change outside does not change inside. -/
def baseIn (cs : Pls) (st : St) : Bool :=
  nodupN (cs.map fun p => p.1.key) && cs.all (fun p => baseP st p.1 p.2) && st.bregs.all (fun p => hasR p.1 cs) && st.bleaves.all (fun p => hasL p.1 p.2.1 cs) && st.barrs.all (fun p => hasA st p.1 cs)

def flatL (cl bl : List (Nat × Nat × Leaf)) (o : Nat) : Nat → List Leaf → List Leaf
  | _, [] => []
  | j, l :: r => (match l with | .bas => (match lookL bl o j with | some _ => .bas | none => match lookL cl o j with | some l => l | none => .any) | l => l) :: flatL cl bl o (j + 1) r
def aft (L : Lay) (c : PV L.cs) (v : PV L.vs) (st : St) : St :=
  ⟨L.n, regsOf L.vs v ++ (regsOf L.cs c).filter (fun p => (look st.bregs p.1).isNone), (L.st c v).objs.map (fun p => (p.1, flatL (leavesOf L.cs c) st.bleaves p.1 0 p.2)),
    arrsOf L.vs v ++ (arrsOf L.cs c).filter (fun p => (look st.barrs p.1).isNone), st.bregs, st.bleaves, st.barrs⟩

theorem look_append {α : Type} : ∀ (l m : List (Nat × α)) (k : Nat), look (l ++ m) k = (match look l k with | some v => some v | none => look m k)
  | [], m, k => rfl
  | (k', v) :: r, m, k => by
    simp only [List.cons_append, look_cons]
    by_cases e : k' = k
    · simp [e]
    · simp only [e, if_false]; exact look_append r m k
theorem look_filter {α : Type} (f : Nat → Bool) : ∀ (l : List (Nat × α)) (k : Nat), look (l.filter fun p => f p.1) k = if f k = true then look l k else none
  | [], k => by simp [look]
  | (k', v) :: r, k => by
    have ih := look_filter f r k
    by_cases hf : f k' = true
    · simp only [List.filter_cons, hf, if_true, look_cons]
      by_cases e : k' = k
      · subst e; simp [hf]
      · simp only [e, if_false]; exact ih
    · simp only [List.filter_cons, hf, look_cons]
      by_cases e : k' = k
      · subst e; simp only [Bool.false_eq_true, if_false]; rw [ih]; simp [hf]
      · simp only [e, if_false, Bool.false_eq_true]; exact ih

/-- All that did not change outside is found, as it is, in what does not change inside. -/
structure BSub (st : St) (L : Lay) (c : PV L.cs) : Prop where
  reg : ∀ i tv, look st.bregs i = some tv → look (regsOf L.cs c) i = some tv
  leaf : ∀ o j lf, lookL st.bleaves o j = some lf → lookL (leavesOf L.cs c) o j = some lf
  arr : ∀ nm A, look st.barrs nm = some A → look (arrsOf L.cs c) nm = some A

theorem okSpec_eq {s : St} {p : Pl} {sp : Spec} {x : sp.V} {a : AL} {tv : AVal} (h : rd1 s p sp = some (x, a)) (hat : s.at p = tv) (hk : okSpec s p.key sp tv = true) : tv = .one (sp.leaf p.key x) := by
  cases sp with
  | any =>
    cases tv with
    | one l => cases l with
      | any => rfl
      | _ => simp [okSpec] at hk
    | _ => simp [okSpec] at hk
  | d t =>
    cases tv with
    | one l =>
      cases l with
      | dat t' y =>
        simp only [rd1, hat, AVal.get, Leaf.get] at h
        cases hc : cast? t' t y with
        | none => simp [hc] at h
        | some z =>
          simp only [hc, Option.some.injEq, Prod.mk.injEq] at h
          obtain ⟨rfl, _⟩ := h
          obtain ⟨rfl, rfl⟩ := cast?_some hc
          rfl
      | _ => simp [okSpec] at hk
    | _ => simp [okSpec] at hk
  | lit l =>
    cases tv with
    | one l' => simp only [okSpec] at hk; rw [litEq_eq hk]; rfl
    | _ => simp [okSpec] at hk
  | h m t =>
    cases tv with
    | one l =>
      cases l with
      | hdl b => simp only [okSpec, Bool.and_eq_true] at hk; rw [Nat.eq_of_beq_eq_true hk.1]; rfl
      | _ => simp [okSpec] at hk
    | _ => simp [okSpec] at hk

theorem okSpec_arr {s : St} {p : Pl} {m : Md} {t : Ty} {x : (Spec.h m t).V} {a : AL} {tv : AVal} (h : rd1 s p (.h m t) = some (x, a)) (hat : s.at p = tv) (hk : okSpec s p.key (.h m t) tv = true) {A : Arr} (hA : look s.barrs p.key = some A) : A = ⟨t, m, false, x⟩ := by
  cases tv with
  | one l =>
    cases l with
    | hdl b =>
      simp only [okSpec, Bool.and_eq_true] at hk
      have e := Nat.eq_of_beq_eq_true hk.1
      subst e
      have hno : look s.arrs p.key = none := by simpa using hk.2
      simp only [rd1, hat, St.arr, hno, hA] at h
      cases hs : (A.sh || !m.same A.md) with
      | true => simp [hs] at h
      | false =>
        simp only [hs, cond_false] at h
        simp only [Bool.or_eq_false_iff, Bool.not_eq_false'] at hs
        have hmd := Md.eq_same hs.2
        split at h
        · rename_i y hy
          simp only [Option.some.injEq, Prod.mk.injEq] at h
          obtain ⟨rfl, _⟩ := h
          obtain ⟨ec, el⟩ := cast?_some hy
          obtain ⟨t', dp, sh, ll⟩ := A
          simp only [Ty.slice.injEq] at ec
          subst ec
          simp only at el hs hmd
          obtain ⟨rfl, _⟩ := hs
          subst el hmd
          rfl
        · cases h
    | _ => simp [okSpec] at hk
  | _ => simp [okSpec] at hk

theorem bsub_go {s : St} {full : (ps : Pls) × PV ps} : ∀ {ps : Pls} {v : PV ps} {a : AL}, rdAll s ps = some (v, a) → FoundAll full ps v → (ps.all fun p => baseP s p.1 p.2) = true →
    (∀ i tv, hasR i ps = true → look s.bregs i = some tv → look (regsOf full.1 full.2) i = some tv) ∧
    (∀ o j lf, hasL o j ps = true → lookL s.bleaves o j = some lf → lookL (leavesOf full.1 full.2) o j = some lf) ∧
    (∀ nm A, hasA s nm ps = true → look s.barrs nm = some A → look (arrsOf full.1 full.2) nm = some A)
  | [], v, a, _, _, _ => ⟨(fun _ _ h _ => (by cases h)), (fun _ _ _ h _ => (by cases h)), (fun _ _ h _ => (by cases h))⟩
  | (p, sp) :: r, v, a, h, hf, hb => by
    simp only [rdAll] at h
    split at h
    · rename_i x a1 h1
      split at h
      · rename_i xs b h2
        simp only [Option.some.injEq, Prod.mk.injEq] at h
        obtain ⟨rfl, rfl⟩ := h
        simp only [List.all_cons, Bool.and_eq_true] at hb
        obtain ⟨b1, b2⟩ := hb
        have f3 : FoundAll full r xs := by cases p <;> exact hf.2.2
        have f2 : ∀ A, sp.arr x = some A → look (arrsOf full.1 full.2) p.key = some A := by cases p <;> exact hf.2.1
        obtain ⟨g1, g2, g3⟩ := bsub_go h2 f3 b2
        refine ⟨fun i tv hh hl => ?_, fun o j lf hh hl => ?_, fun nm A hh hl => ?_⟩
        · cases p with
          | l o j => exact g1 i tv hh hl
          | r k =>
            simp only [hasR, Bool.or_eq_true] at hh
            rcases hh with hh | hh
            · obtain rfl := Nat.eq_of_beq_eq_true hh
              simp only [baseP, hl, Bool.and_eq_true] at b1
              have hno : look s.regs k = none := by simpa using b1.1
              have := okSpec_eq h1 (tv := tv) (by simp [St.at, St.regD, St.reg, hno, hl]) b1.2
              rw [this]; exact hf.1
            · exact g1 i tv hh hl
        · cases p with
          | r k => exact g2 o j lf hh hl
          | l o' j' =>
            simp only [hasL, Bool.or_eq_true] at hh
            rcases hh with hh | hh
            · simp only [Bool.and_eq_true] at hh
              obtain rfl := Nat.eq_of_beq_eq_true hh.1
              obtain rfl := Nat.eq_of_beq_eq_true hh.2
              simp only [baseP, hl, Bool.and_eq_true] at b1
              obtain ⟨b3, b4⟩ := b1
              have hat : s.at (.l o' j') = .one lf := by
                split at b3
                · rename_i ls ho
                  split at b3
                  · rename_i hj; simp [St.at, ho, hj, St.res, hl]
                  · cases b3
                · cases b3
              have := okSpec_eq h1 (tv := .one lf) hat b4
              simp only [AVal.one.injEq] at this
              rw [this]; exact hf.1
            · exact g2 o j lf hh hl
        · cases sp with
          | h m t =>
            simp only [hasA, Bool.or_eq_true, Bool.and_eq_true] at hh
            rcases hh with ⟨hk, hh⟩ | hh
            · obtain rfl := Nat.eq_of_beq_eq_true hk
              rw [f2 _ rfl]
              have key : ∀ tv, s.at p = tv → okSpec s p.key (.h m t) tv = true → some (⟨t, m, false, x⟩ : Arr) = some A := fun tv hat hk => by rw [okSpec_arr h1 hat hk hl]
              cases p with
              | r k =>
                obtain ⟨tv, htv⟩ := Option.isSome_iff_exists.1 hh
                simp only [baseP, htv, Bool.and_eq_true] at b1
                have hno : look s.regs k = none := by simpa using b1.1
                exact key tv (by simp [St.at, St.regD, St.reg, hno, htv]) b1.2
              | l o j =>
                obtain ⟨lf, hlf⟩ := Option.isSome_iff_exists.1 hh
                simp only [baseP, hlf, Bool.and_eq_true] at b1
                obtain ⟨b3, b4⟩ := b1
                refine key (.one lf) ?_ b4
                split at b3
                · rename_i ls ho
                  split at b3
                  · rename_i hj; simp [St.at, ho, hj, St.res, hlf]
                  · cases b3
                · cases b3
            · exact g3 nm A hh hl
          | _ => exact g3 nm A hh hl
      · cases h
    · cases h

theorem bsub_of {s : St} {L : Lay} {c : PV L.cs} {a : AL} (h : rdAll s L.cs = some (c, a)) (hb : baseIn L.cs s = true) : BSub s L c := by
  simp only [baseIn, Bool.and_eq_true] at hb
  obtain ⟨⟨⟨⟨h1, h2⟩, h3⟩, h4⟩, h5⟩ := hb
  obtain ⟨g1, g2, g3⟩ := bsub_go (full := ⟨L.cs, c⟩) h (foundAll (nodupN_iff h1)) h2
  exact ⟨fun i tv hl => g1 i tv (List.all_eq_true.1 h3 _ (look_mem hl)) hl, fun o j lf hl => g2 o j lf (List.all_eq_true.1 h4 _ (lookL_mem hl)) hl, fun nm A hl => g3 nm A (List.all_eq_true.1 h5 _ (look_mem hl)) hl⟩

theorem BSub.base {s st : St} {L : Lay} {c : PV L.cs} (h : BSub s L c) (b : Base st s) : BSub st L c :=
  ⟨fun i tv hl => h.reg i tv (by rw [b.2.1]; exact hl), fun o j lf hl => h.leaf o j lf (by rw [b.2.2.1]; exact hl), fun nm A hl => h.arr nm A (by rw [b.2.2.2]; exact hl)⟩

theorem flat_weak {L : Lay} {c : PV L.cs} {v : PV L.vs} {st : St} (hs : BSub st L c) {o : Nat} : ∀ (ls : List Leaf) (j : Nat),
    All2 (fun a b => ∀ G u, RelL G a u → RelL G b u) ((L.st c v).resl o j ls) ((aft L c v st).resl o j (flatL (leavesOf L.cs c) st.bleaves o j ls))
  | [], j => trivial
  | l :: r, j => by
    refine ⟨fun G u hu => ?_, flat_weak hs r (j + 1)⟩
    have hb1 : (L.st c v).bleaves = leavesOf L.cs c := rfl
    have hb2 : (aft L c v st).bleaves = st.bleaves := rfl
    have nb : ∀ l' : Leaf, (match l' with | .bas => False | _ => True) → (aft L c v st).res o j l' = l' := fun l' h => by cases l' <;> first | exact h.elim | rfl
    cases l with
    | bas =>
      simp only [St.res, hb1] at hu
      simp only
      cases hl : lookL st.bleaves o j with
      | some lf =>
        simp only [St.res, hb2, hl]
        rw [hs.leaf o j lf hl] at hu; exact hu
      | none =>
        simp only
        cases hc : lookL (leavesOf L.cs c) o j with
        | none => trivial
        | some lf =>
          rw [hc] at hu
          simp only
          cases lf with
          | bas => simp only [St.res, hb2, hl]; trivial
          | _ => exact hu
    | _ => exact hu

theorem look_map_val {f : Nat → List Leaf → List Leaf} : ∀ {l : List (Nat × List Leaf)} {o : Nat} {tl : List Leaf}, look (l.map fun p => (p.1, f p.1 p.2)) o = some tl → ∃ sl, look l o = some sl ∧ tl = f o sl
  | [], o, tl, h => by cases h
  | (q, ls) :: r, o, tl, h => by
    simp only [List.map_cons, look_cons] at h
    rw [look_cons]
    by_cases e : q = o
    · simp only [e, if_true, Option.some.injEq] at h ⊢
      subst h; exact ⟨ls, rfl, rfl⟩
    · simp only [e, if_false] at h ⊢
      exact look_map_val h
theorem look_map_val' {f : Nat → List Leaf → List Leaf} : ∀ {l : List (Nat × List Leaf)} {o : Nat} {sl : List Leaf}, look l o = some sl → look (l.map fun p => (p.1, f p.1 p.2)) o = some (f o sl)
  | (q, ls) :: r, o, sl, h => by
    rw [look_cons] at h
    simp only [List.map_cons, look_cons]
    by_cases e : q = o
    · simp only [e, if_true, Option.some.injEq] at h ⊢; rw [h]
    · simp only [e, if_false] at h ⊢
      exact look_map_val' h

theorem flatL_bas {cl bl : List (Nat × Nat × Leaf)} {o : Nat} : ∀ {ls : List Leaf} {i j : Nat} {lf : Leaf}, lookL bl o (i + j) = some lf → ls[j]? = some .bas → (flatL cl bl o i ls)[j]? = some .bas
  | [], i, j, lf, _, h => by simp at h
  | l :: r, i, 0, lf, hl, h => by
    simp only [List.getElem?_cons_zero, Option.some.injEq] at h
    subst h
    rw [Nat.add_zero] at hl
    simp [flatL, hl]
  | l :: r, i, j + 1, lf, hl, h => by
    simp only [flatL, List.getElem?_cons_succ] at h ⊢
    exact flatL_bas (by rw [show i + 1 + j = i + (j + 1) by omega]; exact hl) h
theorem aft_weak {L : Lay} {c : PV L.cs} {v : PV L.vs} {st : St} (hs : BSub st L c) : Weak (L.st c v) (aft L c v st) := by
  refine { n := rfl, arr := fun nm A h => ?_, reg := fun i tv h G u hu => ?_, obj := fun o tl h => ?_, pin := fun o sl _ h => ⟨_, look_map_val' (f := fun o ls => flatL (leavesOf L.cs c) st.bleaves o 0 ls) h⟩, bas := fun o j lf sl hl h hj => ⟨_, look_map_val' (f := fun o ls => flatL (leavesOf L.cs c) st.bleaves o 0 ls) h, flatL_bas (by rw [Nat.zero_add]; exact hl) hj⟩ }
  · have e1 : (aft L c v st).arr nm = (match look (arrsOf L.vs v ++ (arrsOf L.cs c).filter fun p => (look st.barrs p.1).isNone) nm with | some v => some v | none => look st.barrs nm) := rfl
    have e2 : (L.st c v).arr nm = (match look (arrsOf L.vs v) nm with | some v => some v | none => look (arrsOf L.cs c) nm) := rfl
    rw [e1, look_append] at h
    rw [e2]
    cases h1 : look (arrsOf L.vs v) nm with
    | some B => simp only [h1] at h ⊢; exact h
    | none =>
      simp only [h1] at h ⊢
      rw [look_filter (fun k => (look st.barrs k).isNone)] at h
      cases h2 : look st.barrs nm with
      | none =>
        simp only [h2, Option.isNone_none, if_true] at h
        cases h3 : look (arrsOf L.cs c) nm with
        | none => simp [h3] at h
        | some B => simpa [h3] using h
      | some B =>
        rw [h2] at h
        simp only [Option.isNone_some, Bool.false_eq_true, if_false] at h
        rw [hs.arr nm B h2]; exact h
  · have e1 : (aft L c v st).reg i = (match look (regsOf L.vs v ++ (regsOf L.cs c).filter fun p => (look st.bregs p.1).isNone) i with | some v => some v | none => look st.bregs i) := rfl
    have e2 : (L.st c v).reg i = (match look (regsOf L.vs v) i with | some v => some v | none => look (regsOf L.cs c) i) := rfl
    have : (L.st c v).reg i = some tv := by
      rw [e1, look_append] at h
      rw [e2]
      cases h1 : look (regsOf L.vs v) i with
      | some B => simp only [h1] at h ⊢; exact h
      | none =>
        simp only [h1] at h ⊢
        rw [look_filter (fun k => (look st.bregs k).isNone)] at h
        cases h2 : look st.bregs i with
        | none =>
          simp only [h2, Option.isNone_none, if_true] at h
          cases h3 : look (regsOf L.cs c) i with
          | none => simp [h3] at h
          | some B => simpa [h3] using h
        | some B =>
          rw [h2] at h
          simp only [Option.isNone_some, Bool.false_eq_true, if_false] at h
          rw [hs.reg i B h2]; exact h
    simpa [St.regD, this] using hu
  · obtain ⟨sl, h1, rfl⟩ := look_map_val (f := fun o ls => flatL (leavesOf L.cs c) st.bleaves o 0 ls) h
    exact ⟨sl, h1, flat_weak hs sl 0⟩
end Go.Fx

/- The framework, twenty-fifth text: loops. -/
namespace Go.Fx
set_option linter.unusedVariables false
set_option linter.unusedSimpArgs false

def allDat : List Leaf → Bool
  | [] => true
  | .dat _ _ :: r => allDat r
  | _ => false

/-- How a loop is left: what is done at an exit, what at a panic. -/
abbrev Dk (W : Type) : Type 1 := {R : Type} → W → ((e : Exit) → (vs : Pls) → PV vs → Option R) → (TypeId → List Leaf → Option R) → Option R

def Lay.with (L : Lay) (vs : Pls) : Lay := ⟨L.n, L.objs, L.cs, vs⟩
def outer (id : Nat) : Exit → Exit
  | .exit i => bif Nat.beq i id then .normal else .exit i
  | e => e

def loopSem (id : Nat) (L : Lay) {W : Type} (l : PV L.cs → PV L.vs → Option W) (dk : Dk W) : LoopSem where
  run st K KP := (match ent L st with
    | none => none
    | some (c, v, s) => (bif baseIn L.cs s then (l c v).bind fun x => dk x (fun e vs o => K (outer id e) (aft (L.with vs) c o st)) (fun T ls => KP (.ifc T ls) (aft (L.with []) c () st)) else none))

theorem ent_share {L : Lay} {st s : St} {c : PV L.cs} {v : PV L.vs} (h : ent L st = some (c, v, s)) : Base st s ∧ L.n = st.n ∧ ∃ a, rdAll s L.cs = some (c, a) := by
  unfold ent at h
  split at h
  · cases h
  · rename_i s1 h1
    split at h
    · cases h
    · rename_i s2 h2
      split at h
      · cases h
      · rename_i c' a hc
        split at h
        · cases h
        · rename_i v' b hv
          cases hk : (Nat.beq L.n s2.n && alOk (a ++ b) && objsOk L.objs s2) with
          | false => simp [hk] at h
          | true =>
            simp only [hk, cond_true, Option.some.injEq, Prod.mk.injEq] at h
            obtain ⟨rfl, rfl, rfl⟩ := h
            simp only [Bool.and_eq_true] at hk
            have hb := (shareAll_base h1).trans (shareAll_base h2)
            exact ⟨hb, (Nat.eq_of_beq_eq_true hk.1.1).trans hb.1, a, hc⟩

theorem aft_base {L : Lay} {c : PV L.cs} {v : PV L.vs} {st : St} (hn : L.n = st.n) : Base st (aft L c v st) := ⟨hn, rfl, rfl, rfl⟩

theorem loop_cong (id : Nat) (L : Lay) {W : Type} (l : PV L.cs → PV L.vs → Option W) (dk : Dk W) : LoopCong (loopSem id L l dk) := by
  intro R st K K' KP KP' hK hP
  simp only [loopSem]
  split
  · rfl
  · rename_i c v s hs
    obtain ⟨_, hn, _⟩ := ent_share hs
    have e1 : (fun (e : Exit) (vs : Pls) (o : PV vs) => K (outer id e) (aft (L.with vs) c o st)) = (fun e vs o => K' (outer id e) (aft (L.with vs) c o st)) := funext fun e => funext fun vs => funext fun o => hK _ _ (aft_base (L := L.with _) hn)
    have e2 : (fun (T : TypeId) (ls : List Leaf) => KP (.ifc T ls) (aft (L.with []) c () st)) = (fun T ls => KP' (.ifc T ls) (aft (L.with []) c () st)) := funext fun T => funext fun ls => hP _ _ (aft_base (L := L.with _) hn)
    rw [e1, e2]; rfl

theorem sub_allDat {G G' : Gh} (h : G.Sub G') : ∀ {ls : List Leaf} {vs : List Value}, All2 (RelL G) ls vs → All2 (RelL G') ls vs := fun {ls vs} hr => hr.imp fun l v h' => h'.sub h

theorem ren_dat {G : Gh} {al : AL} : ∀ {ls : List Leaf} {vs : List Value}, allDat ls = true → All2 (RelL G) ls vs → All2 (RelL (G.ren al)) ls vs
  | [], [], _, _ => trivial
  | .dat t d :: r, _ :: _, h, hr => ⟨hr.1, ren_dat (ls := r) h hr.2⟩
  | [], _ :: _, _, hr => hr.elim
  | _ :: _, [], _, hr => hr.elim

theorem rnd_ok' {L : Lay} {c : PV L.cs} {s : St} {v : PV L.vs} (hb : BaseOf L c s) (h : rnd L (keepAL L.cs c) s = some v) {X : Ctx} {G : Gh} {w : World} (hm : RelM X s G w) :
    ∃ G', RelM X (L.st c v) G' w ∧ ∀ T ls u, allDat ls = true → RelV G (.ifc T ls) u → RelV G' (.ifc T ls) u := by
  unfold rnd at h
  split at h
  · cases h
  · rename_i s1 h1
    split at h
    · cases h
    · rename_i v' b hv
      cases hk : (keepAll s1 L.cs && alOk (keepAL L.cs c ++ b) && objsOk L.objs s1) with
      | false => simp [hk] at h
      | true =>
        simp only [hk, cond_true, Option.some.injEq] at h
        subst h
        simp only [Bool.and_eq_true, keepAll] at hk
        obtain ⟨⟨⟨k0, k1⟩, k2⟩, k3⟩ := hk
        have hb1 := hb.base (shareAll_base h1)
        obtain ⟨G1, m1, a1, q1⟩ := shareAll_ok h1 hm
        have hn : ((keepAL L.cs c ++ b).map (·.1)).Nodup := by
          have := k2; simp only [alOk, Bool.and_eq_true] at this; exact nodupN_iff this.1
        have hf := foundAll (v := c) (nodupN_iff k0)
        have N := norm_of (L := L) (keep_src (full := ⟨L.cs, c⟩) hb1.2.1 hb1.2.2.1 hn hf k1 (fun e he => List.mem_append_left _ he)) (rdAll_src hn hv (fun e he => List.mem_append_right _ he))
          (fun nm src A hmem => by
            rcases List.mem_append.1 hmem with hmem | hmem
            · exact keep_good (full := ⟨L.cs, c⟩) hb1.2.2.2 hf k1 nm src A hmem
            · exact rdAll_good hv nm src A hmem) k2 k3 hb1.1 (fun o j lf hl => ⟨lf, by rw [← hb1.2.2.1]; exact hl⟩)
        exact ⟨_, N.ok m1, fun T ls u hd hu => by
          obtain ⟨x, cs, e1, e2, e3⟩ := hu
          exact ⟨x, cs, e1, e2, ren_dat hd (sub_allDat a1 e3)⟩⟩

noncomputable def gd (L : Lay) (c : PV L.cs) (s : St) {W : Type} (x : Option W) : Option W := @ite _ (BaseOf L c s) (Classical.propDecidable _) x none
theorem gd_pos {L : Lay} {c : PV L.cs} {s : St} {W : Type} {x : Option W} (h : BaseOf L c s) : gd L c s x = x := by
  unfold gd; rw [if_pos h]
theorem gd_some {L : Lay} {c : PV L.cs} {s : St} {W : Type} {x : Option W} {y : W} (h : gd L c s x = some y) : BaseOf L c s ∧ x = some y := by
  unfold gd at h
  split at h
  · rename_i hb; exact ⟨hb, h⟩
  · cases h

section
variable {P : Program} {E : Env} (hE : EnvOk P E)
include hE

theorem loop_ok {id : Nat} {body : Code} {L : Lay} {W : Type} {l : Nat → PV L.cs → PV L.vs → Option W} {dk : Dk W} {out : PV L.cs → Exit → St → Option W} {pout : PV L.cs → AVal → St → Option W} (hb : LoopsOk P E body)
    (h0 : ∀ c v, l 0 c v = none)
    (h1 : ∀ k c v, l (k + 1) c v = runC E body (L.st c v) (fun e s => match e with | .normal => (rnd L (keepAL L.cs c) s).bind (l k c) | e => out c e s) (pout c))
    (h2 : ∀ c e s x, out c e s = some x → ∃ vs o, rnd (L.with vs) (keepAL L.cs c) s = some o ∧ ∀ (R : Type) f g, dk (R := R) x f g = f e vs o)
    (h3 : ∀ c av s x, pout c av s = some x → ∃ T ls, av = .ifc T ls ∧ allDat ls = true ∧ rnd (L.with []) (keepAL L.cs c) s = some () ∧ ∀ (R : Type) f g, dk (R := R) x f g = g T ls) (k : Nat) :
    LoopOk P E.gt id (.loop body) (loopSem id L (l k) dk) := by
  intro R r X st G w act K KP Q h hg0 hm hr hK hP
  simp only [loopSem] at h
  split at h
  · cases h
  · rename_i c v s hs
    obtain ⟨hbs, hn, a, hrd⟩ := ent_share hs
    cases hbi : baseIn L.cs s with
    | false => simp [hbi] at h
    | true =>
      simp only [hbi, cond_true] at h
      obtain ⟨x, hx, h⟩ := Option.bind_eq_some_iff.1 h
      have bs0 := bsub_of hrd hbi
      have bs : BSub st L c := bs0.base hbs
      obtain ⟨G1, m1, r1⟩ := ent_ok hs (fun o j lf hl => ⟨lf, bs0.leaf o j lf hl⟩) hm hr
      -- what is left to be shown at the ways out
      let Q' : Exit → Act → World → Prop := fun e a w => match e with
        | .panic ch => Q (.panic ch) a w
        | e => Q (outer id e) a w
      have hQ : ∀ e a w, Q' e a w → Exit.inBlock id Q e a w := fun e a w hq => by
        cases e with
        | exit i =>
          simp only [Exit.inBlock]
          by_cases e : i = id
          · subst e; simp only [Q', outer, Nat.beq_refl, cond_true] at hq; simpa using hq
          · simp only [Q', outer, nbeq_false e, cond_false] at hq; simpa [e] using hq
        | _ => exact hq
      have hout : ∀ e s G w act, e ≠ .normal → BaseOf L c s → RelM X s G w → RelR G s act → out c e s = some x → Q' e act w := fun e s G w act hne hb m r' ho => by
        obtain ⟨vs, o, g1, g2⟩ := h2 c e s x ho
        rw [g2] at h
        obtain ⟨G', m', r''⟩ := rnd_ok (L := L.with vs) (c := c) (v := o) hb g1 m r'
        have wk := aft_weak (L := L.with vs) (c := c) (v := o) (st := st) ⟨bs.reg, bs.leaf, bs.arr⟩
        have := hK _ _ _ _ _ (wk.ok m' (fun o j u hu => (hm.bv o j u hu).1)) (wk.regs r'') h
        cases e with
        | panic ch => exact this
        | _ => exact this
      have hpan : ∀ av u s G w act, BaseOf L c s → RelM X s G w → act.defers = [] → RelV G av u → pout c av s = some x → Q' (.panic [{ v := u, recovered := false }]) act w := fun av u s G w act hb m r' hv ho => by
        obtain ⟨T, ls, rfl, hd, g1, g2⟩ := h3 c av s x ho
        rw [g2] at h
        obtain ⟨G', m', hp⟩ := rnd_ok' (L := L.with []) (c := c) (v := ()) hb g1 m
        have wk := aft_weak (L := L.with []) (c := c) (v := ()) (st := st) ⟨bs.reg, bs.leaf, bs.arr⟩
        exact hP _ _ _ _ _ _ (wk.ok m' (fun o j u hu => (hm.bv o j u hu).1)) r' (hp T ls u hd hv) h
      refine wp_block (wp_mono (Q := Q') ?_ hQ)
      intro b kk cs
      have key : ∀ k v G act w, RelM X (L.st c v) G w → RelR G (L.st c v) act → l k c v = some x →
          ∃ e a' w', Q' e a' w' ∧ Arrives P (lone (b.at act (.code body :: .inLoop body :: kk)) cs w) b kk cs e a' w' := by
        intro k
        induction k with
        | zero => intro v G act w _ _ hl; rw [h0] at hl; cases hl
        | succ k ih =>
          intro v G act w m r' hl
          rw [h1] at hl
          have hl := (runC_cong hE.cong hE.lcong body (K' := fun e s => gd L c s (match e with | .normal => (rnd L (keepAL L.cs c) s).bind (l k c) | e => out c e s))
            (KP' := fun av s => gd L c s (pout c av s)) (fun e s hs => (gd_pos ⟨hs.1.symm, hs.2.1, hs.2.2.1, hs.2.2.2⟩).symm) (fun av s hs => (gd_pos ⟨hs.1.symm, hs.2.1, hs.2.2.1, hs.2.2.2⟩).symm)).symm.trans hl
          have hwp := runC_ok hE hg0 body hb (Q := Exit.then (fun a w => ∃ e a' w', Q' e a' w' ∧ Arrives P (lone (b.at a (.code body :: .inLoop body :: kk)) cs w) b kk cs e a' w') Q') hl m r'
            (fun e s G w act m r' hk => by
              obtain ⟨hbo, hk⟩ := gd_some hk
              cases e with
              | normal =>
                obtain ⟨v', g1, g2⟩ := Option.bind_eq_some_iff.1 hk
                obtain ⟨G', m', r''⟩ := rnd_ok hbo g1 m r'
                exact ih v' G' act w m' r'' g2
              | _ => exact hout _ _ _ _ _ (by simp) hbo m r' hk)
            (fun av u s G w act m r' hv hk => by
              obtain ⟨hbo, hk⟩ := gd_some hk
              exact hpan _ _ _ _ _ _ hbo m r' hv hk)
          obtain ⟨e, a₁, w₁, hq, harr⟩ := hwp b (.inLoop body :: kk) cs
          cases e with
          | normal =>
            obtain ⟨e₂, a₂, w₂, hq₂, harr₂⟩ := hq
            exact ⟨e₂, a₂, w₂, hq₂, .of_steps (Steps.trans harr (.one step_inLoop)) harr₂⟩
          | exit id => exact ⟨_, a₁, w₁, hq, .pass (x := .inLoop body) rfl (fun _ _ => .inl (by simp)) harr⟩
          | goto l => exact ⟨_, a₁, w₁, hq, .pass (x := .inLoop body) rfl (fun _ _ => .inl (by simp)) harr⟩
          | ret => exact ⟨_, a₁, w₁, hq, .pass (x := .inLoop body) rfl (fun _ _ => .inl (by simp)) harr⟩
          | panic ch => exact ⟨_, a₁, w₁, hq, .pass (x := .inLoop body) rfl (fun _ _ => .inl (by simp)) harr⟩
          | outgrown => exact ⟨_, a₁, w₁, hq, .pass (x := .inLoop body) rfl (fun _ _ => .inl (by simp)) harr⟩
      obtain ⟨e, a', w', hq, harr⟩ := key k v G1 act w m1 r1 hx
      exact ⟨e, a', w', hq, .of_steps (.one step_loop) harr⟩

/-- A region with several orders, told in one. -/
theorem reg_ok {id : Nat} {ops : Array Oper} {L : Lay} {W : Type} {F : PV L.cs → PV L.vs → Option W} {dk : Dk W} {out : PV L.cs → St → Option W} {pout : PV L.cs → AVal → St → Option W} {ls : List (List Nat)}
    (hd : drawOk ops.toList (ancs ops.toList []) = true) (hc : canons ops.toList (ancs ops.toList []) ops.toList.length [] = ls)
    (h1 : ∀ l ∈ ls, covers ops.toList l = true ∧ ∀ c v, F c v = runD E ops.toList (ancs ops.toList []) l [] (L.st c v) (out c) (pout c))
    (h2 : ∀ c s x, out c s = some x → ∃ vs o, rnd (L.with vs) (keepAL L.cs c) s = some o ∧ ∀ (R : Type) f g, dk (R := R) x f g = f .normal vs o)
    (h3 : ∀ c av s x, pout c av s = some x → ∃ T ls, av = .ifc T ls ∧ allDat ls = true ∧ rnd (L.with []) (keepAL L.cs c) s = some () ∧ ∀ (R : Type) f g, dk (R := R) x f g = g T ls) :
    CodeOk P E.gt (.region id ops true) (loopSem (id + 1000000) L F dk) := by
  intro R r X st G w act K KP Q h hg0 hm hr hK hP
  simp only [loopSem] at h
  split at h
  · cases h
  · rename_i c v s hs
    obtain ⟨hbs, hn, a, hrd⟩ := ent_share hs
    cases hbi : baseIn L.cs s with
    | false => simp [hbi] at h
    | true =>
      simp only [hbi, cond_true] at h
      obtain ⟨x, hx, h⟩ := Option.bind_eq_some_iff.1 h
      have bs0 := bsub_of hrd hbi
      have bs : BSub st L c := bs0.base hbs
      obtain ⟨G1, m1, r1⟩ := ent_ok hs (fun o j lf hl => ⟨lf, bs0.leaf o j lf hl⟩) hm hr
      refine runM_ok hE.tab hE.sem hE.cong hE.det hg0 (K := fun s => gd L c s (out c s)) (KP := fun av s => gd L c s (pout c av s)) (r := x) (Kok := fun s => gd L c s (out c s) = some x) (KPok := fun av s => gd L c s (pout c av s) = some x)
        (fun s G w act m r' ho => ?_) (fun av u s G w act m r' hv ho => ?_) hE.mix hd (fun l hl => ?_) (fun _ h => h) (fun _ _ h => h) m1 r1
      · obtain ⟨hb, ho⟩ := gd_some ho
        obtain ⟨vs, o, g1, g2⟩ := h2 c s x ho
        rw [g2] at h
        obtain ⟨G', m', r''⟩ := rnd_ok (L := L.with vs) (c := c) (v := o) hb g1 m r'
        have wk := aft_weak (L := L.with vs) (c := c) (v := o) (st := st) ⟨bs.reg, bs.leaf, bs.arr⟩
        exact hK _ _ _ _ _ (wk.ok m' (fun o j u hu => (hm.bv o j u hu).1)) (wk.regs r'') h
      · obtain ⟨hb, ho⟩ := gd_some ho
        obtain ⟨T, ls', rfl, hda, g1, g2⟩ := h3 c av s x ho
        rw [g2] at h
        obtain ⟨G', m', hp⟩ := rnd_ok' (L := L.with []) (c := c) (v := ()) hb g1 m
        have wk := aft_weak (L := L.with []) (c := c) (v := ()) (st := st) ⟨bs.reg, bs.leaf, bs.arr⟩
        exact hP _ _ _ _ _ _ (wk.ok m' (fun o j u hu => (hm.bv o j u hu).1)) r' (hp T ls' u hda hv) h
      · rw [hc] at hl
        obtain ⟨q1, q2⟩ := h1 l hl
        refine ⟨q1, ?_⟩
        rw [q2 c v] at hx
        exact (runD_cong hE.cong (fun s hs => (gd_pos ⟨hs.1.symm, hs.2.1, hs.2.2.1, hs.2.2.2⟩).symm) (fun av s hs => (gd_pos ⟨hs.1.symm, hs.2.1, hs.2.2.1, hs.2.2.2⟩).symm)).symm.trans hx
end
end Go.Fx
