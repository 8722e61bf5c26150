/- The framework, seventeenth text: one operation, whatever it is. -/
import Derived.Test.YtafpgfdjfnoagaaFx16
namespace Go.Fx
set_option linter.unusedVariables false
set_option linter.unusedSimpArgs false

theorem ofConst_ok {G : Gh} (v : Value) : RelV G (ofConst v) v := by
  unfold ofConst
  split
  · exact relInt _ _
  · exact relBool _
  · rename_i s
    have : strV s.data.toList = .string s := by simp [strV]
    rw [← this]; exact relStr _
  · rfl
  · rfl
  · trivial

theorem ev_ok {G : Gh} {st : St} {act : Act} (hr : RelR G st act) (o : Operand) : RelV G (ev st o) (act.eval o) := by
  cases o with
  | tmp t =>
    simp only [ev, Act.eval]
    cases h : st.reg t with
    | none => trivial
    | some v => exact hr.2.2 t v h
  | const v => exact ofConst_ok v
  | global g => trivial
  | func f => rfl

/-- What is to be known of a function that is called. -/
def SemOk (P : Program) (f : FuncId) (s : CSem) : Prop :=
  ∀ {R : Type} {r : R} {X : Ctx} {st : St} {G : Gh} {w : World} {dst : Nat} {args : List AVal} {vs : List Value} {K KP : AVal → St → Option R},
    s.run dst args st K KP = some r → RelM X st G w → All2 (RelV G) args vs →
    (callFunc f vs.toArray).run P w = .ok (.enter f vs.toArray) w ∧ Calls P f vs.toArray w fun e w' => match e with
      | .returned v => ∃ av st' G', RelM X st' G' w' ∧ (∀ act, RelR G st act → RelR G' st' act) ∧ RelV G' av v ∧ K av st' = some r
      | .panicked chain => ∃ v, chain = [{ v, recovered := false }] ∧ ∃ av st' G', RelM X st' G' w' ∧ (∀ act, RelR G st act → RelR G' st' act) ∧ RelV G' av v ∧ KP av st' = some r
      | .outgrown => False

theorem isAgg_ok {G : Gh} {x : AVal} {v : Value} (h : x.isAgg = true) (r : RelV G x v) : ∃ cs, v = .agg cs := by
  cases x with
  | agg ls => obtain ⟨cs, e, _⟩ := r; exact ⟨_, e⟩
  | one l =>
    cases l with
    | dat t d =>
      cases t <;> simp [AVal.isAgg] at h <;> (obtain ⟨cs, e, _⟩ := r; simp only [Ty.agg, if_true] at e; exact ⟨_, e⟩)
    | _ => simp [AVal.isAgg] at h
  | _ => simp [AVal.isAgg] at h

theorem map_ev {G : Gh} {st : St} {act : Act} (hr : RelR G st act) : ∀ l : List Operand, All2 (RelV G) (l.map (ev st)) (l.map act.eval)
  | [] => trivial
  | x :: l => ⟨ev_ok hr x, map_ev hr l⟩
theorem map_ev2 {G : Gh} {st : St} {act : Act} (hr : RelR G st act) : ∀ l : List (Nat × Operand), All2 (fun (p : Nat × AVal) (q : Nat × Value) => p.1 = q.1 ∧ RelV G p.2 q.2) (l.map fun p => (p.1, ev st p.2)) (l.map fun p => (p.1, act.eval p.2))
  | [] => trivial
  | x :: l => ⟨⟨rfl, ev_ok hr x.2⟩, map_ev2 hr l⟩

section ops
variable {P : Program} {E : Env} (hE : TabOk P E.tab) (hS : ∀ f s, E.sem f = some s → SemOk P f s) {X : Ctx} {st : St} {G : Gh} {w : World} {R : Type} {r : R}
include hE hS

set_option maxHeartbeats 2000000 in
theorem exec1_ok {o : Oper} {act : Act} {K KP : AVal → St → Option R} (h : exec1 E o st K KP = some r) (hm : RelM X st G w) (hr : RelR G st act) {next : Act → World → Prop} {Q : Exit → Act → World → Prop}
    (hK : ∀ av v st' G' w', RelM X st' G' w' → RelR G' st' act → RelV G' av v → K av st' = some r → next (act.put o.dst v) w')
    (hP : ∀ av v st' G' w', RelM X st' G' w' → RelR G' st' act → RelV G' av v → KP av st' = some r → Q (.panic [{ v, recovered := false }]) act w') : o.wp P act w next Q := by
  have simple : ∀ {s : Sem Value}, (∃ av v, s.run P w = .ok v w ∧ RelV G av v ∧ K av st = some r) → (execOp act.eval o = do pure (.value (← s))) → o.wp P act w next Q := fun {s} ⟨av, v, h1, h2, h3⟩ he => by
    unfold Oper.wp
    rw [he, Sem.run_bind, h1]
    exact hK av v st G w hm hr h2 h3
  have full : ∀ {s : Sem Value}, (∃ av v st' G' w', s.run P w = .ok v w' ∧ RelM X st' G' w' ∧ (∀ act, RelR G st act → RelR G' st' act) ∧ RelV G' av v ∧ K av st' = some r) → (execOp act.eval o = do pure (.value (← s))) → o.wp P act w next Q :=
    fun {s} ⟨av, v, st', G', w', h1, h2, h3, h4, h5⟩ he => by
    unfold Oper.wp
    rw [he, Sem.run_bind, h1]
    exact hK av v st' G' w' h2 (h3 _ hr) h4 h5
  unfold exec1 at h
  split at h
  · rename_i x ho
    exact simple (s := pure (act.eval x)) ⟨_, _, rfl, ev_ok hr x, h⟩ (by simp [execOp, ho])
  · rename_i x ho
    exact simple (s := pure (act.eval x)) ⟨_, _, rfl, ev_ok hr x, h⟩ (by simp [execOp, ho])
  · rename_i c a b ho
    cases hc : (ev st c).bool? with
    | none => simp [hc] at h
    | some b' =>
      simp only [hc] at h
      have hb := boolof hc (ev_ok hr c)
      unfold Oper.wp
      simp only [execOp, ho, hb]
      cases b' with
      | true => simp only [cond_true] at h; exact hK _ _ st G w hm hr (ev_ok hr a) h
      | false => simp only [cond_false] at h; exact hK _ _ st G w hm hr (ev_ok hr b) h
  · rename_i x ho
    have hx := ev_ok hr x
    have key : (∃ a, act.eval x = .pointer (some a)) → K (ev st x) st = some r → o.wp P act w next Q := fun ⟨a, ha⟩ hk => by
      unfold Oper.wp
      simp only [execOp, ho, ha]
      exact hK _ _ st G w hm hr (by rw [← ha]; exact hx) hk
    cases hv : ev st x with
    | one l =>
      rw [hv] at h hx key
      cases l with
      | ptr ob off => exact key ⟨_, hx⟩ (by simpa [AVal.leaf] using h)
      | elt a sz i off => obtain ⟨b, len, cap, h1, h2, h3⟩ := hx; exact key ⟨_, h3⟩ (by simpa [AVal.leaf] using h)
      | she t d off => obtain ⟨b, arr, elem, fz, pre, cs, post, h1, h2, h3, h4⟩ := hx; exact key ⟨_, h4⟩ (by simpa [AVal.leaf] using h)
      | _ => simp [AVal.leaf] at h
    | _ => rw [hv] at h; simp [AVal.leaf] at h
  · rename_i T ho
    cases hT : E.tab T with
    | none => simp [hT] at h
    | some ti =>
      simp only [hT] at h
      obtain ⟨i, d, z, h1, h2, h3, h4, h5, h6, h7, h8, h9⟩ := hE T ti hT
      obtain ⟨av, st', G', m, rr, rv, hk⟩ := opNew_ok (w := w) (cs := z.cells) h hm (by rw [h6]; exact zero_ok ti.zero)
      refine full (s := Instr.alloc T true (.tuple #[])) ⟨av, _, st', G', _, ?_, m, rr, rv, hk⟩ (by simp only [execOp, ho])
      simp [Instr.alloc, zeroValue, typeInfo, h1, h5, newVar, newRow]
  · rename_i T x ho
    cases hl : (ev st x).leaves with
    | none => simp [hl] at h
    | some ls =>
      simp only [hl] at h
      obtain ⟨av, st', G', m, rr, rv, hk⟩ := opNew_ok (w := w) (cs := (act.eval x).cells) h hm (leaves_ok hm hl (ev_ok hr x))
      refine full (s := Instr.box T (act.eval x)) ⟨av, _, st', G', _, ?_, m, rr, rv, hk⟩ (by simp only [execOp, ho])
      simp [Instr.box, newVar, newRow]
  · rename_i T parts ho
    refine simple (opBuild_ok hE h hm (map_ev2 hr _)) ?_
    have : (List.map (fun p => (p.1, act.eval p.2)) parts.toList).toArray = parts.map fun (i, x) => (i, act.eval x) := by rw [← Array.toList_map]
    rw [this]
    simp only [execOp, ho]
  · rename_i T len parts ho
    refine full (opBuildSlice_ok hE h hm (map_ev2 hr _)) ?_
    have : (List.map (fun p => (p.1, act.eval p.2)) parts.toList).toArray = parts.map fun (i, x) => (i, act.eval x) := by rw [← Array.toList_map]
    rw [this]
    simp only [execOp, ho]
  · rename_i T x ho
    exact simple (opLoad_ok hE h hm (ev_ok hr x)) (by simp only [execOp, ho])
  · rename_i T x v ho
    obtain ⟨st', G', w', h1, h2, h3, h4⟩ := opStore_ok hE h hm (ev_ok hr x) (ev_ok hr v)
    unfold Oper.wp
    simp only [execOp, ho, Sem.run_bind, h1, Result.andThen_ok]
    exact hK _ _ st' G' w' h2 (h3 _ hr) (show RelV G' (.one .und) undef from rfl) h4
  · rename_i op T x y u ho
    exact simple (opBin_ok hE h (ev_ok hr x) (ev_ok hr y)) (by simp only [execOp, ho]; rfl)
  · rename_i op T x ho
    exact simple (opUn_ok h (ev_ok hr x)) (by simp only [execOp, ho])
  · rename_i S D x ho
    exact simple (opConvert_ok hE h hm (ev_ok hr x)) (by simp only [execOp, ho])
  · rename_i T l c ho
    exact full (opMakeSlice_ok hE h hm (ev_ok hr l) (ev_ok hr c)) (by simp only [execOp, ho])
  · rename_i T x lo hi mx ho
    have opt : ∀ (q : Option Operand), (∀ a, q.map (ev st) = some a → ∃ v, q.map act.eval = some v ∧ RelV G a v) ∧ (q.map (ev st) = none → q.map act.eval = none) := fun q => by
      cases q with
      | none => simp
      | some x => simp; exact ev_ok hr x
    obtain ⟨av, v, st', G', h1, h2, h3, h4, h5⟩ := opSlice_ok hE h hm (ev_ok hr x) (opt lo).1 (opt lo).2 (opt hi).1 (opt hi).2 (opt mx).2
    exact full ⟨av, v, st', G', w, h1, h2, h3, h4, h5⟩ (by simp only [execOp, ho])
  · rename_i T x f ho
    exact simple (opFieldAddr_ok hE h (ev_ok hr x)) (by simp only [execOp, ho])
  · rename_i T x f ho
    cases ha : (ev st x).isAgg with
    | false => simp [ha] at h
    | true =>
      simp only [ha, cond_true] at h
      exact simple (opField_ok hE h hm (ev_ok hr x) (isAgg_ok ha (ev_ok hr x))) (by simp only [execOp, ho])
  · rename_i T x i ho
    exact simple (opIndexAddr_ok hE h hm (ev_ok hr x) (ev_ok hr i)) (by simp only [execOp, ho])
  · rename_i T x i ho
    exact simple (opIndex_ok hE h (ev_ok hr x) (ev_ok hr i)) (by simp only [execOp, ho])
  · rename_i x n ho
    have hx := ev_ok hr x
    split at h
    · rename_i vs hv
      rw [hv] at hx
      obtain ⟨us, hu, ha⟩ := hx
      cases hn : vs[n]? with
      | none => simp [hn] at h
      | some p =>
        simp only [hn] at h
        obtain ⟨u, hu2, hp⟩ := ha.get hn
        refine simple (s := Instr.extract (act.eval x) n) ⟨_, u, by simp [Instr.extract, hu, hu2], ?_, h⟩ (by simp only [execOp, ho])
        unfold packV
        split at hp
        · rename_i hc; simp only [hc, cond_true]; exact hp
        · rename_i hc
          obtain ⟨l, e, hl⟩ := hp
          simp only [Bool.not_eq_true] at hc
          simp only [hc, cond_false, e]; exact hl
    · cases h
  · rename_i c ho
    split at h
    · rename_i b hb
      have hargs := map_ev hr c.args.toList
      obtain ⟨cs0, hcs⟩ : ∃ cs0, (execOp act.eval o).run P w = (builtin b c.argTypes o.type cs0 (c.args.map act.eval)).run P w :=
        ⟨_, by simp only [execOp, ho, resolve, hb, Sem.run_bind, Sem.run_pure, Result.andThen_ok, invoke]; rfl⟩
      obtain ⟨av, v, st', G', w', h1, h2, h3, h4, h5⟩ := opBuiltin_ok hE (ty := o.type) (cs := cs0) h hm hargs
      have e1 : (List.map act.eval c.args.toList).toArray = c.args.map act.eval := by rw [← Array.toList_map]
      rw [e1] at h1
      have e2 : c.argTypes.toList.toArray = c.argTypes := by simp
      rw [e2] at h1
      unfold Oper.wp
      rw [hcs, h1]
      exact hK _ _ st' G' w' h2 (h3 _ hr) h4 h5
    · rename_i f hb
      cases hs : E.sem f with
      | none => simp [hs] at h
      | some s =>
        simp only [hs] at h
        obtain ⟨h1, h2⟩ := hS f s hs h hm (map_ev hr c.args.toList)
        have e1 : (List.map act.eval c.args.toList).toArray = c.args.map act.eval := by rw [← Array.toList_map]
        rw [e1] at h1 h2
        unfold Oper.wp
        simp only [execOp, ho, resolve, hb, Sem.run_bind, Sem.run_pure, Result.andThen_ok, invoke, Act.eval, Deferred.ofValue, Array.append_empty, Array.empty_append, h1, Oper.upon]
        refine Calls.mono h2 fun e w'' he => ?_
        cases e with
        | returned v => obtain ⟨av, st', G', g1, g2, g3, g4⟩ := he; exact hK _ _ st' G' _ g1 (g2 _ hr) g3 g4
        | panicked chain => obtain ⟨v, rfl, av, st', G', g1, g2, g3, g4⟩ := he; exact hP _ _ st' G' _ g1 (g2 _ hr) g3 g4
        | outgrown => exact he.elim
    · cases h
  · rename_i T x ho
    cases hT : E.tab T with
    | none => simp [hT] at h
    | some ti =>
      simp only [hT] at h
      obtain ⟨d, u1, u2⟩ := (hE T ti hT).und
      split at h
      · cases h
      · rename_i ls hl hd
        refine simple (s := Instr.makeInterface T (act.eval x)) ⟨.ifc T ls, .iface T (act.eval x), ?_, ⟨_, _, rfl, rfl, leaves_ok hm hl (ev_ok hr x)⟩, h⟩ (by simp only [execOp, ho])
        simp only [Instr.makeInterface, Sem.run_bind, run_underlying u1, Result.andThen_ok]
        generalize ti.desc = q at u2 hd
        cases d with
        | interface _ => cases q <;> first | exact u2.elim | exact (hd rfl).elim
        | _ => rfl
      · cases h
  · rename_i x ho
    have hx := ev_ok hr x
    split at h
    · rename_i t ls hv
      rw [hv] at hx
      obtain ⟨u, cs, h1, h2, h3⟩ := hx
      unfold Oper.wp
      simp only [execOp, ho, h1, Instr.panic, goPanic, Sem.run_bind]
      exact hP (.ifc t ls) (.iface t u) st G w hm hr ⟨u, cs, rfl, h2, h3⟩ h
    · cases h
  · cases h
end ops
end Go.Fx
