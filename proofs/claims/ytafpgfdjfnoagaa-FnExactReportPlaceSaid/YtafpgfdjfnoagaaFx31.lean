/- The framework, thirty-first text: from what the interpreter says of a function to what a law's row asks. -/
import Derived.Test.YtafpgfdjfnoagaaFx30
namespace Go.Fx
set_option linter.unusedVariables false
open Go.RowKit (Below)

theorem RelM.toBelow {S : Mem} {st : St} {G : Gh} {w w' : World} (h : RelM (ctxD S w) st G w') : Below w.heap.size w w' :=
  ⟨h.os, h.tp, h.out, h.sz, fun k hk => h.fr k hk (fun h => h)⟩

/-- A function on data that comes out scalar: called in any world. -/
theorem calls_data {P : Program} {f : FuncId} {ts rs : List Ty} {W : Type} {F : DL ts → Option W} {dec : W → DL rs} (hs : SemOk P f (semD ts rs F dec)) (hrs : rs.all Ty.scal = true) {S : Mem} {w : World} (hS : ∀ b o, S b = some o → w.heap[b]? = some o)
    {avs : List AVal} {vs : List Value} {d : DL ts} {y : W} (hF : F d = some y) (hv : All2 (RelV (ghD S)) avs vs) (hsh : shareVs avs (stD 0 [] ()) = some (stD 0 [] ())) (hg : getVs (stD 0 [] ()) ts avs = some d) :
    Calls P f vs.toArray w fun e w' => e = .returned (retval (svals rs (dec y))) ∧ Below w.heap.size w w' := by
  have hrun : (semD ts rs F dec).run 0 avs (stD 0 [] ()) (fun av _ => some av) (fun _ _ => none) = some (outD rs (dec y)) := by
    simp [semD, hsh, hg, hF]
  obtain ⟨_, h⟩ := hs hrun (stD_ok hS 0 [] ()) hv
  refine h.mono fun e w' he => ?_
  cases e with
  | returned v =>
    obtain ⟨av, st', G', h1, h2, h3, h4⟩ := he
    cases h4
    refine ⟨?_, h1.toBelow⟩
    have key : ∀ {rs : List Ty} {x : DL rs}, rs.all Ty.scal = true → RelV G' (outD rs x) v → v = retval (svals rs x) := by
      intro rs x hrs hv
      match rs, x, hrs, hv with
      | [], x, _, hv => obtain ⟨us, e, h⟩ := hv; cases us with
        | nil => exact e
        | cons _ _ => exact h.elim
      | [t], x, hrs, hv =>
        simp only [List.all_cons, Bool.and_eq_true] at hrs
        exact (sval_rel hrs.1).1 hv
      | t :: t2 :: r, x, hrs, hv =>
        obtain ⟨us, e, h⟩ := hv
        have tup : ∀ {rs : List Ty} {x : DL rs} {us : List Value}, rs.all Ty.scal = true → All2 (fun (p : Bool × List Leaf) u => if p.1 = true then ∃ cs : List Value, u = .agg cs.toArray ∧ All2 (RelL G') p.2 cs else ∃ l, p.2 = [l] ∧ RelL G' l u) (tupD rs x) us → us = svals rs x := by
          intro rs
          induction rs with
          | nil => intro x us _ h; cases us with
            | nil => rfl
            | cons _ _ => exact h.elim
          | cons t r ih =>
            intro x us hrs h
            simp only [List.all_cons, Bool.and_eq_true] at hrs
            cases us with
            | nil => exact h.elim
            | cons u us =>
              have h1 := h.1
              have ha : t.agg = false := by cases t <;> simp [Ty.scal] at hrs <;> rfl
              simp only [ha, Bool.false_eq_true, if_false] at h1
              obtain ⟨l, e1, e2⟩ := h1
              have hl : l = .dat t x.1 := by
                cases t <;> simp [Ty.scal] at hrs <;> (simp only [explode, List.cons.injEq, and_true] at e1; exact e1.symm)
              subst hl
              rw [(sval_rel hrs.1).1 e2, ih hrs.2 h.2]; rfl
        rw [e, tup hrs h]; rfl
    rw [key hrs h3]
  | panicked chain => obtain ⟨v, _, _, _, _, _, _, _, h⟩ := he; cases h
  | outgrown => exact he.elim
end Go.Fx
