/- The framework, twenty-ninth text: the loops of a piece of code. -/
import Derived.Test.YtafpgfdjfnoagaaFx28
namespace Go.Fx
set_option linter.unusedVariables false

noncomputable def blocksOf (E : Env) (c : Code) : List (Nat × Code × LoopSem) :=
  Code.rec (motive := fun _ => List (Nat × Code × LoopSem)) [] (fun _ _ _ => []) (fun _ _ x y => x ++ y) (fun _ _ _ x y => x ++ y)
    (fun id b x => match E.loops id with | some L => [(id, b, L)] | none => x) (fun _ _ => []) (fun _ _ _ _ _ _ => [])
    (fun _ => []) (fun _ _ => []) (fun _ => []) (fun _ => []) [] (fun _ => []) c

theorem loopsOk_of {P : Program} {E : Env} {c : Code} : (∀ x ∈ blocksOf E c, LoopOk P x.1 x.2.1 x.2.2) → LoopsOk P E c := by
  induction c with
  | seq a b iha ihb => intro h; exact ⟨iha fun x hx => h x (List.mem_append_left _ hx), ihb fun x hx => h x (List.mem_append_right _ hx)⟩
  | cond c a b iha ihb => intro h; exact ⟨iha fun x hx => h x (List.mem_append_left _ hx), ihb fun x hx => h x (List.mem_append_right _ hx)⟩
  | block id b ih =>
    intro h
    have h : ∀ x ∈ (match E.loops id with | some L => [(id, b, L)] | none => blocksOf E b), LoopOk P x.1 x.2.1 x.2.2 := h
    show (match E.loops id with | some L => LoopOk P id b L | none => LoopsOk P E b)
    cases hl : E.loops id with
    | some L => rw [hl] at h; exact h (id, b, L) (by simp)
    | none => rw [hl] at h; exact ih h
  | _ => intro _; trivial

theorem loopsOk_list {P : Program} {E : Env} {c : Code} {l : List (Nat × Code × LoopSem)} (e : blocksOf E c = l) (h : ∀ x ∈ l, LoopOk P x.1 x.2.1 x.2.2) : LoopsOk P E c := loopsOk_of (by rw [e]; exact h)
end Go.Fx
