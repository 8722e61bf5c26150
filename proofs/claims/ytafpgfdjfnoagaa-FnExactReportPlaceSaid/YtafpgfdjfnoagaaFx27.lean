/- The framework, twenty-seventh text: the callee's own frame, and the way back. -/
import Derived.Test.YtafpgfdjfnoagaaFx26
namespace Go.Fx
set_option linter.unusedVariables false
set_option linter.unusedSimpArgs false

/-- What a callee is given: its state's memory is all it may write. -/
noncomputable def inCtx (t : St) (G : Gh) (w : World) : Ctx where
  S0 := G.S
  own0 := fun b => ∃ x, Owns G t x b
  w0 := w
  pin := fun o => if o < 10000 then (match t.obj o with | some _ => some (G.φ o, G.pre o, G.post o) | none => none) else none
  pl := fun o p h => by
    by_cases hlt : o < 10000
    · exact hlt
    · simp [hlt] at h
  bv := fun o j => if o < 10000 then (match t.obj o, lookL t.bleaves o j with
    | some ls, some _ => (match ls[j]?, w.heap[G.φ o]? with
      | some .bas, some (.cells arr elem fz) => arr.toList[(G.pre o).length + j]?
      | _, _ => none)
    | _, _ => none) else none
  bl := fun o j u h => by
    by_cases hlt : o < 10000
    · exact hlt
    · simp [hlt] at h

theorem RelM.enter {X : Ctx} {t : St} {G : Gh} {w : World} (hm : RelM X t G w) : RelM (inCtx t G w) t G w := by
  refine { sl := hm.sl, sh := hm.sh, ob := hm.ob, ar := hm.ar, ah := hm.ah, nd := hm.nd, dis := hm.dis, dS := hm.dS, inn := fun x b h => .inl ⟨x, h⟩, s0 := fun b o h => h, sn := fun b o h => .inl h, fr := fun b _ _ => rfl, sz := Nat.le_refl _, os := rfl, tp := rfl, out := rfl, pin := fun o p h => ?_, bv := fun o j u h => ?_ }
  · simp only [inCtx] at h
    split at h
    · split at h
      · rename_i ls ho
        simp only [Option.some.injEq] at h
        exact ⟨⟨ls, ho⟩, h.symm⟩
      · cases h
    · cases h
  · simp only [inCtx] at h
    split at h
    · split at h
      · rename_i ls lf ho hl
        split at h
        · rename_i arr elem fz hj hh
          obtain ⟨arr0, elem0, mid, g1, g2, g3⟩ := hm.ob o ls ho
          rw [g1] at hh
          cases hh
          exact ⟨⟨lf, hl⟩, ⟨ls, ho, hj⟩, _, _, g1, h⟩
        · cases h
      · cases h
    · cases h

theorem inCtx_pin {t : St} {G : Gh} {w : World} {o : Nat} {ls : List Leaf} (hlt : o < 10000) (ho : t.obj o = some ls) : (inCtx t G w).pin o = some (G.φ o, G.pre o, G.post o) := by
  simp [inCtx, hlt, ho]
theorem inCtx_bv {X : Ctx} {t : St} {G : Gh} {w : World} (hm : RelM X t G w) {o j : Nat} {ls : List Leaf} {lf : Leaf} (hlt : o < 10000) (ho : t.obj o = some ls) (hl : lookL t.bleaves o j = some lf) (hj : ls[j]? = some .bas) :
    ∃ arr elem u, w.heap[G.φ o]? = some (.cells arr elem (0, 0)) ∧ arr.toList[(G.pre o).length + j]? = some u ∧ (inCtx t G w).bv o j = some u := by
  obtain ⟨arr, elem, mid, g1, g2, g3⟩ := hm.ob o ls ho
  have hml : mid.length = ls.length := by have := All2.length g3; rw [resl_length] at this; exact this.symm
  have hjl : j < ls.length := (List.getElem?_eq_some_iff.1 hj).1
  have : (G.pre o).length + j < arr.toList.length := by rw [g2]; simp; omega
  refine ⟨arr, elem, arr.toList[(G.pre o).length + j], g1, List.getElem?_eq_getElem this, ?_⟩
  simp only [inCtx, hlt, if_true, ho, hl, hj, g1]
  exact List.getElem?_eq_getElem this
end Go.Fx
