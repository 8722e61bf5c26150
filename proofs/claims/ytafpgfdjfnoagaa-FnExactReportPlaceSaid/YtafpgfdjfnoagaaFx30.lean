/- The framework, thirtieth text: a function whose proof says 'returned, and below all is as it was', handed to the interpreter. -/
import Derived.Test.YtafpgfdjfnoagaaFx29
namespace Go.Fx
set_option linter.unusedVariables false
set_option linter.unusedSimpArgs false
open Go.RowKit (Below)

def Ty.scal : Ty → Bool
  | .int _ => true | .bool => true | .str => true | _ => false
def sval : (t : Ty) → t.den → Value
  | .int k, n => .int k n
  | .bool, b => .bool b
  | .str, s => strV s
  | _, _ => undef
def svals : (ts : List Ty) → DL ts → List Value
  | [], _ => []
  | t :: r, d => sval t d.1 :: svals r d.2

theorem sval_rel {G : Gh} {t : Ty} (ht : t.scal = true) {d : t.den} {v : Value} : RelL G (.dat t d) v ↔ v = sval t d := by
  have fwd : ∀ {t : Ty} {d : t.den}, t.agg = false → (∀ cs, Rep G.S false t cs d [] → cs = [sval t d]) → RelL G (.dat t d) v → v = sval t d := fun {t d} ha hr h => by
    obtain ⟨cs, e1, e2⟩ := h
    simp only [ha, Bool.false_eq_true, if_false] at e1
    have := hr cs e2
    rw [e1] at this
    simpa using this
  cases t with
  | int k => exact ⟨fwd rfl fun cs h => h.1, fun h => by subst h; exact relInt k d⟩
  | bool => exact ⟨fwd rfl fun cs h => h.1, fun h => by subst h; exact relBool d⟩
  | str => exact ⟨fwd rfl fun cs h => h.1, fun h => by subst h; exact relStr d⟩
  | _ => simp [Ty.scal] at ht
theorem svals_rel {G : Gh} : ∀ {ts : List Ty} {d : DL ts} {vs : List Value}, (ts.all Ty.scal) = true → DRel G ts d vs → vs = svals ts d
  | [], d, [], _, _ => rfl
  | t :: r, d, v :: vs, h, hd => by
    simp only [List.all_cons, Bool.and_eq_true] at h
    rw [svals, (sval_rel h.1).1 hd.1, svals_rel h.2 hd.2]
  | [], d, _ :: _, _, h => h.elim
  | _ :: _, d, [], _, h => h.elim
theorem svals_dat {G : Gh} : ∀ {ts : List Ty} {d : DL ts}, (ts.all Ty.scal) = true → DRel G ts d (svals ts d)
  | [], d, _ => trivial
  | t :: r, d, h => by
    simp only [List.all_cons, Bool.and_eq_true] at h
    exact ⟨(sval_rel h.1).2 rfl, svals_dat h.2⟩

theorem RelM.below {X : Ctx} {st : St} {G : Gh} {w w' : World} (hm : RelM X st G w) (hb : Below w.heap.size w w') : RelM X st G w' := by
  have hfr : ∀ {b : Nat} {o : Obj}, w.heap[b]? = some o → w'.heap[b]? = some o := fun {b o} h => by
    rw [hb.block b (lt_of_heap h)]; exact h
  exact { sl := hm.sl, sh := fun b o h => hfr (hm.sh b o h), ob := fun o ls h => (by obtain ⟨arr, elem, mid, g1, g2, g3⟩ := hm.ob o ls h; exact ⟨arr, elem, mid, hfr g1, g2, g3⟩), ar := hm.ar, ah := fun a A h hs p hp => hfr (hm.ah a A h hs p hp), nd := hm.nd, dis := hm.dis, dS := hm.dS, inn := hm.inn, s0 := hm.s0, sn := hm.sn, fr := fun b h1 h2 => (by rw [hb.block b (by have := hm.sz; omega)]; exact hm.fr b h1 h2), sz := Nat.le_trans hm.sz hb.size, os := hb.os.trans hm.os, tp := hb.tape.trans hm.tp, out := hb.output.trans hm.out, pin := hm.pin, bv := fun o j u h => (by obtain ⟨h1, h2, arr0, elem0, h4, h5⟩ := hm.bv o j u h; exact ⟨h1, h2, arr0, elem0, hfr h4, h5⟩) }

def retval : List Value → Value
  | [v] => v
  | vs => .tuple vs.toArray

theorem outD_ok {G : Gh} {rs : List Ty} {x : DL rs} {vs : List Value} (h : DRel G rs x vs) : RelV G (outD rs x) (retval vs) := by
  cases rs with
  | nil =>
    cases vs with
    | nil => exact ⟨[], rfl, trivial⟩
    | cons _ _ => exact h.elim
  | cons t rs =>
    cases vs with
    | nil => exact h.elim
    | cons v vs =>
      cases rs with
      | nil =>
        cases vs with
        | nil => exact h.1
        | cons _ _ => exact h.2.elim
      | cons t2 rs =>
        cases vs with
        | nil => exact h.2.elim
        | cons v2 vs => exact ⟨v :: v2 :: vs, rfl, tupD_ok h⟩

theorem semOk_below {P : Program} {f : FuncId} {ts rs : List Ty} {W : Type} {F : DL ts → Option W} {dec : W → DL rs} (hts : ts.all Ty.scal = true) (hrs : rs.all Ty.scal = true) (hcall : ∀ args w, (callFunc f args).run P w = .ok (.enter f args) w)
    (h : ∀ d y w, F d = some y → Calls P f (svals ts d).toArray w fun e w' => e = .returned (retval (svals rs (dec y))) ∧ Below w.heap.size w w') : SemOk P f (semD ts rs F dec) := by
  intro R r X st G w dst args vs K KP hr hm ha
  simp only [semD] at hr
  split at hr
  · rename_i st1 hs
    split at hr
    · rename_i d hd
      obtain ⟨y, hx, hr⟩ := Option.bind_eq_some_iff.1 hr
      obtain ⟨G1, m1, a1, k1⟩ := shareVs_ok hs hm
      have hdr := getVs_ok m1 hd (ha.imp fun a v h => h.sub a1)
      have hv := svals_rel hts hdr
      subst hv
      refine ⟨hcall _ _, (h d y w hx).mono fun e w' ⟨he, hb⟩ => ?_⟩
      subst he
      exact ⟨_, st1, G1, m1.below hb, fun act ra => kept_regs k1 a1 ra, outD_ok (svals_dat hrs), hr⟩
    · cases hr
  · cases hr
end Go.Fx
