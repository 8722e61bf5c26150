/- The framework, seventh text: arithmetic, comparisons, conversions, structs that are built, lengths, parts of slices. -/
import Derived.Test.YtafpgfdjfnoagaaFx6
namespace Go.Fx
set_option linter.unusedVariables false
set_option linter.unusedSimpArgs false

theorem strV_append (a b : Str) : (⟨a.toArray⟩ : ByteArray) ++ ⟨b.toArray⟩ = ⟨(a ++ b).toArray⟩ := by
  apply ByteArray.ext
  simp

theorem binOp_int {P : Program} {w : World} (op : BinOp) (T : TypeId) (x y : Operand) (k : IntKind) (a b : Int) (hs : op ≠ .shl) (hs' : op ≠ .shr) :
    ((do eqGuard op T x y (.int k a) (.int k b); binOp op T (.int k a) (.int k b)) : Sem Value).run P w = (match op with
      | .add | .sub | .mul => Op.intArith op k a b
      | .quo | .rem => Op.intDiv op k a b
      | .and | .or | .xor | .andNot => Op.intBits op k a b
      | _ => Op.intCmp op a b : Sem Value).run P w := by
  cases op <;> first | exact absurd rfl hs | exact absurd rfl hs' | simp [eqGuard, binOp]

section ops
variable {P : Program} {E : Env} (hE : TabOk P E.tab) {X : Ctx} {st : St} {G : Gh} {w : World} {R : Type} {r : R}
include hE

theorem opBin_ok {op : BinOp} {T : TypeId} {x y : AVal} {ox oy : Operand} {vx vy : Value} {K : AVal → Option R} (h : opBin E op T x y K = some r) (hx : RelV G x vx) (hy : RelV G y vy) :
    ∃ av v, ((do eqGuard op T ox oy vx vy; binOp op T vx vy) : Sem Value).run P w = .ok v w ∧ RelV G av v ∧ K av = some r := by
  unfold opBin at h
  split at h
  · rename_i k a k' b
    cases intof (v := .one (.dat (.int k) a)) rfl hx
    cases intof (v := .one (.dat (.int k') b)) rfl hy
    split at h
    · by_cases hb : b < 0
      · simp [hb] at h
      · simp only [hb, decide_false, cond_false] at h
        exact ⟨_, _, by simp [eqGuard, binOp, Op.shift, hb], relInt k _, h⟩
    · by_cases hb : b < 0
      · simp [hb] at h
      · simp only [hb, decide_false, cond_false] at h
        exact ⟨_, _, by simp [eqGuard, binOp, Op.shift, hb], relInt k _, h⟩
    · rename_i hn1 hn2
      by_cases hk : k = k'
      · subst hk
        simp only [decide_true, Bool.not_true, cond_false] at h
        have hrun := binOp_int (P := P) (w := w) op T ox oy k a b hn1 hn2
        split at h
        · exact ⟨_, _, by rw [hrun]; simp [Op.intArith], relInt k _, h⟩
        · exact ⟨_, _, by rw [hrun]; simp [Op.intArith], relInt k _, h⟩
        · exact ⟨_, _, by rw [hrun]; simp [Op.intArith], relInt k _, h⟩
        · by_cases hb : b = 0
          · simp [hb] at h
          · simp only [hb, decide_false, cond_false] at h
            exact ⟨_, _, by rw [hrun]; simp [Op.intDiv, hb], relInt k _, h⟩
        · by_cases hb : b = 0
          · simp [hb] at h
          · simp only [hb, decide_false, cond_false] at h
            exact ⟨_, _, by rw [hrun]; simp [Op.intDiv, hb], relInt k _, h⟩
        · exact ⟨_, _, by rw [hrun]; simp [Op.intBits]; rfl, relInt k _, h⟩
        · exact ⟨_, _, by rw [hrun]; simp [Op.intBits]; rfl, relInt k _, h⟩
        · exact ⟨_, _, by rw [hrun]; simp [Op.intBits]; rfl, relInt k _, h⟩
        · exact ⟨_, _, by rw [hrun]; simp [Op.intCmp], relBool _, h⟩
        · exact ⟨_, _, by rw [hrun]; simp [Op.intCmp], relBool _, h⟩
        · exact ⟨_, _, by rw [hrun]; simp [Op.intCmp], relBool _, h⟩
        · exact ⟨_, _, by rw [hrun]; simp [Op.intCmp], relBool _, h⟩
        · exact ⟨_, _, by rw [hrun]; simp [Op.intCmp], relBool _, h⟩
        · exact ⟨_, _, by rw [hrun]; simp [Op.intCmp], relBool _, h⟩
        · cases h
      · simp [hk] at h
  · rename_i a b
    cases strof (v := .one (.dat .str a)) rfl hx
    cases strof (v := .one (.dat .str b)) rfl hy
    split at h
    · obtain ⟨c, hc, h⟩ := Option.bind_eq_some_iff.1 h
      obtain ⟨hl, rfl⟩ := app_some hc
      have hn : ¬ (((a.length + b.length : Nat) : Int) > IntKind.i64.max) := by
        have : IntKind.i64.max = 9223372036854775807 := by rfl
        rw [this]; omega
      refine ⟨_, _, ?_, relStr _, h⟩
      have hn' : ¬ (IntKind.i64.max < (a.length : Int) + (b.length : Int)) := by
        have : IntKind.i64.max = 9223372036854775807 := by rfl
        rw [this]; omega
      have hn2 : (a.length : Int) + (b.length : Int) ≤ 9223372036854775807 := by omega
      simp [eqGuard, binOp, strV, Op.stringOp, sizeStr, hn', hn2, strV_append]
    · exact ⟨_, _, by simp [eqGuard, binOp, strV, Op.stringOp], relBool _, h⟩
    · exact ⟨_, _, by simp [eqGuard, binOp, strV, Op.stringOp], relBool _, h⟩
    · cases h
  · rename_i a b
    cases boolof (v := .one (.dat .bool a)) rfl hx
    cases boolof (v := .one (.dat .bool b)) rfl hy
    have key : ∀ {s b' : Nat} {y' : Option Ty} {z : List Value}, E.tab T = some ⟨s, b', y', .bool, z⟩ → ∀ w, (Op.equal T (.bool a) (.bool b)).run P w = .ok (a == b) w := fun hT w => by
      obtain ⟨d, h1, h2⟩ := (hE T _ hT).und
      cases d <;> simp [TDok] at h2
      show (Op.equalIn 10000 T _ _).run P w = _
      rw [show (10000 : Nat) = 9999 + 1 from rfl, Op.equalIn]
      simp [run_underlying h1]
    split at h
    · rename_i hT
      exact ⟨_, _, by simp [eqGuard, binOp, key hT], relBool _, h⟩
    · rename_i hT
      exact ⟨_, _, by simp [eqGuard, binOp, key hT], relBool _, h⟩
    · cases h
  · cases h

omit hE in
theorem opUn_ok {op : UnOp} {x : AVal} {vx : Value} {K : AVal → Option R} (h : opUn op x K = some r) (hx : RelV G x vx) :
    ∃ av v, (Op.unary op vx).run P w = .ok v w ∧ RelV G av v ∧ K av = some r := by
  unfold opUn at h
  split at h
  · rename_i k a
    cases intof (v := .one (.dat (.int k) a)) rfl hx
    exact ⟨_, _, by simp [Op.unary, Op.intArith], relInt k _, h⟩
  · rename_i a
    cases boolof (v := .one (.dat .bool a)) rfl hx
    exact ⟨_, _, by simp [Op.unary], relBool _, h⟩
  · cases h

end ops
end Go.Fx
