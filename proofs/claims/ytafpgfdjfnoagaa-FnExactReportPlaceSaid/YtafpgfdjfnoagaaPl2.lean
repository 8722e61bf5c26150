/- The plain law of 'FnExactReportPlace': the two ways of counting lines agree. -/
import Derived.Test.YtafpgfdjfnoagaaPl1
namespace Go.Fx.RP
open Go Go.Fx
set_option linter.unusedVariables false

/-- Where the last line end stands; -1 if there is none. -/
def last : Nat → Str → Int
  | 0, _ => -1
  | m + 1, s => if s[m]? = some 10 then (m : Int) else last m s

theorem w64_small {x : Int} (h1 : -4611686018427387904 ≤ x) (h2 : x ≤ 4611686018427387904) : w64 x = x := by
  unfold w64 IntKind.wrap
  simp [IntKind.bits, IntKind.signed]
  omega

theorem idx_some {s : Str} {i : Nat} (h : i < s.length) : idx s (i : Int) = some s[i] := by
  simp [idx, h]

theorem lib_l0_last (s : Str) (hs : s.length ≤ 1048576) : ∀ (m : Nat), m ≤ s.length → ∀ k, m < k → lib_l0 k s 10 ((m : Int) - 1) = some (if last m s = -1 then .inl () else .inr (last m s))
  | 0, _, k + 1, _ => by simp [lib_l0, last]
  | m + 1, hm, k + 1, hk => by
    have h1 : ((m + 1 : Nat) : Int) - 1 = (m : Int) := by omega
    rw [h1]
    have hlt : m < s.length := by omega
    simp only [lib_l0, ge_iff_le, Int.natCast_nonneg, decide_true, cond_true, idx_some hlt, Option.bind_some]
    by_cases hb : s[m] = 10
    · simp [hb, last, hlt]
    · have hne : ((s[m].toNat : Int) == 10) = false := by
        simp only [beq_eq_false_iff_ne, ne_eq]
        intro h
        exact hb (UInt8.toNat_inj.1 (by have : s[m].toNat = 10 := by omega
                                        rw [this]; rfl))
      rw [hne, cond_false, w64_small (by omega) (by omega), lib_l0_last s hs m (by omega) k (by omega)]
      simp [last, hlt, hb]

theorem last_bound (s : Str) : ∀ m, -1 ≤ last m s ∧ last m s < (m : Int)
  | 0 => by simp [last]
  | m + 1 => by
    have := last_bound s m
    simp only [last]
    split <;> omega
theorem last_take (s : Str) (m : Nat) : ∀ j, j ≤ m → last j (s.take m) = last j s
  | 0, _ => rfl
  | j + 1, h => by
    simp only [last, last_take s m j (by omega)]
    rw [List.getElem?_take_of_lt (by omega)]

def cnt (m : Nat) (s : Str) : Int := ((s.take m).count 10 : Nat)
theorem cnt_succ {s : Str} {i : Nat} (h : i < s.length) : cnt (i + 1) s = cnt i s + (if s[i] = 10 then 1 else 0) := by
  unfold cnt
  rw [List.take_add_one, List.getElem?_eq_getElem h]
  simp only [Option.toList_some, List.count_append, List.count_singleton]
  by_cases hb : s[i] = 10 <;> simp [hb]
theorem cnt_bound (s : Str) (m : Nat) : 0 ≤ cnt m s ∧ cnt m s ≤ (m : Int) := by
  unfold cnt
  have h1 : (s.take m).count 10 ≤ (s.take m).length := List.count_le_length
  have h2 : (s.take m).length ≤ m := by simp; omega
  omega

theorem spec_l0_run (s : Str) (hs : s.length ≤ 1048576) (m : Nat) (hm : m ≤ s.length) : ∀ (n i : Nat), i + n = m → ∀ k, n < k → spec_l0 k s (m : Int) (1 + cnt i s) ((i : Int) - last i s) (i : Int) = some (1 + cnt m s, (m : Int) - last m s, (m : Int))
  | 0, i, h, k + 1, _ => by
    have : i = m := by omega
    subst this
    simp [spec_l0]
  | n + 1, i, h, k + 1, hk => by
    have hi : i < s.length := by omega
    have hlt : (i : Int) < (m : Int) := by omega
    have b1 := cnt_bound s i
    have b2 := last_bound s i
    simp only [spec_l0, hlt, decide_true, cond_true, idx_some hi, Option.bind_some]
    have ih := spec_l0_run s hs m hm n (i + 1) (by omega) k (by omega)
    rw [cnt_succ hi] at ih
    have e1 : w64 ((i : Int) + 1) = ((i + 1 : Nat) : Int) := by rw [w64_small (by omega) (by omega)]; omega
    by_cases hb : s[i] = 10
    · have hx : ((s[i].toNat : Int) == 10) = true := by simp [hb]
      rw [hx, cond_true, e1, w64_small (by omega) (by omega)]
      simp only [hb, if_true, last, List.getElem?_eq_getElem hi] at ih
      rw [← ih]
      congr 1 <;> omega
    · have hne : ((s[i].toNat : Int) == 10) = false := by
        simp only [beq_eq_false_iff_ne, ne_eq]
        intro h
        exact hb (UInt8.toNat_inj.1 (by have : s[i].toNat = 10 := by omega
                                        rw [this]; rfl))
      rw [hne, cond_false, e1, w64_small (by omega) (by omega)]
      simp only [hb, if_false, last, List.getElem?_eq_getElem hi, Option.some.injEq] at ih
      rw [← ih]
      congr 1 <;> omega

theorem law_true (s : Str) (at' : Int) : law 1048578 s at' = some true := by
  unfold law
  by_cases hl : (s.length : Int) > 1048576
  · simp [hl]
  · have hs : s.length ≤ 1048576 := by omega
    simp only [hl, decide_false, cond_false]
    by_cases h0 : at' < 0
    · have : ¬ (at' ≥ 0) := by omega
      simp [spec, impl, l1In, h0, this]
    · by_cases h1 : at' > (s.length : Int)
      · have h2 : at' ≥ 0 := by omega
        have h3 : ¬ (at' ≤ (s.length : Int)) := by omega
        simp [spec, impl, l1In, h0, h1, h2, h3]
      · obtain ⟨m, rfl⟩ : ∃ m : Nat, at' = (m : Int) := ⟨at'.toNat, by omega⟩
        have hm : m ≤ s.length := by omega
        have h2 : (m : Int) ≥ 0 := by omega
        have h3 : (m : Int) ≤ (s.length : Int) := by omega
        have hsp : spec 1048578 s (m : Int) = some (1 + cnt m s, (m : Int) - last m s) := by
          have := spec_l0_run s hs m hm m 0 (by omega) 1048578 (by omega)
          have e0 : cnt 0 s = 0 := by simp [cnt]
          have e1 : last 0 s = -1 := rfl
          rw [e0, e1] at this
          simp only [spec, l1In, h2, decide_true, cond_true, h3, Option.bind_some, Bool.not_true, cond_false]
          rw [show spec_l0 1048578 s (m : Int) 1 1 0 = some (1 + cnt m s, (m : Int) - last m s, (m : Int)) from this]
          rfl
        have hsub : sub s 0 (m : Int) = some (s.take m) := by simp [sub, h3]
        have hlen : (s.take m).length = m := by simp; omega
        have hlast : lastByte 1048578 (s.take m) 10 = some (last m s) := by
          have := lib_l0_last (s.take m) (by omega) m (by omega) 1048578 (by omega)
          rw [last_take s m m (Nat.le_refl _)] at this
          unfold lastByte lib
          rw [hlen, w64_small (by omega) (by omega), this]
          by_cases hq : last m s = -1 <;> simp [hq]
        have hcnt : cntF (s.take m) [10] = some (cnt m s) := rfl
        have b1 := cnt_bound s m
        have b2 := last_bound s m
        have him : impl 1048578 s (m : Int) = some (1 + cnt m s, (m : Int) - last m s) := by
          have h4 : ¬ ((m : Int) > (s.length : Int)) := by omega
          simp only [impl, h0, h4, decide_false, cond_false, hsub, hlast, hcnt, Option.bind_some]
          rw [w64_small (by omega) (by omega), w64_small (by omega) (by omega), Int.add_comm]
        simp [hsp, him]
end Go.Fx.RP
