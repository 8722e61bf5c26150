/- Parts: R3p, R3q, R3s, R3t, R3u, R3l. -/
import Derived.Test.YtafpgfdjfnoagaaR3b
/- What the generator of programs makes: it ends, and its texts are short. -/
namespace Go.Fx.R3
open Go Go.Fx
set_option linter.unusedVariables false
set_option linter.unusedSimpArgs false

def Ok {α : Type} (x : Option α) (Q : α → Prop) : Prop := ∃ y, x = some y ∧ Q y
theorem Ok.pure {α : Type} {y : α} {Q : α → Prop} (h : Q y) : Ok (some y) Q := ⟨y, rfl, h⟩
theorem Ok.bind {α β : Type} {x : Option α} {f : α → Option β} {Q : α → Prop} {R : β → Prop} (h : Ok x Q) (g : ∀ y, Q y → Ok (f y) R) : Ok (x.bind f) R := by
  obtain ⟨y, rfl, hy⟩ := h; exact g y hy
theorem Ok.ite {α : Type} {c : Bool} {a b : Option α} {Q : α → Prop} (h : c = true → Ok a Q) (k : c = false → Ok b Q) : Ok (cond c a b) Q := by
  cases c with
  | true => exact h rfl
  | false => exact k rfl
theorem Ok.mono {α : Type} {x : Option α} {Q R : α → Prop} (h : Ok x Q) (g : ∀ y, Q y → R y) : Ok x R := by
  obtain ⟨y, e, hy⟩ := h; exact ⟨y, e, g y hy⟩

theorem Ok.join {α β : Type} {f : β → Option α} {body : (β → Option α) → Option α} {Q : α → Prop} (P : β → Prop) (hj : ∀ v, P v → Ok (f v) Q) (hb : ∀ j : β → Option α, (∀ v, P v → Ok (j v) Q) → Ok (body j) Q) : Ok (joinK f body) Q := hb f hj

theorem w64_small {x : Int} (h1 : -4611686018427387904 ≤ x) (h2 : x ≤ 4611686018427387904) : w64 x = x := by
  unfold w64 IntKind.wrap
  simp [IntKind.bits, IntKind.signed]
  omega
theorem idx_ok {α : Type} {l : List α} {i : Int} (h1 : 0 ≤ i) (h2 : i < (l.length : Int)) : Ok (idx l i) (fun x => x ∈ l) := by
  have hlt : i.toNat < l.length := by omega
  refine ⟨l[i.toNat], ?_, List.getElem_mem _⟩
  simp [idx, h1, hlt]
theorem app_ok {α : Type} {a b : List α} (h : a.length + b.length ≤ 4294967296) : Ok (app a b) (fun c => c.length = a.length + b.length) := by
  refine ⟨a ++ b, ?_, by simp⟩
  simp [app, h]
theorem sub_ok {α : Type} {a : List α} {i j : Int} (h1 : 0 ≤ i) (h2 : i ≤ j) (h3 : j ≤ (a.length : Int)) : Ok (sub a i j) (fun c => (c.length : Int) = j - i) := by
  refine ⟨(a.take j.toNat).drop i.toNat, ?_, ?_⟩
  · simp [sub, h1, h2, h3]
  · simp; omega
theorem xor_small {x y : Int} (hx : 0 ≤ x) (hx2 : x < 4611686018427387904) (hy : 0 ≤ y) (hy2 : y < 4611686018427387904) : 0 ≤ bitop .xor .i64 x y ∧ bitop .xor .i64 x y < 4611686018427387904 := by
  obtain ⟨a, rfl⟩ : ∃ a : Nat, x = a := ⟨x.toNat, by omega⟩
  obtain ⟨b, rfl⟩ : ∃ b : Nat, y = b := ⟨y.toNat, by omega⟩
  have ha : a < 2 ^ 62 := by omega
  have hb : b < 2 ^ 62 := by omega
  have hx := Nat.xor_lt_two_pow ha hb
  have e : ((BitVec.ofInt 64 (a : Int)) ^^^ (BitVec.ofInt 64 (b : Int))).toNat = a ^^^ b := by
    rw [BitVec.toNat_xor, BitVec.toNat_ofInt, BitVec.toNat_ofInt]
    congr 1
    · omega
    · omega
  show 0 ≤ w64 (((BitVec.ofInt 64 (a : Int)) ^^^ (BitVec.ofInt 64 (b : Int))).toNat : Int) ∧ w64 (((BitVec.ofInt 64 (a : Int)) ^^^ (BitVec.ofInt 64 (b : Int))).toNat : Int) < 4611686018427387904
  rw [e, w64_small (by omega) (by omega)]
  omega

structure Bytes (b : List Int) : Prop where
  el : ∀ x ∈ b, 0 ≤ x ∧ x ≤ 255
  len : b.length ≤ 2000

theorem pick_ok {b : List Int} {p n : Int} (hb : Bytes b) (h1 : 0 ≤ p) (h2 : p ≤ 1099511627776) (h3 : n ≤ 1099511627776) :
    Ok (spec_l1Rd_pick b p n) (fun y => 0 ≤ y.1 ∧ (y.1 < n ∨ y.1 = 0) ∧ y.2.1 = p + 1) := by
  have e1 : w64 (p + 1) = p + 1 := w64_small (by omega) (by omega)
  have e2 : w64 (w64 (p + 1) - 1) = p := by rw [e1, w64_small (by omega) (by omega)]; omega
  have hlen := hb.len
  unfold spec_l1Rd_pick
  have tm : ∀ {x m : Int}, 0 ≤ x → 0 < m → 0 ≤ x.tmod m ∧ x.tmod m < m := fun {x m} hx hm => ⟨Int.tmod_nonneg _ hx, Int.tmod_lt_of_pos _ hm⟩
  refine Ok.join (fun v => v = false → 1 ≤ n ∧ b.length ≠ 0) (fun v hv => ?_) (fun j hj => ?_)
  rotate_left
  · refine Ok.ite (fun _ => hj true (by simp)) fun hc => hj _ fun hf => ?_
    simp only [decide_eq_false_iff_not] at hc
    simp only [beq_eq_false_iff_ne, ne_eq] at hf
    omega
  · rw [e2, e1]
    refine Ok.ite (fun _ => Ok.pure ⟨by simp, .inr rfl, rfl⟩) fun hf => ?_
    obtain ⟨hn, hl⟩ := hv hf
    have hl' : ((b.length : Int) = 0) = False := eq_false (fun h => hl (by omega))
    have hn' : (n = 0) = False := eq_false (fun h => by omega)
    refine Ok.ite (fun hc => ?_) fun hc => ?_
    · simp only [decide_eq_true_eq] at hc
      refine (idx_ok h1 hc).bind fun x hx => ?_
      have := hb.el x hx
      simp only [hn', decide_false, cond_false]
      rw [w64_small (by omega) (by omega)]
      have := tm (x := x) (m := n) (by omega) (by omega)
      exact Ok.pure ⟨this.1, .inl this.2, rfl⟩
    · simp only [hl', hn', decide_false, cond_false]
      have t1 := tm (x := p) (m := (b.length : Int)) h1 (by omega)
      refine (idx_ok t1.1 t1.2).bind fun x hx => ?_
      rw [w64_small (x := p * 7) (by omega) (by omega), w64_small (x := p * 7 + 3) (by omega) (by omega)]
      have t2 := tm (x := p * 7 + 3) (m := (b.length : Int)) (by omega) (by omega)
      refine (idx_ok t2.1 t2.2).bind fun y hy => ?_
      have hx := hb.el x hx
      have hy := hb.el y hy
      have hdiv : 0 ≤ p.tdiv (b.length : Int) ∧ p.tdiv (b.length : Int) ≤ p := ⟨Int.tdiv_nonneg h1 (by omega), Int.tdiv_le_self _ h1⟩
      generalize p.tdiv (b.length : Int) = dv at hdiv
      rw [w64_small (x := x) (by omega) (by omega), w64_small (x := y) (by omega) (by omega), w64_small (x := x * 131) (by omega) (by omega), w64_small (x := y * 1117) (by omega) (by omega), w64_small (x := x * 131 + y * 1117) (by omega) (by omega),
        w64_small (x := p * 29) (by omega) (by omega), w64_small (x := x * 131 + y * 1117 + p * 29) (by omega) (by omega), w64_small (x := dv) (by omega) (by omega), w64_small (x := dv * 53) (by omega) (by omega), w64_small (x := x * 131 + y * 1117 + p * 29 + dv * 53) (by omega) (by omega)]
      generalize hz : x * 131 + y * 1117 + p * 29 + dv * 53 = z
      have hz1 : 0 ≤ z ∧ z < 1152921504606846976 := by omega
      have hz2 : 0 ≤ z.tdiv 64 ∧ z.tdiv 64 ≤ z := ⟨Int.tdiv_nonneg hz1.1 (by omega), Int.tdiv_le_self _ hz1.1⟩
      rw [w64_small (x := z.tdiv 64) (by omega) (by omega)]
      have hxr := xor_small (x := z) (y := z.tdiv 64) (by omega) (by omega) (by omega) (by omega)
      have := tm (x := bitop .xor .i64 z (z.tdiv 64)) (m := n) hxr.1 (by omega)
      exact Ok.pure ⟨this.1, .inl this.2, rfl⟩
end Go.Fx.R3

/- What the generator of programs makes, on: texts are short. -/
namespace Go.Fx.R3
open Go Go.Fx
set_option linter.unusedVariables false
set_option linter.unusedSimpArgs false

abbrev Short (B N : Nat) (p : Int) (y : Str × Int × Unit) : Prop := y.1.length ≤ B ∧ p ≤ y.2.1 ∧ y.2.1 ≤ p + N

theorem one_ok {b : List Int} {p : Int} {l : List Str} {B : Nat} (hb : Bytes b) (h1 : 0 ≤ p) (h2 : p ≤ 1000000000) (hB : 1 ≤ B) (hl : ∀ s ∈ l, s.length ≤ B) (hn : l.length ≤ 1000) : Ok (spec_l3G_one b p l) (Short B 1 p) := by
  unfold spec_l3G_one
  refine Ok.ite (fun _ => Ok.pure ⟨hB, by simp, by simp; omega⟩) fun hc => ?_
  have hc : (l.length : Int) ≠ 0 := by simpa using hc
  refine (pick_ok hb h1 (by omega) (by omega)).bind fun y hy => ?_
  obtain ⟨y1, y2, y3⟩ := hy
  refine (idx_ok (by omega) (by omega)).bind fun x hx => Ok.pure ⟨hl x hx, ?_, ?_⟩
  · show p ≤ y.2.1; omega
  · show y.2.1 ≤ p + 1; omega

theorem dec_ok : ∀ (m : Nat) {n : Int} {k : Nat}, m < k → 0 ≤ n → n < 10 ^ (m + 1) → m ≤ 6 → Ok (spec_l1Dec k n) (fun y => y.1.length ≤ m + 1)
  | m, n, 0, hk, _, _, _ => by omega
  | 0, n, k + 1, hk, h1, h2, _ => by
    show Ok (spec_l1Dec_b (spec_l1Dec k) k n) _
    unfold spec_l1Dec_b
    refine Ok.ite (fun h => by simp at h; omega) fun _ => Ok.ite (fun h => by simp at h; omega) fun _ => Ok.ite (fun h => Ok.pure (by simp)) fun h => by simp at h; omega
  | m + 1, n, k + 1, hk, h1, h2, h3 => by
    show Ok (spec_l1Dec_b (spec_l1Dec k) k n) _
    unfold spec_l1Dec_b
    refine Ok.ite (fun h => by simp at h; omega) fun _ => Ok.ite (fun h => by simp at h; omega) fun _ => Ok.ite (fun h => Ok.pure (by simp)) fun h => ?_
    have hn : n ≤ 10000000 := by
      have : (10 : Int) ^ (m + 1 + 1) ≤ 10 ^ 7 := by
        have : m + 1 + 1 ≤ 7 := by omega
        exact_mod_cast Nat.pow_le_pow_right (by omega) this
      omega
    have hd : n.tdiv 10 = n / 10 := Int.tdiv_eq_ediv_of_nonneg h1
    have hlt : n / 10 < 10 ^ (m + 1) := by
      rw [Int.pow_succ] at h2
      omega
    unfold spec_l1Dec_r7
    rw [hd, w64_small (x := n / 10) (by omega) (by omega)]
    refine Ok.bind (Q := fun y => y.1.length ≤ m + 1 + 1) ?_ fun y hy => Ok.pure hy
    refine (dec_ok m (by omega) (by omega) hlt (by omega)).bind fun y hy => ?_
    refine (app_ok (by simp; omega)).bind fun c hc => Ok.pure ?_
    simp at hc
    show c.length ≤ m + 1 + 1
    omega

structure Names (l : List Str) : Prop where
  el : ∀ s ∈ l, s.length ≤ 4
  len : l.length ≤ 1000

def tB : Nat → Nat
  | 0 => 20
  | d + 1 => 3 * tB d
def tN : Nat → Nat
  | 0 => 10
  | d + 1 => 3 * tN d
theorem tB_ge : ∀ d, 20 ≤ tB d ∧ tB d ≤ 20 * 3 ^ d
  | 0 => by simp [tB]
  | d + 1 => by have := tB_ge d; simp only [tB, Nat.pow_succ]; omega
theorem tN_ge : ∀ d, 10 ≤ tN d ∧ tN d ≤ 10 * 3 ^ d
  | 0 => by simp [tN]
  | d + 1 => by have := tN_ge d; simp only [tN, Nat.pow_succ]; omega

set_option maxHeartbeats 2000000 in
theorem term_ok {b : List Int} {ints refs own : List Str} (hb : Bytes b) (hi : Names ints) (hr : Names refs) : ∀ (d : Nat) {k : Nat} {p less : Int}, d + 5 ≤ k → d ≤ 6 → 0 ≤ p → p + tN d ≤ 500000000 → Ok (spec_l3G_term k ints refs own less b p (d : Int)) (Short (tB d) (tN d) p) := by
  intro d
  induction d using Nat.strongRecOn with
  | ind d ih =>
    intro k p less hk hd h1 h2
    obtain ⟨k, rfl⟩ : ∃ m, k = m + 1 := ⟨k - 1, by omega⟩
    show Ok (spec_l3G_term_b (spec_l3G_term k) k ints refs own less b p d) _
    have b0 := tB_ge d
    have n0 := tN_ge d
    have hp3 : 3 ^ d ≤ 729 := by
      have : 3 ^ d ≤ 3 ^ 6 := Nat.pow_le_pow_right (by omega) hd
      omega
    unfold spec_l3G_term_b
    refine (pick_ok hb h1 (by omega) (by omega)).bind fun r1 hr1 => ?_
    obtain ⟨a1, a2, a3⟩ := hr1
    refine Ok.join (fun v => v = true ∨ 0 < d) (fun v hv => ?_) (fun j hj => ?_)
    rotate_left
    · refine Ok.ite (fun h => hj _ (.inl rfl)) fun h => hj _ (.inr ?_)
      simp at h; omega
    refine Ok.ite (fun h => ?_) fun h => ?_
    · refine (pick_ok hb (by omega) (by omega) (by omega)).bind fun r2 hr2 => ?_
      obtain ⟨c1, c2, c3⟩ := hr2
      refine Ok.ite (fun _ => ?_) fun _ => ?_
      · refine (one_ok (B := 4) hb (by omega) (by omega) (by omega) hi.el hi.len).bind fun r3 hr3 => ?_
        obtain ⟨e1, e2, e3⟩ := hr3
        exact Ok.pure ⟨by show r3.1.length ≤ tB d; omega, by show p ≤ r3.2.1; omega, by show r3.2.1 ≤ p + tN d; omega⟩
      · refine (pick_ok hb (by omega) (by omega) (by omega)).bind fun r4 hr4 => ?_
        obtain ⟨e1, e2, e3⟩ := hr4
        refine (dec_ok 0 (by omega) (by omega) (by omega) (by omega)).bind fun r5 hr5 => ?_
        exact Ok.pure ⟨by show r5.1.length ≤ tB d; omega, by show p ≤ r4.2.1; omega, by show r4.2.1 ≤ p + tN d; omega⟩
    · have hpos : 0 < d := by
        rcases hv with hv | hv
        · rw [hv] at h; cases h
        · exact hv
      obtain ⟨d, rfl⟩ : ∃ m, d = m + 1 := ⟨d - 1, by omega⟩
      have eB : tB (d + 1) = 3 * tB d := rfl
      have eN : tN (d + 1) = 3 * tN d := rfl
      have b1 := tB_ge d
      have n1 := tN_ge d
      have eD : w64 (((d + 1 : Nat) : Int) - 1) = (d : Int) := by rw [w64_small (by omega) (by omega)]; omega
      have iht := fun {p less : Int} (hp : 0 ≤ p) (hp2 : p + tN d ≤ 500000000) => ih d (by omega) (k := k) (p := p) (less := less) (by omega) (by omega) hp hp2
      have iht0 : ∀ {p less : Int}, 0 ≤ p → p + 10 ≤ 500000000 → Ok (spec_l3G_term k ints refs own less b p 0) (Short 20 10 p) := fun {p less} hp hp2 => ih 0 (by omega) (k := k) (p := p) (less := less) (by omega) (by omega) hp hp2
      rw [eD, eB, eN]
      rw [eN] at h2 n0
      rw [eB] at b0
      have ht : tB d ≤ 100000 := by rw [Nat.pow_succ] at hp3; omega
      clear eB eN eD ih hv b0 n0 hp3
      replace b1 := b1.1
      replace n1 := n1.1
      generalize tB d = t at *
      generalize tN d = u at *
      repeat' first
        | (with_reducible refine (pick_ok hb (by omega) (by omega) (by omega)).bind fun r hr => ?_
           obtain ⟨_, _, _⟩ := hr)
        | (with_reducible refine (one_ok (B := 4) hb (by omega) (by omega) (by omega) hr.el hr.len).bind fun r hr => ?_
           obtain ⟨_, _, _⟩ := hr)
        | (with_reducible refine (one_ok (B := 10) hb (by omega) (by omega) (by omega) (by decide) (by decide)).bind fun r hr => ?_
           obtain ⟨_, _, _⟩ := hr)
        | (with_reducible refine (iht (by omega) (by omega)).bind fun r hr => ?_
           obtain ⟨_, _, _⟩ := hr)
        | (with_reducible refine (iht0 (by omega) (by omega)).bind fun r hr => ?_
           obtain ⟨_, _, _⟩ := hr)
        | (with_reducible refine (app_ok (by (try simp only [List.length_cons, List.length_nil]); omega)).bind fun c hc => ?_
           try simp only [List.length_cons, List.length_nil] at hc)
        | (with_reducible refine Ok.join (fun _ => True) (fun v _ => ?_) (fun j hj => ?_))
        | (with_reducible refine Ok.ite (fun _ => ?_) fun _ => ?_)
        | with_reducible exact hj _ trivial
        | (with_reducible refine Ok.pure ⟨?_, ?_, ?_⟩ <;> dsimp only <;> omega)

def cB : Nat → Nat
  | 0 => 200
  | d + 1 => 3 * cB d
def cN : Nat → Nat
  | 0 => 100
  | d + 1 => 3 * cN d
theorem condr_ok {b : List Int} {ints : List Str} (hb : Bytes b) (hi : Names ints) {k : Nat} {p : Int} {g : List Str → List Str → List Str → Int → List Int → Int → Int → Option (Str × Int × Unit)} (hk : 5 ≤ k) (h1 : 0 ≤ p) (h2 : p ≤ 499999900) :
    Ok (spec_l3G_cond_r11 g k b ints p) (fun o => o.2.1.length ≤ 30 ∧ p ≤ o.1 ∧ o.1 ≤ p + 5) := by
  unfold spec_l3G_cond_r11
  have hrf := hi
  have ho := hi
  have hv : True := trivial
  repeat' first
        | (with_reducible refine (pick_ok hb (by omega) (by omega) (by omega)).bind fun r hr => ?_
           obtain ⟨_, _, _⟩ := hr)
        | (with_reducible refine (one_ok (B := 4) hb (by omega) (by omega) (by omega) hi.el hi.len).bind fun r hr => ?_
           obtain ⟨_, _, _⟩ := hr)
        | (with_reducible refine (one_ok (B := 4) hb (by omega) (by omega) (by omega) hrf.el hrf.len).bind fun r hr => ?_
           obtain ⟨_, _, _⟩ := hr)
        | (with_reducible refine (one_ok (B := 4) hb (by omega) (by omega) (by omega) ho.el ho.len).bind fun r hr => ?_
           obtain ⟨_, _, _⟩ := hr)
        | (with_reducible refine (one_ok (B := 12) hb (by omega) (by omega) (by omega) (by decide) (by decide)).bind fun r hr => ?_
           obtain ⟨_, _, _⟩ := hr)
        | (with_reducible refine (dec_ok 1 (by omega) (by omega) (by omega) (by omega)).bind fun r hr => ?_)
        | (with_reducible refine (app_ok (by (try simp only [List.length_cons, List.length_nil]); omega)).bind fun c hc => ?_
           try simp only [List.length_cons, List.length_nil] at hc)
        | (with_reducible refine Ok.ite (fun h => ?_) fun h => ?_) <;> (try have := hv h) <;> try simp only [decide_eq_true_eq, decide_eq_false_iff_not] at h
        | (with_reducible refine Ok.pure ⟨?_, ?_, ?_⟩ <;> dsimp only <;> omega)

theorem cB_ge : ∀ d, 200 ≤ cB d ∧ cB d ≤ 200 * 3 ^ d
  | 0 => by simp [cB]
  | d + 1 => by have := cB_ge d; simp only [cB, Nat.pow_succ]; omega
theorem cN_ge : ∀ d, 100 ≤ cN d ∧ cN d ≤ 100 * 3 ^ d
  | 0 => by simp [cN]
  | d + 1 => by have := cN_ge d; simp only [cN, Nat.pow_succ]; omega
set_option maxHeartbeats 4000000 in
theorem cond_ok {b : List Int} {ints refs own : List Str} (hb : Bytes b) (hi : Names ints) (hrf : Names refs) (ho : Names own) : ∀ (d : Nat) {k : Nat} {p less : Int}, d + 10 ≤ k → d ≤ 2 → 0 ≤ p → p + cN d ≤ 400000000 → Ok (spec_l3G_cond k ints refs own less b p (d : Int)) (Short (cB d) (cN d) p) := by
  intro d
  induction d using Nat.strongRecOn with
  | ind d ih =>
    intro k p less hk hd h1 h2
    obtain ⟨k, rfl⟩ : ∃ m, k = m + 1 := ⟨k - 1, by omega⟩
    show Ok (spec_l3G_cond_b (spec_l3G_cond k) k ints refs own less b p d) _
    have tok : ∀ {p less : Int}, 0 ≤ p → p + 30 ≤ 500000000 → Ok (spec_l3G_term k ints refs own less b p 1) (Short 60 30 p) := fun {p less} hp hp2 => term_ok (own := own) hb hi hrf 1 (k := k) (p := p) (less := less) (by omega) (by omega) hp hp2
    have b0 := cB_ge d
    have n0 := cN_ge d
    obtain ⟨t, u, ht, hu, htu⟩ : ∃ t u, (0 < d → cB d = 3 * t ∧ 200 ≤ t) ∧ (0 < d → cN d = 3 * u ∧ 100 ≤ u) ∧ ∀ {p less : Int}, 0 < d → 0 ≤ p → p + u ≤ 400000000 → Ok (spec_l3G_cond k ints refs own less b p (w64 ((d : Int) - 1))) (Short t u p) := by
      refine ⟨cB (d - 1), cN (d - 1), fun h => ?_, fun h => ?_, fun {p less} h hp hp2 => ?_⟩
      · obtain ⟨m, rfl⟩ : ∃ m, d = m + 1 := ⟨d - 1, by omega⟩
        exact ⟨rfl, (cB_ge m).1⟩
      · obtain ⟨m, rfl⟩ : ∃ m, d = m + 1 := ⟨d - 1, by omega⟩
        exact ⟨rfl, (cN_ge m).1⟩
      · obtain ⟨m, rfl⟩ : ∃ m, d = m + 1 := ⟨d - 1, by omega⟩
        have eD : w64 (((m + 1 : Nat) : Int) - 1) = (m : Int) := by rw [w64_small (by omega) (by omega)]; omega
        rw [eD]
        exact ih m (by omega) (by omega) (by omega) hp hp2
    have iht : ∀ {p less : Int}, 0 < d → 0 ≤ p → p + u ≤ 400000000 → Ok (spec_l3G_cond k ints refs own less b p (w64 ((d : Int) - 1))) (Short t u p) := htu
    clear htu ih
    have hp3 : 3 ^ d ≤ 9 := by
      have : 3 ^ d ≤ 3 ^ 2 := Nat.pow_le_pow_right (by omega) hd
      omega
    obtain ⟨hB, hB2⟩ : 200 ≤ cB d ∧ cB d ≤ 1800 := by omega
    obtain ⟨hN, hN2⟩ : 100 ≤ cN d ∧ cN d ≤ 900 := by omega
    clear b0 n0 hp3
    unfold spec_l3G_cond_b
    generalize cB d = T at *
    generalize cN d = U at *
    refine (pick_ok hb h1 (by omega) (by omega)).bind fun r1 hr1 => ?_
    obtain ⟨a1, a2, a3⟩ := hr1
    refine Ok.join (fun v => v = true → 0 < d) (fun v hv => ?_) (fun j hj => ?_)
    rotate_left
    · exact Ok.ite (fun h => hj _ fun _ => by simpa using h) (fun h => hj _ (by simp))
    refine Ok.ite (fun h => ?_) fun h => ?_
    · have hd0 := hv h
      have ht := ht hd0
      have hu := hu hd0
      repeat' first
        | (with_reducible refine (pick_ok hb (by omega) (by omega) (by omega)).bind fun r hr => ?_
           obtain ⟨_, _, _⟩ := hr)
        | (with_reducible refine (one_ok (B := 4) hb (by omega) (by omega) (by omega) hi.el hi.len).bind fun r hr => ?_
           obtain ⟨_, _, _⟩ := hr)
        | (with_reducible refine (one_ok (B := 4) hb (by omega) (by omega) (by omega) hrf.el hrf.len).bind fun r hr => ?_
           obtain ⟨_, _, _⟩ := hr)
        | (with_reducible refine (one_ok (B := 4) hb (by omega) (by omega) (by omega) ho.el ho.len).bind fun r hr => ?_
           obtain ⟨_, _, _⟩ := hr)
        | (with_reducible refine (one_ok (B := 12) hb (by omega) (by omega) (by omega) (by decide) (by decide)).bind fun r hr => ?_
           obtain ⟨_, _, _⟩ := hr)
        | (with_reducible refine (dec_ok 1 (by omega) (by omega) (by omega) (by omega)).bind fun r hr => ?_)
        | (with_reducible refine (tok (by omega) (by omega)).bind fun r hr => ?_
           obtain ⟨_, _, _⟩ := hr)
        | (with_reducible refine (iht (by omega) (by omega) (by omega)).bind fun r hr => ?_
           obtain ⟨_, _, _⟩ := hr)
        | (with_reducible refine (condr_ok hb hi (by omega) (by omega) (by omega)).bind fun r hr => ?_
           obtain ⟨_, _, _⟩ := hr)
        | (with_reducible refine (app_ok (by (try simp only [List.length_cons, List.length_nil]); omega)).bind fun c hc => ?_
           try simp only [List.length_cons, List.length_nil] at hc)
        | (with_reducible refine Ok.ite (fun h => ?_) fun h => ?_) <;> (try have := hv h) <;> try simp only [decide_eq_true_eq, decide_eq_false_iff_not] at h
        | (with_reducible refine Ok.pure ⟨?_, ?_, ?_⟩ <;> dsimp only <;> omega)
    refine Ok.join (fun v => v = true → 0 < d) (fun v hv => ?_) (fun j hj => ?_)
    rotate_left
    · exact Ok.ite (fun h => hj _ fun _ => by simpa using h) (fun h => hj _ (by simp))
    refine Ok.ite (fun h => ?_) fun h => ?_
    · have hd0 := hv h
      have ht := ht hd0
      have hu := hu hd0
      repeat' first
        | (with_reducible refine (pick_ok hb (by omega) (by omega) (by omega)).bind fun r hr => ?_
           obtain ⟨_, _, _⟩ := hr)
        | (with_reducible refine (one_ok (B := 4) hb (by omega) (by omega) (by omega) hi.el hi.len).bind fun r hr => ?_
           obtain ⟨_, _, _⟩ := hr)
        | (with_reducible refine (one_ok (B := 4) hb (by omega) (by omega) (by omega) hrf.el hrf.len).bind fun r hr => ?_
           obtain ⟨_, _, _⟩ := hr)
        | (with_reducible refine (one_ok (B := 4) hb (by omega) (by omega) (by omega) ho.el ho.len).bind fun r hr => ?_
           obtain ⟨_, _, _⟩ := hr)
        | (with_reducible refine (one_ok (B := 12) hb (by omega) (by omega) (by omega) (by decide) (by decide)).bind fun r hr => ?_
           obtain ⟨_, _, _⟩ := hr)
        | (with_reducible refine (dec_ok 1 (by omega) (by omega) (by omega) (by omega)).bind fun r hr => ?_)
        | (with_reducible refine (tok (by omega) (by omega)).bind fun r hr => ?_
           obtain ⟨_, _, _⟩ := hr)
        | (with_reducible refine (iht (by omega) (by omega) (by omega)).bind fun r hr => ?_
           obtain ⟨_, _, _⟩ := hr)
        | (with_reducible refine (condr_ok hb hi (by omega) (by omega) (by omega)).bind fun r hr => ?_
           obtain ⟨_, _, _⟩ := hr)
        | (with_reducible refine (app_ok (by (try simp only [List.length_cons, List.length_nil]); omega)).bind fun c hc => ?_
           try simp only [List.length_cons, List.length_nil] at hc)
        | (with_reducible refine Ok.ite (fun h => ?_) fun h => ?_) <;> (try have := hv h) <;> try simp only [decide_eq_true_eq, decide_eq_false_iff_not] at h
        | (with_reducible refine Ok.pure ⟨?_, ?_, ?_⟩ <;> dsimp only <;> omega)
    refine Ok.join (fun v => v = true → 0 < d) (fun v hv => ?_) (fun j hj => ?_)
    rotate_left
    · exact Ok.ite (fun h => hj _ fun _ => by simpa using h) (fun h => hj _ (by simp))
    refine Ok.ite (fun h => ?_) fun h => ?_
    · have hd0 := hv h
      have ht := ht hd0
      have hu := hu hd0
      repeat' first
        | (with_reducible refine (pick_ok hb (by omega) (by omega) (by omega)).bind fun r hr => ?_
           obtain ⟨_, _, _⟩ := hr)
        | (with_reducible refine (one_ok (B := 4) hb (by omega) (by omega) (by omega) hi.el hi.len).bind fun r hr => ?_
           obtain ⟨_, _, _⟩ := hr)
        | (with_reducible refine (one_ok (B := 4) hb (by omega) (by omega) (by omega) hrf.el hrf.len).bind fun r hr => ?_
           obtain ⟨_, _, _⟩ := hr)
        | (with_reducible refine (one_ok (B := 4) hb (by omega) (by omega) (by omega) ho.el ho.len).bind fun r hr => ?_
           obtain ⟨_, _, _⟩ := hr)
        | (with_reducible refine (one_ok (B := 12) hb (by omega) (by omega) (by omega) (by decide) (by decide)).bind fun r hr => ?_
           obtain ⟨_, _, _⟩ := hr)
        | (with_reducible refine (dec_ok 1 (by omega) (by omega) (by omega) (by omega)).bind fun r hr => ?_)
        | (with_reducible refine (tok (by omega) (by omega)).bind fun r hr => ?_
           obtain ⟨_, _, _⟩ := hr)
        | (with_reducible refine (iht (by omega) (by omega) (by omega)).bind fun r hr => ?_
           obtain ⟨_, _, _⟩ := hr)
        | (with_reducible refine (condr_ok hb hi (by omega) (by omega) (by omega)).bind fun r hr => ?_
           obtain ⟨_, _, _⟩ := hr)
        | (with_reducible refine (app_ok (by (try simp only [List.length_cons, List.length_nil]); omega)).bind fun c hc => ?_
           try simp only [List.length_cons, List.length_nil] at hc)
        | (with_reducible refine Ok.ite (fun h => ?_) fun h => ?_) <;> (try have := hv h) <;> try simp only [decide_eq_true_eq, decide_eq_false_iff_not] at h
        | (with_reducible refine Ok.pure ⟨?_, ?_, ?_⟩ <;> dsimp only <;> omega)
    refine Ok.join (fun v => True) (fun v hv => ?_) (fun j hj => ?_)
    rotate_left
    · exact Ok.ite (fun h => hj _ trivial) (fun h => hj _ trivial)
    · clear ht hu
      repeat' first
        | (with_reducible refine (pick_ok hb (by omega) (by omega) (by omega)).bind fun r hr => ?_
           obtain ⟨_, _, _⟩ := hr)
        | (with_reducible refine (one_ok (B := 4) hb (by omega) (by omega) (by omega) hi.el hi.len).bind fun r hr => ?_
           obtain ⟨_, _, _⟩ := hr)
        | (with_reducible refine (one_ok (B := 4) hb (by omega) (by omega) (by omega) hrf.el hrf.len).bind fun r hr => ?_
           obtain ⟨_, _, _⟩ := hr)
        | (with_reducible refine (one_ok (B := 4) hb (by omega) (by omega) (by omega) ho.el ho.len).bind fun r hr => ?_
           obtain ⟨_, _, _⟩ := hr)
        | (with_reducible refine (one_ok (B := 12) hb (by omega) (by omega) (by omega) (by decide) (by decide)).bind fun r hr => ?_
           obtain ⟨_, _, _⟩ := hr)
        | (with_reducible refine (dec_ok 1 (by omega) (by omega) (by omega) (by omega)).bind fun r hr => ?_)
        | (with_reducible refine (tok (by omega) (by omega)).bind fun r hr => ?_
           obtain ⟨_, _, _⟩ := hr)
        | (with_reducible refine (iht (by omega) (by omega) (by omega)).bind fun r hr => ?_
           obtain ⟨_, _, _⟩ := hr)
        | (with_reducible refine (condr_ok hb hi (by omega) (by omega) (by omega)).bind fun r hr => ?_
           obtain ⟨_, _, _⟩ := hr)
        | (with_reducible refine (app_ok (by (try simp only [List.length_cons, List.length_nil]); omega)).bind fun c hc => ?_
           try simp only [List.length_cons, List.length_nil] at hc)
        | (with_reducible refine Ok.ite (fun h => ?_) fun h => ?_) <;> (try have := hv h) <;> try simp only [decide_eq_true_eq, decide_eq_false_iff_not] at h
        | (with_reducible refine Ok.pure ⟨?_, ?_, ?_⟩ <;> dsimp only <;> omega)
end Go.Fx.R3

/- What the generator of programs makes, on: lines and blocks. -/
namespace Go.Fx.R3
open Go Go.Fx
set_option linter.unusedVariables false
set_option linter.unusedSimpArgs false

theorem toks {b : List Int} {ints refs own : List Str} (hb : Bytes b) (hi : Names ints) (hrf : Names refs) {k : Nat} (hk : 10 ≤ k) :
    (∀ {p less : Int}, 0 ≤ p → p ≤ 499999000 → Ok (spec_l3G_term k ints refs own less b p 0) (Short 20 10 p)) ∧ (∀ {p less : Int}, 0 ≤ p → p ≤ 499999000 → Ok (spec_l3G_term k ints refs own less b p 1) (Short 60 30 p)) ∧
    (∀ {p less : Int}, 0 ≤ p → p ≤ 499999000 → Ok (spec_l3G_term k ints refs own less b p 2) (Short 180 90 p)) :=
  ⟨fun {p less} hp hp2 => term_ok (own := own) hb hi hrf 0 (k := k) (p := p) (less := less) (by omega) (by omega) hp (by show p + ((10 : Nat) : Int) ≤ _; omega),
   fun {p less} hp hp2 => term_ok (own := own) hb hi hrf 1 (k := k) (p := p) (less := less) (by omega) (by omega) hp (by show p + ((30 : Nat) : Int) ≤ _; omega),
   fun {p less} hp hp2 => term_ok (own := own) hb hi hrf 2 (k := k) (p := p) (less := less) (by omega) (by omega) hp (by show p + ((90 : Nat) : Int) ≤ _; omega)⟩
theorem cons12 {b : List Int} {ints refs own : List Str} (hb : Bytes b) (hi : Names ints) (hrf : Names refs) (ho : Names own) {k : Nat} (hk : 14 ≤ k) :
    (∀ {p less : Int}, 0 ≤ p → p ≤ 399999000 → Ok (spec_l3G_cond k ints refs own less b p 1) (Short 600 300 p)) ∧ (∀ {p less : Int}, 0 ≤ p → p ≤ 399999000 → Ok (spec_l3G_cond k ints refs own less b p 2) (Short 1800 900 p)) :=
  ⟨fun {p less} hp hp2 => cond_ok (own := own) hb hi hrf ho 1 (k := k) (p := p) (less := less) (by omega) (by omega) hp (by show p + ((300 : Nat) : Int) ≤ _; omega),
   fun {p less} hp hp2 => cond_ok (own := own) hb hi hrf ho 2 (k := k) (p := p) (less := less) (by omega) (by omega) hp (by show p + ((900 : Nat) : Int) ≤ _; omega)⟩

set_option maxHeartbeats 4000000 in
theorem small_ok {b : List Int} {ints refs own : List Str} (hb : Bytes b) (hi : Names ints) (hrf : Names refs) (ho : Names own) {k : Nat} {p less kk : Int} (hk : 10 ≤ k) (h1 : 0 ≤ p) (h2 : p ≤ 399999000) :
    Ok (spec_l3G_small k ints refs own less b p kk) (Short 400 200 p) := by
  obtain ⟨tok0, tok1, tok2⟩ := toks (own := own) hb hi hrf hk
  unfold spec_l3G_small
  repeat' first
        | (with_reducible refine (pick_ok hb (by omega) (by omega) (by omega)).bind fun r hr => ?_
           obtain ⟨_, _, _⟩ := hr)
        | (with_reducible refine (one_ok (B := 4) hb (by omega) (by omega) (by omega) hi.el hi.len).bind fun r hr => ?_
           obtain ⟨_, _, _⟩ := hr)
        | (with_reducible refine (one_ok (B := 4) hb (by omega) (by omega) (by omega) hrf.el hrf.len).bind fun r hr => ?_
           obtain ⟨_, _, _⟩ := hr)
        | (with_reducible refine (one_ok (B := 4) hb (by omega) (by omega) (by omega) ho.el ho.len).bind fun r hr => ?_
           obtain ⟨_, _, _⟩ := hr)
        | (with_reducible refine (one_ok (B := 12) hb (by omega) (by omega) (by omega) (by decide) (by decide)).bind fun r hr => ?_
           obtain ⟨_, _, _⟩ := hr)
        | (with_reducible refine (dec_ok 1 (by omega) (by omega) (by omega) (by omega)).bind fun r hr => ?_)
        | (with_reducible refine (tok0 (by omega) (by omega)).bind fun r hr => ?_
           obtain ⟨_, _, _⟩ := hr)
        | (with_reducible refine (tok1 (by omega) (by omega)).bind fun r hr => ?_
           obtain ⟨_, _, _⟩ := hr)
        | (with_reducible refine (tok2 (by omega) (by omega)).bind fun r hr => ?_
           obtain ⟨_, _, _⟩ := hr)
        | (with_reducible refine (app_ok (by (try simp only [List.length_cons, List.length_nil]); omega)).bind fun c hc => ?_
           try simp only [List.length_cons, List.length_nil] at hc)
        | (with_reducible refine Ok.join (β := Bool × Int) (fun v => p ≤ v.2 ∧ v.2 ≤ p + 1) (fun v hvv => ?_) (fun j hj => ?_))
        | (with_reducible refine Ok.join (fun v => True) (fun v _ => ?_) (fun j hj => ?_))
        | with_reducible exact hj _ trivial
        | (with_reducible refine hj _ ⟨?_, ?_⟩ <;> dsimp only <;> omega)
        | (with_reducible refine Ok.ite (fun h => ?_) fun h => ?_) <;> try simp only [decide_eq_true_eq, decide_eq_false_iff_not, beq_iff_eq, beq_eq_false_iff_ne, ne_eq] at h
        | (with_reducible refine Ok.pure ⟨?_, ?_, ?_⟩ <;> dsimp only [List.length_cons, List.length_nil] <;> omega)

def lB : Nat → Nat
  | 0 => 500
  | d + 1 => 4 * lB d + 2100
def lN : Nat → Nat
  | 0 => 300
  | d + 1 => 4 * lN d + 1000
abbrev Shot (B N : Nat) (p less : Int) (y : Str × Int × Int × Unit) : Prop := y.1.length ≤ B ∧ p ≤ y.2.1 ∧ y.2.1 ≤ p + N ∧ less - N ≤ y.2.2.1 ∧ y.2.2.1 ≤ less

theorem loop_okB {b : List Int} {ints refs own : List Str} {deep : Int} {B N : Nat} {g1 : List Str → List Str → List Str → Int → List Int → Int → Int → Option (Str × Int × Int × Unit)} {g2 : List Str → List Str → List Str → Int → List Int → Int → Int → Int → Option (Str × Int × Int × Unit)} {q : Nat} {n : Int} (hn : n ≤ 1000) (hB : B ≤ 1000000)
    (hg : ∀ {p less : Int}, 0 ≤ p → p + N ≤ 300000000 → -300000000 ≤ less - N → less ≤ 300000000 → Ok (g1 ints refs own less b p deep) (Shot B N p less)) :
    ∀ (m : Nat) {k : Nat} {p less k1 : Int} {out : Str}, m < k → 0 ≤ k1 → n ≤ k1 + m → 0 ≤ p → p + (m * N : Nat) ≤ 300000000 → -300000000 ≤ less - (m * N : Nat) → less ≤ 300000000 → out.length + m * B ≤ 4000000 →
      Ok (spec_l3G_block_l0 g1 g2 q k b ints refs own deep n p less out k1) (fun o => out.length ≤ o.2.2.1.length ∧ o.2.2.1.length ≤ out.length + m * B ∧ p ≤ o.1 ∧ o.1 ≤ p + (m * N : Nat) ∧ less - (m * N : Nat) ≤ o.2.1 ∧ o.2.1 ≤ less)
  | 0, k + 1, p, less, k1, out, _, h1, h2, h3, h4, h5, h6, h7 => by
    unfold spec_l3G_block_l0
    refine Ok.ite (fun h => by simp at h; omega) fun _ => Ok.pure ⟨?_, ?_, ?_, ?_, ?_, ?_⟩ <;> dsimp only <;> omega
  | m + 1, k + 1, p, less, k1, out, hk, h1, h2, h3, h4, h5, h6, h7 => by
    unfold spec_l3G_block_l0
    have e1 : (m + 1) * N = m * N + N := Nat.succ_mul m N
    have e2 : (m + 1) * B = m * B + B := Nat.succ_mul m B
    refine Ok.ite (fun h => ?_) fun _ => Ok.pure ⟨?_, ?_, ?_, ?_, ?_, ?_⟩ <;> try (dsimp only; omega)
    simp only [decide_eq_true_eq] at h
    refine (hg h3 (by omega) (by omega) (by omega)).bind fun r hr => ?_
    obtain ⟨a1, a2, a3, a4, a5⟩ := hr
    refine (app_ok (by omega)).bind fun c hc => ?_
    rw [w64_small (x := k1 + 1) (by omega) (by omega)]
    refine (loop_okB hn hB hg m (by omega) (by omega) (by omega) (by omega) (by omega) (by omega) (by omega) (by omega)).mono fun o ho => ?_
    obtain ⟨b1, b2, b3, b4, b5, b6⟩ := ho
    refine ⟨?_, ?_, ?_, ?_, ?_, ?_⟩ <;> omega

theorem block_ok {b : List Int} {ints refs own : List Str} {d : Nat} {B N : Nat} (hB : B ≤ 1000000) {k : Nat} (hk : 5 ≤ k)
    (hg : ∀ {p less : Int}, 0 ≤ p → p + N ≤ 300000000 → -300000000 ≤ less - N → less ≤ 300000000 → Ok (spec_l3G_line k ints refs own less b p (d : Int)) (Shot B N p less)) {p less n : Int}
    (h1 : n ≤ 2) (h2 : 0 ≤ p) (h3 : p + (2 * N : Nat) ≤ 300000000) (h4 : -300000000 ≤ less - (2 * N : Nat)) (h5 : less ≤ 300000000) :
    Ok (spec_l3G_block (k + 1) ints refs own less b p (d : Int) n) (fun y => Shot (2 * B + 10) (2 * N) p less y ∧ 2 ≤ y.1.length) := by
  show Ok (spec_l3G_block_b (spec_l3G_line k) (spec_l3G_block k) k ints refs own less b p d n) _
  unfold spec_l3G_block_b
  refine (loop_okB (by omega) hB hg 2 (by omega) (by omega) (by omega) (by omega) (by omega) (by omega) (by omega) (by simp; omega)).bind fun o ho => ?_
  obtain ⟨b1, b2, b3, b4, b5, b6⟩ := ho
  simp only [List.length_cons, List.length_nil] at b1 b2
  refine (app_ok (by simp only [List.length_cons, List.length_nil]; omega)).bind fun c hc => ?_
  simp only [List.length_cons, List.length_nil] at hc
  refine Ok.pure ⟨⟨?_, ?_, ?_, ?_, ?_⟩, ?_⟩ <;> dsimp only <;> omega
end Go.Fx.R3

/- What the generator of programs makes, to the end. -/
namespace Go.Fx.R3
open Go Go.Fx
set_option linter.unusedVariables false
set_option linter.unusedSimpArgs false

theorem liner_ok {b : List Int} {ints refs own : List Str} (hb : Bytes b) (hi : Names ints) {d B N : Nat} {k : Nat} (hk : 10 ≤ k) (hB : B ≤ 1000000)
    {g1 : List Str → List Str → List Str → Int → List Int → Int → Int → Option (Str × Int × Int × Unit)} {g2 : List Str → List Str → List Str → Int → List Int → Int → Int → Int → Option (Str × Int × Int × Unit)} {p less : Int}
    (blk : ∀ {p less n : Int}, n ≤ 2 → 0 ≤ p → p + N ≤ 300000000 → -300000000 ≤ less - N → less ≤ 300000000 → Ok (g2 ints refs own less b p (w64 ((d : Int) - 1)) n) (fun y => Shot B N p less y ∧ 2 ≤ y.1.length))
    (h1 : 0 ≤ p) (h2 : p + N ≤ 299999900) (h3 : -300000000 ≤ less - N) (h4 : less ≤ 300000000) :
    Ok (spec_l3G_line_r15 g1 g2 k b ints refs own (d : Int) p less) (fun o => o.2.2.1.length ≤ B + 40 ∧ p ≤ o.1 ∧ o.1 ≤ p + N + 5 ∧ less - N ≤ o.2.1 ∧ o.2.1 ≤ less) := by
  unfold spec_l3G_line_r15
  have hrf := hi
  have ho := hi
  refine (pick_ok hb h1 (by omega) (by omega)).bind fun r1 hr1 => ?_
  obtain ⟨a1, a2, a3⟩ := hr1
  refine (dec_ok 1 (by omega) (by omega) (by omega) (by omega)).bind fun r2 hr2 => ?_
  repeat' first
        | (with_reducible refine (app_ok (by (try simp only [List.length_cons, List.length_nil]); omega)).bind fun c hc => ?_
           try simp only [List.length_cons, List.length_nil] at hc)
        | (with_reducible refine (one_ok (B := 12) hb (by omega) (by omega) (by omega) (by decide) (by decide)).bind fun r hr => ?_
           obtain ⟨_, _, _⟩ := hr)
        | (with_reducible refine (pick_ok hb (by omega) (by omega) (by omega)).bind fun r hr => ?_
           obtain ⟨_, _, _⟩ := hr
           rw [w64_small (x := 1 + r.1) (by omega) (by omega)])
        | (with_reducible refine (blk (by omega) (by omega) (by omega) (by omega) (by omega)).bind fun r hr => ?_
           obtain ⟨⟨_, _, _, _, _⟩, _⟩ := hr)
        | (with_reducible refine Ok.pure ⟨?_, ?_, ?_, ?_, ?_⟩ <;> dsimp only [List.length_cons, List.length_nil] <;> omega)

theorem lB_ge : ∀ d, 500 ≤ lB d ∧ lB d + 700 ≤ 1200 * 4 ^ d
  | 0 => by simp [lB]
  | d + 1 => by have := lB_ge d; simp only [lB, Nat.pow_succ]; omega
theorem lN_ge : ∀ d, 300 ≤ lN d ∧ lN d + 334 ≤ 700 * 4 ^ d
  | 0 => by simp [lN]
  | d + 1 => by have := lN_ge d; simp only [lN, Nat.pow_succ]; omega

set_option maxHeartbeats 8000000 in
theorem line_ok {b : List Int} {ints refs own : List Str} (hb : Bytes b) (hi : Names ints) (hrf : Names refs) (ho : Names own) : ∀ (d : Nat) {k : Nat} {p less : Int}, 2 * d + 20 ≤ k → d ≤ 2 → 0 ≤ p → p + lN d ≤ 300000000 → -300000000 ≤ less - lN d → less ≤ 300000000 →
    Ok (spec_l3G_line k ints refs own less b p (d : Int)) (Shot (lB d) (lN d) p less) := by
  intro d
  induction d using Nat.strongRecOn with
  | ind d ih =>
    intro k p less hk hd h1 h2 h3 h4
    obtain ⟨k, rfl⟩ : ∃ m, k = m + 1 := ⟨k - 1, by omega⟩
    show Ok (spec_l3G_line_b (spec_l3G_line k) (spec_l3G_block k) k ints refs own less b p d) _
    obtain ⟨_, _, tok2⟩ := toks (own := own) hb hi hrf (k := k) (by omega)
    obtain ⟨con1, con2⟩ := cons12 (own := own) hb hi hrf ho (k := k) (by omega)
    have hs := fun {p less kk : Int} (hp : 0 ≤ p) (hp2 : p ≤ 399999000) => small_ok (own := own) hb hi hrf ho (k := k) (p := p) (less := less) (kk := kk) (by omega) hp hp2
    have b0 := lB_ge d
    have n0 := lN_ge d
    obtain ⟨t, u, ht, htu⟩ : ∃ t u : Nat, (0 < d → lB d = 4 * t + 2100 ∧ lN d = 4 * u + 1000 ∧ t ≤ 100000) ∧ ∀ {p less n : Int}, 0 < d → n ≤ 2 → 0 ≤ p → p + (2 * u : Nat) ≤ 300000000 → -300000000 ≤ less - (2 * u : Nat) → less ≤ 300000000 →
        Ok (spec_l3G_block k ints refs own less b p (w64 ((d : Int) - 1)) n) (fun y => Shot (2 * t + 10) (2 * u) p less y ∧ 2 ≤ y.1.length) := by
      refine ⟨lB (d - 1), lN (d - 1), fun h => ?_, fun {p less n} h hn hp hp2 hp3 hp4 => ?_⟩
      · obtain ⟨m, rfl⟩ : ∃ m, d = m + 1 := ⟨d - 1, by omega⟩
        have b1 := lB_ge m
        have : 4 ^ m ≤ 4 ^ 2 := Nat.pow_le_pow_right (by omega) (by omega)
        exact ⟨rfl, rfl, by show lB m ≤ 100000; omega⟩
      · obtain ⟨m, rfl⟩ : ∃ m, d = m + 1 := ⟨d - 1, by omega⟩
        obtain ⟨k, rfl⟩ : ∃ m, k = m + 1 := ⟨k - 1, by omega⟩
        have eD : w64 (((m + 1 : Nat) : Int) - 1) = (m : Int) := by rw [w64_small (by omega) (by omega)]; omega
        have b1 := lB_ge m
        have : 4 ^ m ≤ 4 ^ 2 := Nat.pow_le_pow_right (by omega) (by omega)
        rw [eD]
        exact block_ok (B := lB m) (N := lN m) (by omega) (by omega) (fun {p less} q1 q2 q3 q4 => ih m (by omega) (k := k) (p := p) (less := less) (by omega) (by omega) q1 q2 q3 q4) hn hp hp2 hp3 hp4
    have blk : ∀ {p less n : Int}, 0 < d → n ≤ 2 → 0 ≤ p → p + (2 * u : Nat) ≤ 300000000 → -300000000 ≤ less - (2 * u : Nat) → less ≤ 300000000 →
        Ok (spec_l3G_block k ints refs own less b p (w64 ((d : Int) - 1)) n) (fun y => Shot (2 * t + 10) (2 * u) p less y ∧ 2 ≤ y.1.length) := htu
    clear htu ih
    have hp4 : 4 ^ d ≤ 16 := by
      have : 4 ^ d ≤ 4 ^ 2 := Nat.pow_le_pow_right (by omega) hd
      omega
    obtain ⟨hB, hB2⟩ : 500 ≤ lB d ∧ lB d ≤ 19200 := by omega
    obtain ⟨hN, hN2⟩ : 300 ≤ lN d ∧ lN d ≤ 11200 := by omega
    clear b0 n0 hp4
    unfold spec_l3G_line_b
    have eL : w64 (less - 1) = less - 1 := w64_small (by omega) (by omega)
    rw [eL]
    generalize lB d = T at *
    generalize lN d = U at *
    refine (pick_ok hb h1 (by omega) (by omega)).bind fun r1 hr1 => ?_
    obtain ⟨a1, a2, a3⟩ := hr1
    refine Ok.ite (fun h => ?_) fun h => ?_
    · refine Ok.pure ⟨?_, ?_, ?_, ?_, ?_⟩ <;> dsimp only [List.length_cons, List.length_nil] <;> omega
    clear h
    refine Ok.join (fun v => v = false → 0 < d ∨ 11 ≤ r1.1) (fun v hv => ?_) (fun j hj => ?_)
    rotate_left
    · refine Ok.ite (fun h => hj _ (by simp)) fun h => Ok.join (fun v => v = false → 0 < d ∨ 11 ≤ r1.1) (fun v hv => hj _ hv) fun j' hj' => Ok.ite (fun h => hj' _ fun h' => .inr (by simpa using h')) fun h => hj' _ fun _ => .inl (by simp at h; omega)
    refine Ok.ite (fun h => ?_) fun h => ?_
    · clear ht hv
      repeat' first
        | (with_reducible refine (pick_ok hb (by omega) (by omega) (by omega)).bind fun r hr => ?_
           obtain ⟨_, _, _⟩ := hr)
        | (with_reducible refine (one_ok (B := 4) hb (by omega) (by omega) (by omega) hi.el hi.len).bind fun r hr => ?_
           obtain ⟨_, _, _⟩ := hr)
        | (with_reducible refine (one_ok (B := 4) hb (by omega) (by omega) (by omega) hrf.el hrf.len).bind fun r hr => ?_
           obtain ⟨_, _, _⟩ := hr)
        | (with_reducible refine (one_ok (B := 4) hb (by omega) (by omega) (by omega) ho.el ho.len).bind fun r hr => ?_
           obtain ⟨_, _, _⟩ := hr)
        | (with_reducible refine (one_ok (B := 12) hb (by omega) (by omega) (by omega) (by decide) (by decide)).bind fun r hr => ?_
           obtain ⟨_, _, _⟩ := hr)
        | (with_reducible refine (dec_ok 1 (by omega) (by omega) (by omega) (by omega)).bind fun r hr => ?_)
        | (with_reducible refine (tok2 (by omega) (by omega)).bind fun r hr => ?_
           obtain ⟨_, _, _⟩ := hr)
        | (with_reducible refine (app_ok (by (try simp only [List.length_cons, List.length_nil]); omega)).bind fun c hc => ?_
           try simp only [List.length_cons, List.length_nil] at hc)
        | (with_reducible refine Ok.pure ⟨?_, ?_, ?_, ?_, ?_⟩ <;> dsimp only [List.length_cons, List.length_nil] <;> omega)
    have hv := hv h
    refine Ok.ite (fun h5 => ?_) fun h5 => ?_
    · have h5 : r1.1 = 5 := by simpa using h5
      have hd0 : 0 < d := by omega
      have ht := ht hd0
      repeat' first
        | (with_reducible refine (con1 (by omega) (by omega)).bind fun r hr => ?_
           obtain ⟨_, _, _⟩ := hr)
        | (with_reducible refine (con2 (by omega) (by omega)).bind fun r hr => ?_
           obtain ⟨_, _, _⟩ := hr)
        | (with_reducible refine (pick_ok hb (by omega) (by omega) (by omega)).bind fun r hr => ?_
           obtain ⟨_, _, _⟩ := hr
           try rw [w64_small (x := 1 + r.1) (by omega) (by omega)])
        | (with_reducible refine (blk (by omega) (by omega) (by omega) (by omega) (by omega) (by omega)).bind fun r hr => ?_
           obtain ⟨⟨_, _, _, _, _⟩, _⟩ := hr)
        | (with_reducible refine (app_ok (by (try simp only [List.length_cons, List.length_nil]); omega)).bind fun c hc => ?_
           try simp only [List.length_cons, List.length_nil] at hc)
        | (with_reducible refine Ok.pure ⟨?_, ?_, ?_, ?_, ?_⟩ <;> dsimp only [List.length_cons, List.length_nil] <;> omega)
    refine Ok.ite (fun h6 => ?_) fun h6 => ?_
    · have h6 : r1.1 = 6 := by simpa using h6
      have hd0 : 0 < d := by omega
      have ht := ht hd0
      repeat' first
        | (with_reducible refine (con1 (by omega) (by omega)).bind fun r hr => ?_
           obtain ⟨_, _, _⟩ := hr)
        | (with_reducible refine (con2 (by omega) (by omega)).bind fun r hr => ?_
           obtain ⟨_, _, _⟩ := hr)
        | (with_reducible refine (pick_ok hb (by omega) (by omega) (by omega)).bind fun r hr => ?_
           obtain ⟨_, _, _⟩ := hr
           try rw [w64_small (x := 1 + r.1) (by omega) (by omega)])
        | (with_reducible refine (blk (by omega) (by omega) (by omega) (by omega) (by omega) (by omega)).bind fun r hr => ?_
           obtain ⟨⟨_, _, _, _, _⟩, _⟩ := hr)
        | (with_reducible refine (app_ok (by (try simp only [List.length_cons, List.length_nil]); omega)).bind fun c hc => ?_
           try simp only [List.length_cons, List.length_nil] at hc)
        | (with_reducible refine Ok.pure ⟨?_, ?_, ?_, ?_, ?_⟩ <;> dsimp only [List.length_cons, List.length_nil] <;> omega)
    refine Ok.ite (fun h7 => ?_) fun h7 => ?_
    · have h7 : r1.1 = 7 := by simpa using h7
      have hd0 : 0 < d := by omega
      have ht := ht hd0
      repeat' first
        | (with_reducible refine (one_ok (B := 4) hb (by omega) (by omega) (by omega) ho.el ho.len).bind fun r hr => ?_
           obtain ⟨_, _, _⟩ := hr)
        | (with_reducible refine (dec_ok 1 (by omega) (by omega) (by omega) (by omega)).bind fun r hr => ?_)
        | (with_reducible refine (pick_ok hb (by omega) (by omega) (by omega)).bind fun r hr => ?_
           obtain ⟨_, _, _⟩ := hr
           try rw [w64_small (x := 1 + r.1) (by omega) (by omega)])
        | (with_reducible refine (blk (by omega) (by omega) (by omega) (by omega) (by omega) (by omega)).bind fun r hr => ?_
           obtain ⟨⟨_, _, _, _, _⟩, _⟩ := hr)
        | (with_reducible refine (app_ok (by (try simp only [List.length_cons, List.length_nil]); omega)).bind fun c hc => ?_
           try simp only [List.length_cons, List.length_nil] at hc)
        | (with_reducible refine (sub_ok (by omega) (by omega) (by omega)).bind fun c hc => ?_)
        | (with_reducible refine Ok.pure ⟨?_, ?_, ?_, ?_, ?_⟩ <;> dsimp only [List.length_cons, List.length_nil] <;> omega)
    refine Ok.ite (fun h8 => ?_) fun h8 => ?_
    · have h8 : r1.1 = 8 := by simpa using h8
      have hd0 : 0 < d := by omega
      have ht := ht hd0
      refine (liner_ok hb hi (N := 2 * u) (B := 2 * t + 10) (by omega) (by omega) (fun {p less n} q1 q2 q3 q4 q5 => blk hd0 q1 q2 q3 q4 q5) (by omega) (by omega) (by omega) (by omega)).bind fun o hoo => ?_
      obtain ⟨_, _, _, _, _⟩ := hoo
      refine Ok.pure ⟨?_, ?_, ?_, ?_, ?_⟩ <;> dsimp only <;> omega
    refine Ok.ite (fun h9 => ?_) fun h9 => ?_
    · have h9 : r1.1 = 9 := by simpa using h9
      have hd0 : 0 < d := by omega
      have ht := ht hd0
      repeat' first
        | (with_reducible refine (con1 (by omega) (by omega)).bind fun r hr => ?_
           obtain ⟨_, _, _⟩ := hr)
        | (with_reducible refine (con2 (by omega) (by omega)).bind fun r hr => ?_
           obtain ⟨_, _, _⟩ := hr)
        | (with_reducible refine (pick_ok hb (by omega) (by omega) (by omega)).bind fun r hr => ?_
           obtain ⟨_, _, _⟩ := hr
           try rw [w64_small (x := 1 + r.1) (by omega) (by omega)])
        | (with_reducible refine (blk (by omega) (by omega) (by omega) (by omega) (by omega) (by omega)).bind fun r hr => ?_
           obtain ⟨⟨_, _, _, _, _⟩, _⟩ := hr)
        | (with_reducible refine (app_ok (by (try simp only [List.length_cons, List.length_nil]); omega)).bind fun c hc => ?_
           try simp only [List.length_cons, List.length_nil] at hc)
        | (with_reducible refine Ok.pure ⟨?_, ?_, ?_, ?_, ?_⟩ <;> dsimp only [List.length_cons, List.length_nil] <;> omega)
    refine Ok.ite (fun hA => ?_) fun hA => ?_
    · have hA : r1.1 = 10 := by simpa using hA
      have hd0 : 0 < d := by omega
      have ht := ht hd0
      repeat' first
        | (with_reducible refine (con1 (by omega) (by omega)).bind fun r hr => ?_
           obtain ⟨_, _, _⟩ := hr)
        | (with_reducible refine (con2 (by omega) (by omega)).bind fun r hr => ?_
           obtain ⟨_, _, _⟩ := hr)
        | (with_reducible refine (app_ok (by (try simp only [List.length_cons, List.length_nil]); omega)).bind fun c hc => ?_
           try simp only [List.length_cons, List.length_nil] at hc)
        | (with_reducible refine Ok.pure ⟨?_, ?_, ?_, ?_, ?_⟩ <;> dsimp only [List.length_cons, List.length_nil] <;> omega)
    refine (hs (by omega) (by omega)).bind fun r hr => ?_
    obtain ⟨_, _, _⟩ := hr
    refine Ok.pure ⟨?_, ?_, ?_, ?_, ?_⟩ <;> dsimp only <;> omega
end Go.Fx.R3

/- What the generator of programs makes: a whole text, shorter than 2^20. -/
namespace Go.Fx.R3
open Go Go.Fx
set_option linter.unusedVariables false
set_option linter.unusedSimpArgs false

theorem body_okB {b : List Int} {ints refs own : List Str} {B N : Nat} {q : Nat} (hB : B ≤ 100000)
    (hg : ∀ {p less : Int}, 0 ≤ p → p + N ≤ 300000000 → -300000000 ≤ less - N → less ≤ 300000000 → Ok (spec_l3G_line q ints refs own less b p 2) (Shot B N p less)) :
    ∀ (m : Nat) {k : Nat} {p less k1 : Int} {out : Str}, m < k → k1 ≤ m → m ≤ 1000 → 0 ≤ p → p + (m * N : Nat) ≤ 300000000 → -300000000 ≤ less - (m * N : Nat) → less ≤ 300000000 → out.length + m * B ≤ 4000000 →
      Ok (spec_l3G_body_l0 q k b ints refs own p less out k1) (fun o => o.2.2.1.length ≤ out.length + m * B ∧ p ≤ o.1 ∧ o.1 ≤ p + (m * N : Nat) ∧ less - (m * N : Nat) ≤ o.2.1 ∧ o.2.1 ≤ less)
  | 0, k + 1, p, less, k1, out, _, h1, h0, h3, h4, h5, h6, h7 => by
    unfold spec_l3G_body_l0
    refine Ok.ite (fun h => by simp at h; omega) fun _ => Ok.pure ⟨?_, ?_, ?_, ?_, ?_⟩ <;> dsimp only <;> omega
  | m + 1, k + 1, p, less, k1, out, hk, h1, h0, h3, h4, h5, h6, h7 => by
    unfold spec_l3G_body_l0
    have e1 : (m + 1) * N = m * N + N := Nat.succ_mul m N
    have e2 : (m + 1) * B = m * B + B := Nat.succ_mul m B
    refine Ok.ite (fun h => ?_) fun _ => Ok.pure ⟨?_, ?_, ?_, ?_, ?_⟩ <;> try (dsimp only; omega)
    simp only [decide_eq_true_eq] at h
    refine (hg h3 (by omega) (by omega) (by omega)).bind fun r hr => ?_
    obtain ⟨a1, a2, a3, a4, a5⟩ := hr
    refine (app_ok (by omega)).bind fun c hc => ?_
    rw [w64_small (x := k1 - 1) (by omega) (by omega)]
    refine (body_okB hB hg m (by omega) (by omega) (by omega) (by omega) (by omega) (by omega) (by omega) (by omega)).mono fun o ho => ?_
    obtain ⟨b2, b3, b4, b5, b6⟩ := ho
    refine ⟨?_, ?_, ?_, ?_, ?_⟩ <;> omega

theorem body_ok {b : List Int} {ints refs own : List Str} (hb : Bytes b) (hi : Names ints) (hrf : Names refs) (ho : Names own) {k : Nat} {p less : Int} {n : Nat} (hk : 40 ≤ k) (hn : 1 ≤ n ∧ n ≤ 5) (h1 : 0 ≤ p) (h2 : p ≤ 200000000) (h3 : -200000000 ≤ less) (h4 : less ≤ 200000000) :
    Ok (spec_l3G_body k ints refs own less b p (n : Int)) (fun y => y.1.length ≤ 2 * n * 18500 ∧ p ≤ y.2.1 ∧ y.2.1 ≤ p + 100000 ∧ less - 100000 ≤ y.2.2.1 ∧ y.2.2.1 ≤ less) := by
  unfold spec_l3G_body
  rw [w64_small (x := 2 * (n : Int)) (by omega) (by omega)]
  refine (pick_ok hb h1 (by omega) (by omega)).bind fun r1 hr1 => ?_
  obtain ⟨a1, a2, a3⟩ := hr1
  rw [w64_small (x := 1 + r1.1) (by omega) (by omega)]
  have hline := fun {p less : Int} (q1 : 0 ≤ p) (q2 : p + (9800 : Nat) ≤ 300000000) (q3 : -300000000 ≤ less - (9800 : Nat)) (q4 : less ≤ 300000000) => (line_ok hb hi hrf ho 2 (k := k) (p := p) (less := less) (by omega) (by omega) q1 q2 q3 q4 : Ok (spec_l3G_line k ints refs own less b p 2) (Shot 18500 9800 p less))
  refine (body_okB (B := 18500) (N := 9800) (by omega) hline (2 * n) (by omega) (by omega) (by omega) (by omega) (by omega) (by omega) (by omega) (by simp; omega)).bind fun o ho => ?_
  obtain ⟨b2, b3, b4, b5, b6⟩ := ho
  simp only [List.length_nil] at b2
  refine Ok.pure ⟨?_, ?_, ?_, ?_, ?_⟩ <;> dsimp only <;> omega

theorem source_ok {b : List Int} (hb : Bytes b) {k : Nat} {p : Int} (hk : 40 ≤ k) (h1 : 0 ≤ p) (h2 : p ≤ 1000000) : Ok (spec_l3Source k b p) (fun y => y.1.length ≤ 300000 ∧ p ≤ y.2.1 ∧ y.2.1 ≤ p + 400000) := by
  unfold spec_l3Source
  refine (pick_ok hb h1 (by omega) (by omega)).bind fun r1 hr1 => ?_
  obtain ⟨a1, a2, a3⟩ := hr1
  refine (pick_ok hb (by omega) (by omega) (by omega)).bind fun r2 hr2 => ?_
  obtain ⟨c1, c2, c3⟩ := hr2
  rw [w64_small (x := 1 + r2.1) (by omega) (by omega), w64_small (x := 5 + r1.1) (by omega) (by omega)]
  refine (dec_ok 1 (by omega) (by omega) (by omega) (by omega)).bind fun r3 hr3 => ?_
  have bod := fun {ints refs own : List Str} {p less : Int} {n : Nat} (hi : Names ints) (hrf : Names refs) (ho : Names own) (hn : 1 ≤ n ∧ n ≤ 5) (h1 : 0 ≤ p) (h2 : p ≤ 200000000) (h3 : -200000000 ≤ less) (h4 : less ≤ 200000000) => body_ok hb hi hrf ho (k := k) (n := n) hk hn h1 h2 h3 h4
  have bod1 : ∀ {ints refs own : List Str} {p less : Int}, Names ints → Names refs → Names own → 0 ≤ p → p ≤ 200000000 → -200000000 ≤ less → less ≤ 200000000 → Ok (spec_l3G_body k ints refs own less b p 1) (fun y => y.1.length ≤ 37000 ∧ p ≤ y.2.1 ∧ y.2.1 ≤ p + 100000 ∧ less - 100000 ≤ y.2.2.1 ∧ y.2.2.1 ≤ less) := fun {ints refs own p less} x1 x2 x3 x4 x5 x6 x7 => bod (n := 1) x1 x2 x3 (by omega) x4 x5 x6 x7
  have bod5 : ∀ {ints refs own : List Str} {p less : Int}, Names ints → Names refs → Names own → 0 ≤ p → p ≤ 200000000 → -200000000 ≤ less → less ≤ 200000000 → Ok (spec_l3G_body k ints refs own less b p 5) (fun y => y.1.length ≤ 185000 ∧ p ≤ y.2.1 ∧ y.2.1 ≤ p + 100000 ∧ less - 100000 ≤ y.2.2.1 ∧ y.2.2.1 ≤ less) := fun {ints refs own p less} x1 x2 x3 x4 x5 x6 x7 => bod (n := 5) x1 x2 x3 (by omega) x4 x5 x6 x7
  clear bod
  repeat' first
    | (with_reducible refine (app_ok (by (try simp only [List.length_cons, List.length_nil]); omega)).bind fun c hc => ?_
       try simp only [List.length_cons, List.length_nil] at hc)
    | (with_reducible refine (bod1 ⟨by decide, by decide⟩ ⟨by decide, by decide⟩ ⟨by decide, by decide⟩ (by omega) (by omega) (by omega) (by omega)).bind fun r hr => ?_
       obtain ⟨_, _, _, _, _⟩ := hr)
    | (with_reducible refine (pick_ok hb (by omega) (by omega) (by omega)).bind fun r hr => ?_
       obtain ⟨_, _, _⟩ := hr
       try rw [w64_small (x := 4 + r.1) (by omega) (by omega)])
    | (with_reducible refine (bod5 ⟨by decide, by decide⟩ ⟨by decide, by decide⟩ ⟨by decide, by decide⟩ (by omega) (by omega) (by omega) (by omega)).bind fun r hr => ?_
       obtain ⟨_, _, _, _, _⟩ := hr)
    | (with_reducible refine Ok.ite (fun h => ?_) fun h => ?_)
    | (with_reducible refine Ok.pure ⟨?_, ?_, ?_⟩ <;> dsimp only <;> omega)

theorem sub_eq {α : Type} {a : List α} {i j : Int} (h1 : 0 ≤ i) (h2 : i ≤ j) (h3 : j ≤ (a.length : Int)) : sub a i j = some ((a.take j.toNat).drop i.toNat) := by
  simp [sub, h1, h2, h3]
theorem open_ok {code : List Int} (hc : ∀ x ∈ code, 0 ≤ x ∧ x ≤ 255) : Ok (spec_l1Open code) (fun y => Bytes y.1 ∧ y.2.1 = 0) := by
  unfold spec_l1Open
  refine Ok.join (fun v => Bytes v) (fun v hv => Ok.pure ⟨hv, rfl⟩) (fun j hj => ?_)
  refine Ok.ite (fun h => ?_) fun h => ?_
  · simp only [decide_eq_true_eq] at h
    rw [sub_eq (by omega) (by omega) (by omega)]
    refine hj _ ⟨fun x hx => hc x (List.mem_of_mem_take (List.mem_of_mem_drop hx)), ?_⟩
    simp; omega
  · simp only [decide_eq_false_iff_not] at h
    exact hj _ ⟨hc, by omega⟩

theorem draw_ok {code : List Int} (hc : ∀ x ∈ code, 0 ≤ x ∧ x ≤ 255) {k : Nat} (hk : 40 ≤ k) : Ok (spec_DrawReportPlace k code) (fun y => y.1.length ≤ 300000 ∧ 0 ≤ y.2.1 ∧ y.2.1 ≤ 1000000) := by
  unfold spec_DrawReportPlace
  refine (open_ok hc).bind fun r1 hr1 => ?_
  obtain ⟨hb, h0⟩ := hr1
  refine (source_ok hb hk (by omega) (by omega)).bind fun r2 hr2 => ?_
  obtain ⟨a1, a2, a3⟩ := hr2
  refine (pick_ok hb (by omega) (by omega) (by omega)).bind fun r3 hr3 => ?_
  obtain ⟨b1, b2, b3⟩ := hr3
  refine (pick_ok hb (by omega) (by omega) (by omega)).bind fun r4 hr4 => ?_
  obtain ⟨c1, c2, c3⟩ := hr4
  rw [w64_small (x := (r2.1.length : Int) + 3) (by omega) (by omega), w64_small (x := r3.1 * 9) (by omega) (by omega), w64_small (x := r3.1 * 9 + r4.1) (by omega) (by omega)]
  refine Ok.ite (fun h => by simp at h; omega) fun _ => Ok.pure ⟨a1, ?_, ?_⟩
  · exact Int.tmod_nonneg _ (by omega)
  · have := Int.tmod_lt_of_pos (r3.1 * 9 + r4.1) (show (0 : Int) < (r2.1.length : Int) + 3 by omega)
    show (r3.1 * 9 + r4.1).tmod ((r2.1.length : Int) + 3) ≤ 1000000
    omega
end Go.Fx.R3

/- The plain law of 'FnReportPlace': going over lines to the line of a place, and on to its column, is that place. -/
namespace Go.Fx.R3
open Go Go.Fx
set_option linter.unusedVariables false
set_option linter.unusedSimpArgs false

/-- Where the last line end stands; -1 if there is none. -/
def last : Nat → Str → Int
  | 0, _ => -1
  | m + 1, s => if s[m]? = some 10 then (m : Int) else last m s

theorem idx_some {s : Str} {i : Nat} (h : i < s.length) : idx s (i : Int) = some s[i] := by
  simp [idx, h]

theorem lib_l0_last (s : Str) (hs : s.length ≤ 1048576) (q : Nat) : ∀ (m : Nat), m ≤ s.length → ∀ k, m < k → bytealg_LastIndexByteString_l0 q k s 10 ((m : Int) - 1) = some (if last m s = -1 then .inl () else .inr (last m s, ()))
  | 0, _, k + 1, _ => by simp [bytealg_LastIndexByteString_l0, last]
  | m + 1, hm, k + 1, hk => by
    have h1 : ((m + 1 : Nat) : Int) - 1 = (m : Int) := by omega
    rw [h1]
    have hlt : m < s.length := by omega
    simp only [bytealg_LastIndexByteString_l0, ge_iff_le, Int.natCast_nonneg, decide_true, cond_true, idx_some hlt, Option.bind_some]
    by_cases hb : s[m] = 10
    · simp [hb, last, hlt]
    · have hne : ((s[m].toNat : Int) == 10) = false := by
        simp only [beq_eq_false_iff_ne, ne_eq]
        intro h
        exact hb (UInt8.toNat_inj.1 (by have : s[m].toNat = 10 := by omega
                                        rw [this]; rfl))
      rw [hne, cond_false, w64_small (by omega) (by omega), lib_l0_last s hs q m (by omega) k (by omega)]
      simp [last, hlt, hb]

theorem last_bound (s : Str) : ∀ m, -1 ≤ last m s ∧ last m s < (m : Int)
  | 0 => by simp [last]
  | m + 1 => by
    have := last_bound s m
    simp only [last]
    split <;> omega
theorem last_take (s : Str) (m : Nat) : ∀ j, j ≤ m → last j (s.take m) = last j s
  | 0, _ => rfl
  | j + 1, h => by
    simp only [last, last_take s m j (by omega)]
    rw [List.getElem?_take_of_lt (by omega)]

def cnt (m : Nat) (s : Str) : Int := ((s.take m).count 10 : Nat)
theorem cnt_succ {s : Str} {i : Nat} (h : i < s.length) : cnt (i + 1) s = cnt i s + (if s[i] = 10 then 1 else 0) := by
  unfold cnt
  rw [List.take_add_one, List.getElem?_eq_getElem h]
  simp only [Option.toList_some, List.count_append, List.count_singleton]
  by_cases hb : s[i] = 10 <;> simp [hb]
theorem cnt_bound (s : Str) (m : Nat) : 0 ≤ cnt m s ∧ cnt m s ≤ (m : Int) := by
  unfold cnt
  have h1 : (s.take m).count 10 ≤ (s.take m).length := List.count_le_length
  have h2 : (s.take m).length ≤ m := by simp; omega
  omega

theorem spec_l0_run (s : Str) (hs : s.length ≤ 1048576) (q m : Nat) (hm : m ≤ s.length) : ∀ (n i : Nat), i + n = m → ∀ k, n < k → spec_ReportPlace_l0 q k s (m : Int) (1 + cnt i s) ((i : Int) - last i s) (i : Int) = some (1 + cnt m s, (m : Int) - last m s, ())
  | 0, i, h, k + 1, _ => by
    have : i = m := by omega
    subst this
    simp [spec_ReportPlace_l0]
  | n + 1, i, h, k + 1, hk => by
    have hi : i < s.length := by omega
    have hlt : (i : Int) < (m : Int) := by omega
    have b1 := cnt_bound s i
    have b2 := last_bound s i
    simp only [spec_ReportPlace_l0, joinK, hlt, decide_true, cond_true, idx_some hi, Option.bind_some]
    have ih := spec_l0_run s hs q m hm n (i + 1) (by omega) k (by omega)
    rw [cnt_succ hi] at ih
    have e1 : w64 ((i : Int) + 1) = ((i + 1 : Nat) : Int) := by rw [w64_small (by omega) (by omega)]; omega
    by_cases hb : s[i] = 10
    · have hx : ((s[i].toNat : Int) == 10) = true := by simp [hb]
      rw [hx, cond_true, e1, w64_small (by omega) (by omega)]
      simp only [hb, if_true, last, List.getElem?_eq_getElem hi] at ih
      rw [← ih]
      congr 1 <;> omega
    · have hne : ((s[i].toNat : Int) == 10) = false := by
        simp only [beq_eq_false_iff_ne, ne_eq]
        intro h
        exact hb (UInt8.toNat_inj.1 (by have : s[i].toNat = 10 := by omega
                                        rw [this]; rfl))
      rw [hne, cond_false, e1, w64_small (by omega) (by omega)]
      simp only [hb, if_false, last, List.getElem?_eq_getElem hi, Option.some.injEq] at ih
      rw [← ih]
      congr 1 <;> omega


theorem cnt_mono {s : Str} {a : Nat} : ∀ {m : Nat}, a ≤ m → m ≤ s.length → cnt a s ≤ cnt m s
  | 0, h, _ => by obtain rfl : a = 0 := by omega
                  omega
  | m + 1, h, hm => by
    by_cases e : a = m + 1
    · subst e; omega
    · have := cnt_mono (s := s) (a := a) (m := m) (by omega) (by omega)
      rw [cnt_succ (s := s) (i := m) (by omega)]
      split <;> omega
theorem cnt_last {s : Str} {a : Nat} : ∀ {m : Nat}, a ≤ m → m ≤ s.length → cnt a s = cnt m s → last m s = last a s
  | 0, h, _, _ => by obtain rfl : a = 0 := by omega
                     rfl
  | m + 1, h, hm, hc => by
    by_cases e : a = m + 1
    · rw [e]
    · have h1 := cnt_mono (s := s) (a := a) (m := m) (by omega) (by omega)
      rw [cnt_succ (s := s) (i := m) (by omega)] at hc
      by_cases hb : s[m] = 10
      · simp only [hb, if_true] at hc; omega
      · simp only [hb, if_false] at hc
        have ih := cnt_last (s := s) (a := a) (m := m) (by omega) (by omega) (by omega)
        rw [← ih]
        simp only [last, List.getElem?_eq_getElem (show m < s.length by omega), Option.some.injEq, hb, if_false]

theorem ne10 {x : UInt8} (hb : x ≠ 10) : ((x.toNat : Int) != 10) = true := by
  simp only [bne_iff_ne, ne_eq]
  intro h
  exact hb (UInt8.toNat_inj.1 (by have : x.toNat = 10 := by omega
                                  rw [this]; rfl))
theorem l2_run (s : Str) (hs : s.length ≤ 1048576) (q m : Nat) (hm : m ≤ s.length) : ∀ (n i : Nat), i + n = m → cnt i s < cnt m s → ∀ k, n < k → ∃ j : Nat, laws_FnReportPlace_l2 q k s (i : Int) = some ((j : Int), ()) ∧ i ≤ j ∧ j < m ∧ cnt (j + 1) s = cnt i s + 1 ∧ last (j + 1) s = (j : Int)
  | 0, i, h, hc, _, _ => by
    obtain rfl : i = m := by omega
    omega
  | n + 1, i, h, hc, k + 1, hk => by
    have hi : i < s.length := by omega
    have hlt : (i : Int) < (s.length : Int) := by omega
    simp only [laws_FnReportPlace_l2, joinK, hlt, decide_true, cond_true, idx_some hi, Option.bind_some]
    by_cases hb : s[i] = 10
    · have hx : ((s[i].toNat : Int) != 10) = false := by simp [hb]
      rw [hx]
      refine ⟨i, rfl, by omega, by omega, ?_, ?_⟩
      · rw [cnt_succ hi]; simp [hb]
      · simp [last, hb, hi]
    · rw [ne10 hb]
      simp only [cond_true]
      have e1 : w64 ((i : Int) + 1) = ((i + 1 : Nat) : Int) := by rw [w64_small (by omega) (by omega)]; omega
      have hc1 : cnt (i + 1) s = cnt i s := by rw [cnt_succ hi]; simp [hb]
      rw [e1]
      obtain ⟨j, h1, h2, h3, h4, h5⟩ := l2_run s hs q m hm n (i + 1) (by omega) (by omega) k (by omega)
      exact ⟨j, h1, by omega, h3, by omega, h5⟩

theorem l0_run (s : Str) (hs : s.length ≤ 1048576) (q m : Nat) (hq : s.length < q) (hm : m ≤ s.length) : ∀ (n a : Nat), cnt a s + n = cnt m s → a ≤ m → last a s = (a : Int) - 1 → ∀ k, n < k → laws_FnReportPlace_l0 q k s (1 + cnt m s) (a : Int) (1 + cnt a s) = some (last m s + 1, ())
  | 0, a, h, ha, hl, k + 1, _ => by
    have : ¬ (1 + cnt a s < 1 + cnt m s) := by omega
    simp only [laws_FnReportPlace_l0, this, decide_false, cond_false]
    rw [cnt_last ha hm (by omega), hl]
    congr 2; omega
  | n + 1, a, h, ha, hl, k + 1, hk => by
    have hlt : 1 + cnt a s < 1 + cnt m s := by omega
    have b1 := cnt_bound s a
    have b2 := cnt_bound s m
    simp only [laws_FnReportPlace_l0, hlt, decide_true, cond_true]
    obtain ⟨j, h1, h2, h3, h4, h5⟩ := l2_run s hs q m hm (m - a) a (by omega) (by omega) q (by omega)
    rw [h1]
    simp only [Option.bind_some]
    rw [w64_small (x := (j : Int) + 1) (by omega) (by omega), w64_small (x := 1 + cnt a s + 1) (by omega) (by omega)]
    have ih := l0_run s hs q m hq hm n (j + 1) (by omega) (by omega) (by omega) k (by omega)
    rw [h4] at ih
    have e1 : ((j + 1 : Nat) : Int) = (j : Int) + 1 := by omega
    rw [e1] at ih
    rw [← ih]
    congr 1

theorem law_true (code : List Int) (hc : ∀ x ∈ code, 0 ≤ x ∧ x ≤ 255) : laws_FnReportPlace 1048578 code = some (true, ()) := by
  unfold laws_FnReportPlace
  by_cases hl : (code.length : Int) > 1048576
  · simp only [hl, decide_true, cond_true]
  simp only [hl, decide_false, cond_false]
  obtain ⟨y, hy, h1, h2, h3⟩ := draw_ok hc (k := 1048578) (by omega)
  rw [hy, Option.bind_some]
  obtain ⟨s, n, u⟩ := y
  simp only at h1 h2 h3
  have hs : s.length ≤ 1048576 := by omega
  obtain ⟨m, rfl⟩ : ∃ m : Nat, n = (m : Int) := ⟨n.toNat, by omega⟩
  have h0 : ¬ ((m : Int) < 0) := by omega
  have hge : (m : Int) ≥ 0 := by omega
  by_cases h4 : (m : Int) > (s.length : Int)
  · have h5 : ¬ ((m : Int) ≤ (s.length : Int)) := by omega
    have him : impl_ReportPlace 1048578 s (m : Int) = some (0, 0, ()) := by simp [impl_ReportPlace, joinK, h0, h4]
    have hsp : spec_ReportPlace 1048578 s (m : Int) = some (0, 0, ()) := by simp [spec_ReportPlace, spec_l1In, joinK, hge, h5]
    simp [him, hsp, joinK, h0, h4]
  · have h5 : (m : Int) ≤ (s.length : Int) := by omega
    have hm : m ≤ s.length := by omega
    have b1 := cnt_bound s m
    have b2 := last_bound s m
    have hsp : spec_ReportPlace 1048578 s (m : Int) = some (1 + cnt m s, (m : Int) - last m s, ()) := by
      have := spec_l0_run s hs 1048578 m hm m 0 (by omega) 1048578 (by omega)
      have e0 : cnt 0 s = 0 := by simp [cnt]
      have e1 : last 0 s = -1 := rfl
      rw [e0, e1] at this
      simp only [spec_ReportPlace, spec_l1In, joinK, hge, decide_true, cond_true, h5, Option.bind_some, Bool.not_true, cond_false]
      rw [show spec_ReportPlace_l0 1048578 1048578 s (m : Int) 1 1 0 = some (1 + cnt m s, (m : Int) - last m s, ()) from this]
      rfl
    have hsub : sub s 0 (m : Int) = some (s.take m) := by simp [sub, h5]
    have hlen : (s.take m).length = m := by simp; omega
    have hlast : strings_LastIndexByte 1048578 (s.take m) 10 = some (last m s, ()) := by
      have := lib_l0_last (s.take m) (by omega) 1048578 m (by omega) 1048578 (by omega)
      rw [last_take s m m (Nat.le_refl _)] at this
      unfold strings_LastIndexByte bytealg_LastIndexByteString
      rw [hlen, w64_small (by omega) (by omega), this]
      by_cases hq : last m s = -1 <;> simp [hq]
    have hcnt : cntF (s.take m) [10] = some (cnt m s, ()) := rfl
    have him : impl_ReportPlace 1048578 s (m : Int) = some (1 + cnt m s, (m : Int) - last m s, ()) := by
      simp only [impl_ReportPlace, joinK, h0, h4, decide_false, cond_false, hsub, hlast, hcnt, Option.bind_some]
      rw [w64_small (by omega) (by omega), w64_small (by omega) (by omega), Int.add_comm]
    have hrun : laws_FnReportPlace_l0 1048578 1048578 s (1 + cnt m s) 0 1 = some (last m s + 1, ()) := by
      have := l0_run s hs 1048578 m (by omega) hm (cnt m s).toNat 0 (by have : cnt 0 s = 0 := by simp [cnt]
                                                                        omega) (by omega) rfl 1048578 (by omega)
      have e0 : cnt 0 s = 0 := by simp [cnt]
      rw [e0] at this
      exact this
    have g1 : 1 + cnt m s > 0 := by omega
    have g2 : (m : Int) - last m s > 0 := by omega
    simp only [him, hsp, hrun, joinK, Option.bind_some, h0, h4, decide_false, decide_true, cond_false, cond_true, g1, g2, bne_self_eq_false]
    rw [w64_small (x := last m s + 1 + ((m : Int) - last m s)) (by omega) (by omega), w64_small (by omega) (by omega)]
    have : last m s + 1 + ((m : Int) - last m s) - 1 = (m : Int) := by omega
    rw [this]; simp
end Go.Fx.R3
