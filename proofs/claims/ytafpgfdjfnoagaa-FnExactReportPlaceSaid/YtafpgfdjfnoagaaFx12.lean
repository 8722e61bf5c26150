/- The framework, twelfth text: variables, slices that are written out or made. -/
import Derived.Test.YtafpgfdjfnoagaaFx11
namespace Go.Fx
set_option linter.unusedVariables false
set_option linter.unusedSimpArgs false

theorem dat_cells {G : Gh} {t : Ty} {d : t.den} {v : Value} (r : RelL G (.dat t d) v) : Rep G.S false t v.cells.toList d [] := by
  obtain ⟨cs, e, hr⟩ := r
  cases ht : t.agg with
  | true => simp only [ht, if_true] at e; subst e; exact hr
  | false =>
    simp only [ht, Bool.false_eq_true, if_false] at e
    subst e
    have : v.cells = #[v] := by
      cases t with
      | int k => cases hr.1; rfl
      | bool => cases hr.1; rfl
      | str => cases hr.1; rfl
      | slice t => rcases hr with ⟨_, ⟨_, base, cap, h⟩ | ⟨b, cap, arr, elem, fz, pre, cells, rest, h, _⟩⟩ <;> cases h <;> rfl
      | pair a b => cases ht
      | one a => cases ht
    rw [this]; exact hr

theorem fill_row (sz : Nat) : ∀ (vs : List (Nat × Value)) (k : Nat) (cs : List Value), (∀ j p, vs[j]? = some p → p.1 = k + j ∧ p.2.cells.size = sz) → (k + vs.length) * sz ≤ cs.length →
    Instr.fill (fun i => some (i * sz, sz)) cs.toArray vs = some (cs.take (k * sz) ++ ((vs.map fun p => p.2.cells.toList).flatten ++ cs.drop ((k + vs.length) * sz))).toArray
  | [], k, cs, h, hl => by simp [Instr.fill]
  | (i, v) :: vs, k, cs, h, hl => by
    obtain ⟨h1, h2⟩ := h 0 (i, v) rfl
    simp only [Nat.add_zero] at h1 h2
    subst h1
    simp only [List.length_cons] at hl
    have hk : i * sz + sz ≤ cs.length := by
      have : (i + 1) * sz ≤ (i + (vs.length + 1)) * sz := Nat.mul_le_mul_right _ (by omega)
      rw [Nat.add_mul, Nat.one_mul] at this; omega
    have hvl : v.cells.toList.length = sz := by simpa using h2
    have hstep : Instr.fill (fun i => some (i * sz, sz)) cs.toArray ((i, v) :: vs) = Instr.fill (fun i => some (i * sz, sz)) (cs.take (i * sz) ++ (v.cells.toList ++ cs.drop (i * sz + v.cells.toList.length))).toArray vs := by
      conv => lhs; unfold Instr.fill
      simp only
      rw [if_neg (by simp [h2]; omega), fold_place v.cells cs (i * sz) (by rw [h2]; exact hk)]
    rw [hstep, fill_row sz vs (i + 1) _ (fun j p hp => by
      obtain ⟨g1, g2⟩ := h (j + 1) p (by simpa using hp)
      exact ⟨by omega, g2⟩) (by
        have e : (i + 1 + vs.length) * sz = (i + (vs.length + 1)) * sz := by congr 1; omega
        rw [e]; simp [hvl]; omega)]
    congr 1
    have e : (i + 1 + vs.length) * sz = (i + (vs.length + 1)) * sz := by congr 1; omega
    have t1 : (cs.take (i * sz) ++ (v.cells.toList ++ cs.drop (i * sz + v.cells.toList.length))).take ((i + 1) * sz) = cs.take (i * sz) ++ v.cells.toList := by
      rw [← List.append_assoc, List.take_append_of_le_length (by simp [hvl, Nat.add_mul]; omega), List.take_of_length_le (by simp [hvl, Nat.add_mul]; omega)]
    have hge : (i + 1) * sz ≤ (i + (vs.length + 1)) * sz := Nat.mul_le_mul_right _ (by omega)
    have t2 : (cs.take (i * sz) ++ (v.cells.toList ++ cs.drop (i * sz + v.cells.toList.length))).drop ((i + (vs.length + 1)) * sz) = cs.drop ((i + (vs.length + 1)) * sz) := by
      rw [← List.append_assoc, List.drop_append, List.drop_drop]
      rw [List.drop_of_length_le (by simp [hvl, Nat.add_mul] at hge ⊢; omega)]
      simp only [List.nil_append]
      congr 1
      simp [hvl, Nat.add_mul] at hge ⊢; omega
    rw [e, t1, t2]
    simp

section ops
variable {P : Program} {E : Env} (hE : TabOk P E.tab) {X : Ctx} {w : World} {R : Type} {r : R}

theorem sliceParts_ok {t : Ty} : ∀ {parts : List (Nat × AVal)} {vs : List (Nat × Value)} {k : Nat} {st st' : St} {G : Gh} {l : List t.den}, sliceParts t k parts st = some (l, st') → RelM X st G w →
    All2 (fun (p : Nat × AVal) (q : Nat × Value) => p.1 = q.1 ∧ RelV G p.2 q.2) parts vs →
    ∃ G', RelM X st' G' w ∧ G.Sub G' ∧ Kept st st' ∧ RepL (Rep G'.S false t) (vs.map fun p => p.2.cells.toList).flatten l [] ∧ l.length = vs.length ∧ (∀ j p, vs[j]? = some p → p.1 = k + j ∧ p.2.cells.size = t.size)
  | [], [], k, st, st', G, l, h, hm, hp => by
    simp only [sliceParts, Option.some.injEq, Prod.mk.injEq] at h
    obtain ⟨rfl, rfl⟩ := h
    exact ⟨G, hm, .refl G, .refl _, ⟨rfl, rfl⟩, rfl, by simp⟩
  | (j, v) :: parts, (j', u) :: vs, k, st, st', G, l, h, hm, hp => by
    obtain ⟨⟨e, hv⟩, hp⟩ := hp
    simp only at e hv; subst e
    simp only [sliceParts] at h
    cases hk : Nat.beq k j with
    | false => simp [hk] at h
    | true =>
      simp only [hk, cond_true] at h
      have hk := Nat.eq_of_beq_eq_true hk
      subst hk
      cases h1 : v.shared st with
      | none => simp [h1] at h
      | some st1 =>
        simp only [h1] at h
        obtain ⟨G1, m1, s1, k1⟩ := shared_ok h1 hm
        cases h2 : v.get st1 t with
        | none => simp [h2] at h
        | some d =>
          simp only [h2] at h
          cases h3 : sliceParts t (k + 1) parts st1 with
          | none => simp [h3] at h
          | some p =>
            obtain ⟨l', st2⟩ := p
            simp only [h3, Option.some.injEq, Prod.mk.injEq] at h
            obtain ⟨rfl, rfl⟩ := h
            have hd := dat_cells (avget_ok m1 h2 (hv.sub s1))
            obtain ⟨G2, m2, s2, k2, r2, l2, z2⟩ := sliceParts_ok h3 m1 (hp.imp fun p q hpq => ⟨hpq.1, hpq.2.sub s1⟩)
            refine ⟨G2, m2, s1.trans s2, k1.trans k2, ⟨_, _, [], [], by simp only [List.map_cons, List.flatten_cons], rfl, hd.mono s2.S, r2⟩, by simp [l2], ?_⟩
            intro i q hq
            cases i with
            | zero =>
              simp only [List.getElem?_cons_zero, Option.some.injEq] at hq
              subst hq
              exact ⟨rfl, by have := Rep.size hd; simpa using this⟩
            | succ i =>
              obtain ⟨g1, g2⟩ := z2 i q (by simpa using hq)
              exact ⟨by omega, g2⟩
  | [], _ :: _, _, _, _, _, _, _, _, hp => hp.elim
  | _ :: _, [], _, _, _, _, _, _, _, hp => hp.elim

theorem opNew_ok {st : St} {G : Gh} {T : TypeId} {o : Nat} {ls : List Leaf} {cs : Array Value} {K : AVal → St → Option R} (h : opNew E T o ls st K = some r) (hm : RelM X st G w) (hl : All2 (RelL G) ls cs.toList) :
    ∃ av st' G', RelM X st' G' (w.alloc (.cells cs T)) ∧ (∀ act, RelR G st act → RelR G' st' act) ∧ RelV G' av (.pointer (some ⟨w.heap.size, 0, none⟩)) ∧ K av st' = some r := by
  unfold opNew at h
  cases hT : E.tab T with
  | none => simp [hT] at h
  | some ti =>
    cases ho : st.obj o with
    | some l => simp [hT, ho] at h
    | none =>
      simp only [hT, ho] at h
      cases hc : (Nat.beq ls.length ti.size && !ls.any Leaf.isBas && !st.ment false o && !ls.any (Leaf.ment false o)) with
      | false => simp [hc] at h
      | true =>
        simp only [hc, cond_true] at h
        simp only [Bool.and_eq_true, Bool.not_eq_true'] at hc
        obtain ⟨⟨⟨_, h2⟩, h3⟩, h4⟩ := hc
        obtain ⟨G', m, hle, hv⟩ := hm.newObj (elem := T) ho h3 h2 h4 hl
        exact ⟨_, _, G', m, fun act ra => ra.le hle rfl (fun _ => rfl) h3, hv, h⟩

include hE
theorem opBuildSlice_ok {st : St} {G : Gh} {T : TypeId} {dst len : Nat} {parts : List (Nat × AVal)} {vs : List (Nat × Value)} {K : AVal → St → Option R} (h : opBuildSlice E T dst len parts st K = some r) (hm : RelM X st G w)
    (hp : All2 (fun (p : Nat × AVal) (q : Nat × Value) => p.1 = q.1 ∧ RelV G p.2 q.2) parts vs) :
    ∃ av v st' G' w', (Instr.buildSlice T len vs.toArray).run P w = .ok v w' ∧ RelM X st' G' w' ∧ (∀ act, RelR G st act → RelR G' st' act) ∧ RelV G' av v ∧ K av st' = some r := by
  unfold opBuildSlice at h
  split at h
  · rename_i s b y e z hT
    cases hei : E.tab e with
    | none => simp [hei] at h
    | some ei =>
      simp only [hei] at h
      cases hy : ei.ty with
      | none => simp [hy] at h
      | some t =>
        simp only [hy] at h
        cases hc : (Nat.beq len parts.length && Nat.beq ei.size t.size && Nat.ble (len * ei.size) 16777216) with
        | false => simp [hc] at h
        | true =>
          simp only [hc, cond_true] at h
          simp only [Bool.and_eq_true] at hc
          obtain ⟨⟨hc1, hc2⟩, hc3⟩ := hc
          have hc1 := Nat.eq_of_beq_eq_true hc1
          have hc2 := Nat.eq_of_beq_eq_true hc2
          have hc3 := Nat.le_of_ble_eq_true hc3
          cases hsp : sliceParts t 0 parts st with
          | none => simp [hsp] at h
          | some p =>
            obtain ⟨l, st1⟩ := p
            simp only [hsp] at h
            cases ha : st1.arr dst with
            | some A => simp [ha] at h
            | none =>
              simp only [ha] at h
              cases hmt : st1.ment true dst with
              | true => simp [hmt] at h
              | false =>
                simp only [hmt, cond_false] at h
                obtain ⟨G1, m1, s1, k1, r1, l1, z1⟩ := sliceParts_ok hsp hm hp
                have hlv : vs.length = len := by rw [hc1, hp.length]
                have hu := (hE T _ hT).slice
                obtain ⟨i, d, zz, i1, i2, i3, i4, i5, i6, i7, i8, i9⟩ := hE e ei hei
                have hcl : (vs.map fun p => p.2.cells.toList).flatten.length = len * t.size := by
                  rw [RepL.size (fun c x H hr => Rep.size hr) r1, l1, hlv]
                let zc : Array Value := if len * ei.size = 0 then #[] else zz.cells
                let init : List Value := ((Array.range (len * ei.size)).map (zc[· % zc.size]!)).toList
                have hil : init.length = len * ei.size := by simp [init]
                have hfill := fill_row ei.size vs 0 init (fun j p hp => by
                  obtain ⟨g1, g2⟩ := z1 j p hp; exact ⟨g1, by rw [g2, hc2]⟩) (by rw [Nat.zero_add, hlv, hil]; exact Nat.le_refl _)
                rw [Nat.zero_add, hlv, Nat.zero_mul, List.take_zero, List.nil_append, List.drop_of_length_le (by rw [hil]; exact Nat.le_refl _), List.append_nil] at hfill
                obtain ⟨G2, m2, hle2, hv2⟩ := m1.newArr (elem := e) (arr := (vs.map fun p => p.2.cells.toList).flatten.toArray) (cells := (vs.map fun p => p.2.cells.toList).flatten) (rest := []) (cap := len) ha hmt (by simp)
                  (by rw [List.size_toArray, hcl]; exact Nat.le_refl _) (by rw [l1, hlv]; exact Nat.le_refl _) r1
                refine ⟨_, _, _, G2, _, ?_, m2, fun act ra => (ra.sub s1 k1.n k1.reg).le hle2 rfl (fun _ => rfl) hmt, hv2, h⟩
                have h24 : ¬ (2 ^ 24 < len * i.size) := by rw [i3]; omega
                have hsz := (hE e ei hei).size w
                have hinit : (Array.range (len * ei.size)).map (zc[· % zc.size]!) = init.toArray := (Array.toArray_toList (xs := (Array.range (len * ei.size)).map (zc[· % zc.size]!))).symm
                by_cases h0 : len * ei.size = 0
                · have hzc : zc = #[] := by simp [zc, h0]
                  rw [hzc] at hinit
                  simp only [Instr.buildSlice, Sem.run_bind, run_underlying hu, Result.andThen_ok, hsz, Sem.run_ite, if_neg (show ¬ (len * ei.size > 2 ^ 24) by omega), h0, if_true, Sem.run_pure]
                  rw [h0] at hinit
                  rw [hinit]
                  simp only [hfill]
                  simp [newRow, l1, hlv]
                · have hzc : zc = zz.cells := by simp [zc, h0]
                  rw [hzc] at hinit
                  simp only [Instr.buildSlice, Sem.run_bind, run_underlying hu, Result.andThen_ok, hsz, Sem.run_ite, if_neg (show ¬ (len * ei.size > 2 ^ 24) by omega), h0, if_false, Sem.run_pure, zeroValue, typeInfo, run_program, i1, i5]
                  rw [hinit]
                  simp only [hfill]
                  simp [newRow, l1, hlv]
  · cases h
end ops
end Go.Fx
