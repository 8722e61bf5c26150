/- The framework, fifteenth text: parts of strings and slices, conversions, lengths, the lesser and the greater. -/
import Derived.Test.YtafpgfdjfnoagaaFx14
namespace Go.Fx
set_option linter.unusedVariables false
set_option linter.unusedSimpArgs false

theorem bound_ok {P : Program} {w : World} {G : Gh} {lo : Option AVal} {vlo : Option Value} {d n : Int} (h : boundOf d lo = some n) (hr : ∀ a, lo = some a → ∃ v, vlo = some v ∧ RelV G a v) (hn : lo = none → vlo = none) :
    (vlo = none ∧ lo = none ∧ n = d) ∨ ∃ k, vlo = some (.int k n) := by
  cases lo with
  | none => simp only [boundOf, Option.some.injEq] at h; exact .inl ⟨hn rfl, rfl, h.symm⟩
  | some a =>
    simp only [boundOf, Option.map_eq_some_iff] at h
    obtain ⟨⟨k, m⟩, h1, h2⟩ := h
    simp only at h2; subst h2
    obtain ⟨v, h3, h4⟩ := hr a rfl
    exact .inr ⟨k, by rw [h3, intof h1 h4]⟩

theorem run_bounds {P : Program} {w : World} {isSlice : Bool} {len cap : Nat} {vlo vhi : Option Value} {i j : Int} (hlc : len ≤ cap) (h0 : 0 ≤ i) (h1 : i ≤ j) (h2 : j ≤ (len : Int))
    (hlo : (vlo = none ∧ i = 0) ∨ ∃ k, vlo = some (.int k i)) (hhi : (vhi = none ∧ j = (len : Int)) ∨ ∃ k, vhi = some (.int k j)) :
    (Instr.sliceBounds isSlice len cap vlo vhi none).run P w = .ok (i.toNat, j.toNat, cap) w := by
  have hjc : j ≤ (cap : Int) := by omega
  have hj0 : 0 ≤ j := by omega
  rcases hlo with ⟨rfl, rfl⟩ | ⟨k, rfl⟩ <;> rcases hhi with ⟨rfl, rfl⟩ | ⟨k', rfl⟩
  · simp [Instr.sliceBounds]
  · simp [Instr.sliceBounds, Instr.sliceBound, asIntOf, hj0, hjc]
  · have : i.toNat ≤ len := by omega
    have h3 : i ≤ (len : Int) := by omega
    simp [Instr.sliceBounds, Instr.sliceBound, asIntOf, h0, h3]
  · have h3 : i ≤ ((j.toNat : Nat) : Int) := by omega
    have h4 : ¬ (max j 0 < i) := by omega
    simp [Instr.sliceBounds, Instr.sliceBound, asIntOf, h0, hj0, hjc, h3, h4]

theorem extract_str (s : Str) (i j : Nat) : (⟨s.toArray⟩ : ByteArray).extract i j = ⟨((s.take j).drop i).toArray⟩ := by
  apply ByteArray.ext
  apply Array.ext'
  simp [ByteArray.data_extract, List.drop_take]

section ops
variable {P : Program} {E : Env} (hE : TabOk P E.tab) {X : Ctx} {w : World} {R : Type} {r : R} {st : St} {G : Gh}
include hE

theorem sliceSh_ok {T e : TypeId} {ei : TI} (hu : P.underlying T = some (.slice e)) (hei : E.tab e = some ei) {t : Ty} (hz : ei.size = t.size) {l : List t.den} {vx : Value} (hx : ShBody G.S (RepL (Rep G.S false t)) [vx] l [])
    {vlo vhi : Option Value} {i j : Int} {rr : List t.den} (hs : sub l i j = some rr) (hlo : (vlo = none ∧ i = 0) ∨ ∃ k, vlo = some (.int k i)) (hhi : (vhi = none ∧ j = (l.length : Int)) ∨ ∃ k, vhi = some (.int k j)) :
    ∃ v, (Instr.slice T vx vlo vhi none).run P w = .ok v w ∧ RelV G (.one (.dat (.slice t) rr)) v := by
  obtain ⟨h0, h1, h2, rfl⟩ := sub_some hs
  have hsz := (hE _ _ hei).size w
  rcases hx with ⟨_, ⟨rfl, base, cap, hb⟩ | ⟨b, cap, arr, elem, fz, pre, cells, rest, e1, e2, e3, e4, elc⟩⟩
  · simp only [List.cons.injEq, and_true] at hb
    subst hb
    simp only [List.length_nil] at h2
    obtain rfl : i = 0 := by omega
    obtain rfl : j = 0 := by simp at h2; omega
    have hrun := run_bounds (P := P) (w := w) (isSlice := true) (len := 0) (cap := cap) (vlo := vlo) (vhi := vhi) (Nat.zero_le _) (Int.le_refl 0) (Int.le_refl 0) (by simp) hlo (by simpa using hhi)
    refine ⟨.slice (if cap = 0 then base else base.map (·.add (0 * ei.size))) 0 cap, ?_, ⟨[_], rfl, rfl, .inl ⟨by simp, _, _, rfl⟩⟩⟩
    simp only [Instr.slice, Sem.run_bind, run_underlying hu, Result.andThen_ok, hrun, hsz]
    simp
  · simp only [List.cons.injEq, and_true] at e1
    subst e1
    · have hcap := elc
      have hrun := run_bounds (P := P) (w := w) (isSlice := true) (len := l.length) (cap := cap) hcap h0 h1 h2 hlo hhi
      have hi : i.toNat ≤ j.toNat := by omega
      have hj : j.toNat ≤ l.length := by omega
      refine ⟨.slice (if cap = i.toNat then some ⟨b, pre.length, none⟩ else (some (⟨b, pre.length, none⟩ : Addr)).map (·.add (i.toNat * ei.size))) (j.toNat - i.toNat) (cap - i.toNat), ?_, ?_⟩
      · simp only [Instr.slice, Sem.run_bind, run_underlying hu, Result.andThen_ok, hrun, hsz]
        simp
      · have hlen : ((l.take j.toNat).drop i.toNat).length = j.toNat - i.toNat := by simp; omega
        by_cases hci : cap = i.toNat
        · have : j.toNat - i.toNat = 0 := by omega
          have hnil : (l.take j.toNat).drop i.toNat = [] := List.eq_nil_of_length_eq_zero (by omega)
          rw [hnil, if_pos hci, this]
          exact ⟨[_], rfl, rfl, .inl ⟨rfl, _, _, rfl⟩⟩
        · rw [if_neg hci]
          obtain ⟨c1, c2, H1, H2, k1, k2, k3, k4, k5⟩ := RepL.split (fun c x H hr => Rep.size hr) (k := j.toNat) e4 hj
          have hH1 := RepL.noHeap (fun c x H hr => Rep.noHeap hr) k4
          obtain ⟨d1, d2, K1, K2, q1, q2, q3, q4, q5⟩ := RepL.split (fun c x H hr => Rep.size hr) (k := i.toNat) k4 (by simp; omega)
          have hK2 := RepL.noHeap (fun c x H hr => Rep.noHeap hr) q5
          rw [hK2] at q5
          refine ⟨[_], rfl, rfl, .inr ⟨b, cap - i.toNat, arr, elem, fz, pre ++ d1, d2, c2 ++ rest, ?_, e2, ?_, q5, by rw [hlen]; omega⟩⟩
          · rw [hlen]
            simp [Addr.add_mid, q3, hz]
          · rw [e3, k1, q1]; simp

theorem opSlice_ok {T : TypeId} {dst : Nat} {x : AVal} {vx : Value} {lo hi mx : Option AVal} {vlo vhi vmx : Option Value} {K : AVal → St → Option R} (h : opSlice E T dst x lo hi mx st K = some r) (hm : RelM X st G w) (hx : RelV G x vx)
    (hlo : ∀ a, lo = some a → ∃ v, vlo = some v ∧ RelV G a v) (hlo' : lo = none → vlo = none) (hhi : ∀ a, hi = some a → ∃ v, vhi = some v ∧ RelV G a v) (hhi' : hi = none → vhi = none) (hmx : mx = none → vmx = none) :
    ∃ av v st' G', (Instr.sliceAt T vx vlo vhi vmx).run P w = .ok v w ∧ RelM X st' G' w ∧ (∀ act, RelR G st act → RelR G' st' act) ∧ RelV G' av v ∧ K av st' = some r := by
  unfold opSlice at h
  have same : ∀ {av : AVal} {v : Value}, (∃ d, P.underlying T = some d ∧ (match d with | .array _ _ => False | _ => True)) → vmx = none → (Instr.slice T vx vlo vhi none).run P w = .ok v w → RelV G av v → K av st = some r →
      ∃ av v st' G', (Instr.sliceAt T vx vlo vhi vmx).run P w = .ok v w ∧ RelM X st' G' w ∧ (∀ act, RelR G st act → RelR G' st' act) ∧ RelV G' av v ∧ K av st' = some r := fun hd hmx0 hrun hv hK => by
    obtain ⟨d, hu, hnot⟩ := hd
    subst hmx0
    refine ⟨_, _, st, G, ?_, hm, fun _ h => h, hv, hK⟩
    simp only [Instr.sliceAt, Sem.run_bind, run_underlying hu, Result.andThen_ok]
    cases d <;> first | exact hnot.elim | exact hrun
  split at h
  · -- a string
    rename_i s b y z hT
    have hu := (hE T _ hT).str
    have hmx0 := hmx rfl
    cases hs : x.str? with
    | none => simp [hs] at h
    | some str =>
      simp only [hs] at h
      cases hb1 : boundOf 0 lo with
      | none => simp [hb1] at h
      | some i =>
        cases hb2 : boundOf (str.length : Int) hi with
        | none => simp [hb1, hb2] at h
        | some j =>
          simp only [hb1, hb2] at h
          obtain ⟨rr, hrr, h⟩ := Option.bind_eq_some_iff.1 h
          obtain ⟨h0, h1, h2, rfl⟩ := sub_some hrr
          cases strof hs hx
          have k1 := bound_ok (P := P) (w := w) hb1 hlo hlo'
          have k2 := bound_ok (P := P) (w := w) hb2 hhi hhi'
          have hrun := run_bounds (P := P) (w := w) (isSlice := false) (len := str.length) (cap := str.length) (Nat.le_refl _) h0 h1 h2 (k1.imp (fun h => ⟨h.1, h.2.2⟩) id) (k2.imp (fun h => ⟨h.1, h.2.2⟩) id)
          refine same ⟨_, hu, trivial⟩ hmx0 ?_ (relStr _) h
          simp only [Instr.slice, Sem.run_bind, run_underlying hu, Result.andThen_ok, strV, sizeStr, hrun, Option.isSome_none, Bool.false_eq_true, if_false, Sem.run_pure, extract_str]
  · rename_i s b y e z hT
    have hu := (hE T _ hT).slice
    have hmx0 := hmx rfl
    cases hei : E.tab e with
    | none => simp [hei] at h
    | some ei =>
      simp only [hei] at h
      cases x with
      | agg ls => simp [AVal.leaf] at h
      | tup ls => simp [AVal.leaf] at h
      | ifc t ls => simp [AVal.leaf] at h
      | one l =>
        simp only [AVal.leaf] at h
        cases l with
        | dat t l =>
          cases t with
          | slice t =>
            simp only at h
            cases hz : Nat.beq ei.size t.size with
            | false => simp [hz] at h
            | true =>
              simp only [hz, cond_true] at h
              have hz := Nat.eq_of_beq_eq_true hz
              cases hb1 : boundOf 0 lo with
              | none => simp [hb1] at h
              | some i =>
                cases hb2 : boundOf (l.length : Int) hi with
                | none => simp [hb1, hb2] at h
                | some j =>
                  simp only [hb1, hb2] at h
                  obtain ⟨rr, hrr, h⟩ := Option.bind_eq_some_iff.1 h
                  have k1 := bound_ok (P := P) (w := w) hb1 hlo hlo'
                  have k2 := bound_ok (P := P) (w := w) hb2 hhi hhi'
                  obtain ⟨cs, ecs, hrep⟩ := hx
                  simp only [Ty.agg, Bool.false_eq_true, if_false] at ecs
                  subst ecs
                  obtain ⟨v, f1, f2⟩ := sliceSh_ok hE (P := P) (w := w) hu hei hz hrep hrr (k1.imp (fun h => ⟨h.1, h.2.2⟩) id) (k2.imp (fun h => ⟨h.1, h.2.2⟩) id)
                  exact same ⟨_, hu, trivial⟩ hmx0 f1 f2 h
          | _ => simp at h
        | hdl a =>
          simp only at h
          cases hA : st.arr a with
          | none => simp [hA] at h
          | some A =>
            simp only [hA] at h
            cases hz : Nat.beq ei.size A.t.size with
            | false => simp [hz] at h
            | true =>
              simp only [hz, cond_true] at h
              have hz := Nat.eq_of_beq_eq_true hz
              have hvx : vx = G.ψ a := hx
              have har := hm.ar a A hA
              cases hAs : A.sh with
              | true =>
                simp only [hAs, cond_true] at h
                simp only [ArrRel, hAs, if_true] at har
                cases hb1 : boundOf 0 lo with
                | none => simp [hb1] at h
                | some i =>
                  cases hb2 : boundOf (A.l.length : Int) hi with
                  | none => simp [hb1, hb2] at h
                  | some j =>
                    simp only [hb1, hb2] at h
                    obtain ⟨rr, hrr, h⟩ := Option.bind_eq_some_iff.1 h
                    have k1 := bound_ok (P := P) (w := w) hb1 hlo hlo'
                    have k2 := bound_ok (P := P) (w := w) hb2 hhi hhi'
                    obtain ⟨v, f1, f2⟩ := sliceSh_ok hE (P := P) (w := w) (vx := vx) hu hei hz (by rw [hvx]; exact har) hrr (k1.imp (fun h => ⟨h.1, h.2.2⟩) id) (k2.imp (fun h => ⟨h.1, h.2.2⟩) id)
                    exact same ⟨_, hu, trivial⟩ hmx0 f1 f2 h
              | false =>
                simp only [hAs, cond_false] at h
                cases lo with
                | some _ => simp at h
                | none =>
                  cases hi with
                  | none => simp at h
                  | some hv =>
                    simp only at h
                    cases hj : hv.int? with
                    | none => simp [hj] at h
                    | some p =>
                      obtain ⟨k, j⟩ := p
                      simp only [hj] at h
                      cases hc : (A.deep || (look st.arrs a).isNone || (look st.barrs a).isSome || (st.arr dst).isSome || st.ment true dst) with
                      | true => simp [hc] at h
                      | false =>
                        simp only [hc, cond_false] at h
                        simp only [Bool.or_eq_false_iff] at hc
                        obtain ⟨⟨⟨⟨hAd, hc1⟩, hc2⟩, hc3⟩, hmt⟩ := hc
                        have hc2 : look st.barrs a = none := by simpa using hc2
                        have hc3 : st.arr dst = none := by simpa using hc3
                        obtain ⟨rr, hrr, h⟩ := Option.bind_eq_some_iff.1 h
                        obtain ⟨_, h1, h2, rfl⟩ := sub_some hrr
                        obtain ⟨vh, rfl, hvh⟩ := hhi hv rfl
                        cases intof hj hvh
                        have hvlo := hlo' rfl
                        subst hvlo hmx0
                        simp only [ArrRel, hAs, Bool.false_eq_true, if_false, hAd] at har
                        have hne : dst ≠ a := fun e => by rw [e, hA] at hc3; cases hc3
                        have hsz := (hE _ _ hei).size w
                        have harr' : ∀ (N : Arr) q, ({ st with arrs := (dst, N) :: del st.arrs a } : St).arr q = if q = dst then some N else if q = a then none else st.arr q := fun N q => by
                          simp only [St.arr, look_cons, look_del]
                          by_cases e : q = dst
                          · subst e; simp
                          · by_cases e2 : q = a
                            · subst e2; simp [e, Ne.symm e, hc2, eq_comm]
                            · simp [e, e2, eq_comm (a := dst), eq_comm (a := a)]
                        have hdrop : ((A.l.take j.toNat).drop (0 : Int).toNat) = A.l.take j.toNat := by simp
                        rw [hdrop] at h
                        rcases har with ⟨e1, e2, e3⟩ | ⟨bb, cap, arr, elem, cells, rest, H', e1, e2, e3, e4, e5, e6⟩
                        · simp only [List.cons.injEq, and_true] at e3
                          have hj0 : j = 0 := by rw [e1] at h2; simp at h2; omega
                          subst hj0
                          obtain ⟨G', m', hle, hv'⟩ := (hm.dropArr a hc2).newNil (a := dst) (t := A.t) (by
                            simp only [St.arr, look_del] at hc3 ⊢
                            rw [if_neg (fun h => hne h.symm)]; exact hc3) hmt
                          have hl0 : A.l.take (0 : Int).toNat = [] := by simp
                          refine ⟨.one (.hdl dst), .slice none 0 0, _, G', ?_, m', fun act ra => (ra.sub (.refl _) rfl (fun _ => rfl)).le hle rfl (fun _ => rfl) hmt, hv', by rw [hl0] at h; simpa [hAd, hAs, St.setArr] using h⟩
                          have hrun := run_bounds (P := P) (w := w) (isSlice := true) (len := 0) (cap := 0) (vlo := none) (vhi := some (.int k 0)) (i := 0) (j := 0) (Nat.zero_le _) (Int.le_refl 0) (Int.le_refl 0) (by simp) (.inl ⟨rfl, rfl⟩) (.inr ⟨k, rfl⟩)
                          rw [hvx, e3]
                          simp only [Instr.sliceAt, Instr.slice, Sem.run_bind, run_underlying hu, Result.andThen_ok, hrun, hsz]
                          simp
                        · simp only [List.cons.injEq, and_true] at e1
                          have hH' : H' = [] := RepL.noHeap (fun c x H hr => Rep.noHeap hr) e6
                          subst hH'
                          have hblk := hm.ah a A hA hAs (bb, Obj.cells arr elem (0, 0)) (by rw [e2]; simp)
                          obtain ⟨c1, c2, H1, H2, q1, q2, q3, q4, q5⟩ := RepL.split (fun c x H hr => Rep.size hr) (k := j.toNat) e6 (by omega)
                          have hH1 := RepL.noHeap (fun c x H hr => Rep.noHeap hr) q4
                          subst hH1
                          have hlt : (A.l.take j.toNat).length = j.toNat := by simp; omega
                          obtain ⟨G2, m2, r2, v2⟩ := hm.reArr (st' := { st with arrs := (dst, { A with l := A.l.take j.toNat }) :: del st.arrs a }) (a := a) (dst := dst) (A' := { A with l := A.l.take j.toNat }) hA hAs hAs e1 e2 (cap' := cap) (arr' := arr) (elem := elem)
                            (.inr ⟨bb, cap, arr, elem, c1, c2 ++ rest, [], rfl, rfl, by rw [e3, q1]; simp, e4, by rw [hlt]; omega, by simpa [hAd] using q4⟩) hblk (fun _ _ => rfl) rfl rfl rfl rfl (Kept.arrs _ _) (harr' _) (.inr ⟨hne, hc3, hmt⟩)
                          refine ⟨_, _, _, G2, ?_, m2, r2, v2, by simpa [hAd, hAs] using h⟩
                          have hrun := run_bounds (P := P) (w := w) (isSlice := true) (len := A.l.length) (cap := cap) (vlo := none) (vhi := some (.int k j)) (i := 0) (j := j) e5 (Int.le_refl 0) h1 h2 (.inl ⟨rfl, rfl⟩) (.inr ⟨k, rfl⟩)
                          rw [hvx, e1]
                          simp only [Instr.sliceAt, Instr.slice, Sem.run_bind, run_underlying hu, Result.andThen_ok, hrun, hsz]
                          simp only [hlt]
                          by_cases hcap : cap = 0
                          · simp [hcap]
                          · simp [hcap, Addr.add]
        | _ => simp at h
  · cases h
end ops
end Go.Fx
