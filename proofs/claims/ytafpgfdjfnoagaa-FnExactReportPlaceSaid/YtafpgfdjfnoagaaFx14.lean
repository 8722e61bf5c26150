/- The framework, fourteenth text: appends. -/
import Derived.Test.YtafpgfdjfnoagaaFx13
namespace Go.Fx
set_option linter.unusedVariables false
set_option linter.unusedSimpArgs false

theorem run_append_empty {P : Program} {w : World} {T e ty : TypeId} {i : TypeInfo} (hu : P.underlying T = some (.slice e)) (hi : P.info? e = some i) (base xb : Option Addr) (n cap xc : Nat) (hn : n ≤ cap) :
    (Builtin.append_ #[T, T] ty #[.slice base n cap, .slice xb 0 xc]).run P w = .ok (.slice base n cap) w := by
  cases base <;> cases xb <;> simp [Builtin.append_, run_underlying hu, sizeOf, typeInfo, hi, Builtin.lenOf, Builtin.firstCells, loadCells, loadCellsFrom, storeCells, hn]

theorem Kept.arrs (st : St) (l : List (Nat × Arr)) : Kept st { st with arrs := l } := ⟨rfl, fun _ => rfl, fun _ => rfl, fun o j l => by cases l <;> rfl, rfl⟩

section ops
variable {P : Program} {E : Env} (hE : TabOk P E.tab) {X : Ctx} {w : World} {R : Type} {r : R} {st : St} {G : Gh}
include hE

set_option maxHeartbeats 2000000 in
theorem opAppend_ok {T ty : TypeId} {dst : Nat} {x y : AVal} {vx vy : Value} {K : AVal → St → Option R} (h : opAppend E T dst x y st K = some r) (hm : RelM X st G w) (hx : RelV G x vx) (hy : RelV G y vy) :
    ∃ av v st' G' w', (Builtin.append_ #[T, T] ty #[vx, vy]).run P w = .ok v w' ∧ RelM X st' G' w' ∧ (∀ act, RelR G st act → RelR G' st' act) ∧ RelV G' av v ∧ K av st' = some r := by
  unfold opAppend at h
  split at h
  · rename_i s b y' e z hT
    cases hei : E.tab e with
    | none => simp [hei] at h
    | some ei =>
      simp only [hei] at h
      cases hty : ei.ty with
      | none => simp [hty] at h
      | some t =>
        simp only [hty] at h
        cases hc : (Nat.beq ei.size t.size && Nat.ble ei.bytes 16384) with
        | false => simp [hc] at h
        | true =>
          simp only [hc, cond_true] at h
          simp only [Bool.and_eq_true] at hc
          have q1 := Nat.eq_of_beq_eq_true hc.1
          have q2 := Nat.le_of_ble_eq_true hc.2
          cases hsh : y.shared st with
          | none => simp [hsh] at h
          | some st1 =>
            simp only [hsh] at h
            obtain ⟨G1, m1, s1, k1⟩ := shared_ok hsh hm
            cases hg : y.get st1 (.slice t) with
            | none => simp [hg] at h
            | some m =>
              cases hda : st1.arr dst with
              | some A => simp [hg, hda] at h
              | none =>
                simp only [hg, hda] at h
                cases hmt : st1.ment true dst with
                | true => simp [hmt] at h
                | false =>
                  simp only [hmt, cond_false] at h
                  have hu := (hE T _ hT).slice
                  obtain ⟨i, d, zz, i1, i2, i3, i4, i5, i6, i7, i8, i9⟩ := hE e ei hei
                  have hzs : zz.cells.size = i.size := by rw [i3, ← i9, ← i6]; simp
                  obtain ⟨cs, ecs, hrep⟩ := avget_ok m1 hg (hy.sub s1)
                  simp only [Ty.agg, Bool.false_eq_true, if_false] at ecs
                  subst ecs
                  have hx1 : RelV G1 x vx := hx.sub s1
                  -- the pieces of what is appended
                  have hcells : (m = [] ∧ ∃ base cap, vy = .slice base 0 cap) ∨ (0 < m.length ∧ ∃ ad c news, vy = .slice (some ad) m.length c ∧ RepL (Rep G1.S false t) news m [] ∧ (∀ j u, news[j]? = some u → w.cell? (ad.add j) = some u)) := by
                    rcases hrep with ⟨_, ⟨rfl, base, cap, h⟩ | ⟨b, cap, arr, elem, fz, pre, cells, rest, e1, e2, e3, e4, elc⟩⟩
                    · simp only [List.cons.injEq, and_true] at h; exact .inl ⟨rfl, base, cap, h⟩
                    · simp only [List.cons.injEq, and_true] at e1
                      cases m with
                      | nil => exact .inl ⟨rfl, _, _, e1⟩
                      | cons x0 m =>
                        refine .inr ⟨by simp, ⟨b, pre.length, none⟩, cap, cells, e1, e4, fun j u hj => ?_⟩
                        rw [Addr.add_mid]
                        exact rangeAt_of (m1.sh _ _ e2) e3 rfl j u hj
                  have hnl : ∀ {news : List Value}, RepL (Rep G1.S false t) news m [] → news.length = m.length * i.size := fun hr => by
                    rw [RepL.size (fun c x H hr => Rep.size hr) hr, i3, q1]
                  -- an array that has no memory so far
                  have fresh : ∀ (st2 : St) (rr : List t.den), RelM X st2 G1 w → st2.arr dst = none → st2.ment true dst = false → Kept st1 st2 → app ([] : List t.den) m = some rr →
                      ∃ v G' w', (Builtin.append_ #[T, T] ty #[.slice none 0 0, vy]).run P w = .ok v w' ∧ RelM X (st2.setArr dst ⟨t, false, false, rr⟩) G' w' ∧ (∀ act, RelR G st act → RelR G' (st2.setArr dst ⟨t, false, false, rr⟩) act) ∧ RelV G' (.one (.hdl dst)) v := by
                    intro st2 rr hm2 ha2 hmt2 hk2 happ
                    obtain ⟨hlen, hrr0⟩ := app_some happ
                    have hrr1 : m = rr := hrr0.symm
                    subst hrr1
                    have hrr : ∀ {G' : Gh}, G1.Le G' true dst → ∀ act, RelR G st act → RelR G' (st2.setArr dst ⟨t, false, false, m⟩) act := fun hle act ra =>
                      (ra.sub s1 (k1.trans hk2).n (k1.trans hk2).reg).le hle rfl (fun _ => rfl) hmt2
                    rcases hcells with ⟨rfl, base, cap, rfl⟩ | ⟨hpos, ad, c, news, rfl, hnews, hcell⟩
                    · obtain ⟨G', m', hle, hv⟩ := hm2.newNil (t := t) ha2 hmt2
                      exact ⟨_, G', w, run_append_empty hu i1 none base 0 0 cap (Nat.le_refl _), m', hrr hle, hv⟩
                    · simp only [List.length_nil, Nat.zero_add] at hlen
                      have h48 : m.length * i.bytes ≤ 281474976710656 := by
                        have : m.length * i.bytes ≤ 4294967296 * 16384 := Nat.mul_le_mul hlen (by rw [i4]; exact q2)
                        omega
                      have hrun := run_append_nil (P := P) w T ty e i zz hu i1 i5 ad m.length c news (hnl hnews) hcell hpos (by omega) h48
                      have hge := grownCap_ge w m.length 0 e
                      obtain ⟨G', m', hle, hv⟩ := (RelM.drew hm2).newArr (l := m) (arr := news.toArray ++ Builtin.zeroCells zz.cells (grownCap w m.length 0 e - m.length)) (elem := e) (cells := news) (rest := (Builtin.zeroCells zz.cells (grownCap w m.length 0 e - m.length)).toList) (cap := grownCap w m.length 0 e) ha2 hmt2
                        (by simp) (by
                          rw [Array.size_append, size_zeroCells, hzs, List.size_toArray, hnl hnews, ← Nat.add_mul, i3, q1]
                          exact Nat.mul_le_mul_right _ (by omega)) hge hnews
                      exact ⟨_, G', _, hrun, m', hrr hle, hv⟩
                  cases x with
                  | agg ls => simp [AVal.leaf] at h
                  | tup ls => simp [AVal.leaf] at h
                  | ifc t ls => simp [AVal.leaf] at h
                  | one l =>
                    simp only [AVal.leaf] at h
                    cases l with
                    | nil =>
                      simp only at h
                      obtain ⟨rr, hrr, h⟩ := Option.bind_eq_some_iff.1 h
                      have : vx = .slice none 0 0 := hx
                      subst this
                      obtain ⟨v, G', w', f1, f2, f3, f4⟩ := fresh st1 rr m1 hda hmt (.refl _) hrr
                      exact ⟨_, v, _, G', w', f1, f2, f3, f4, h⟩
                    | hdl a =>
                      simp only at h
                      cases hA : look st1.arrs a with
                      | none => simp [hA] at h
                      | some A =>
                        simp only [hA] at h
                        cases hc3 : (A.sh || A.deep || (look st1.barrs a).isSome) with
                        | true => simp [hc3] at h
                        | false =>
                          simp only [hc3, cond_false] at h
                          simp only [Bool.or_eq_false_iff] at hc3
                          obtain ⟨⟨hAs, hAd⟩, hAb⟩ := hc3
                          have hAb : look st1.barrs a = none := by simpa using hAb
                          cases hcast : cast? (.slice A.t) (.slice t) A.l with
                          | none => simp [hcast] at h
                          | some l =>
                            simp only [hcast] at h
                            obtain ⟨ety, hl⟩ := cast?_some hcast
                            obtain ⟨At, Adeep, Ash, Al⟩ := A
                            simp only [Ty.slice.injEq] at ety
                            subst ety
                            simp only at hl hAs hAd
                            subst hl hAs hAd
                            obtain ⟨rr, hrr, hK⟩ := Option.bind_eq_some_iff.1 h
                            have harrA : st1.arr a = some ⟨At, false, false, l⟩ := by simp [St.arr, hA]
                            have hne : dst ≠ a := fun e => by rw [e, harrA] at hda; cases hda
                            have har := m1.ar a _ harrA
                            simp only [ArrRel, Bool.false_eq_true, if_false] at har
                            have hvx : vx = G1.ψ a := hx1
                            have harr' : ∀ (N : Arr) q, ({ st1 with arrs := (dst, N) :: del st1.arrs a } : St).arr q = if q = dst then some N else if q = a then none else st1.arr q := fun N q => by
                              simp only [St.arr, look_cons, look_del]
                              by_cases e : q = dst
                              · subst e; simp
                              · by_cases e2 : q = a
                                · subst e2; simp [e, Ne.symm e, hAb, eq_comm]
                                · simp [e, e2, eq_comm (a := dst), eq_comm (a := a)]
                            rcases har with ⟨e1, e2, e3⟩ | ⟨bb, cap, arr, elem, cells, rest, H', e1, e2, e3, e4, e5, e6⟩
                            · subst e1
                              simp only [List.cons.injEq, and_true] at e3
                              rw [hvx, e3]
                              obtain ⟨v, G', w', f1, f2, f3, f4⟩ := fresh { st1 with arrs := del st1.arrs a } rr (m1.dropArr a hAb) (by
                                simp only [St.arr, look_del] at hda ⊢
                                rw [if_neg (fun h => hne h.symm)]; exact hda) hmt (Kept.arrs _ _) hrr
                              exact ⟨_, v, _, G', w', f1, f2, f3, f4, hK⟩
                            · simp only [List.cons.injEq, and_true] at e1
                              rw [hvx, e1]
                              obtain ⟨hlen, rfl⟩ := app_some hrr
                              have hblk := m1.ah a _ harrA rfl (bb, Obj.cells arr elem (0, 0)) (by rw [e2]; simp)
                              have hcl : cells.length = l.length * At.size := RepL.size (fun c x H hr => Rep.size hr) e6
                              have hH' : H' = [] := RepL.noHeap (fun c x H hr => Rep.noHeap hr) e6
                              subst hH'
                              have hRR : ∀ {G' : Gh} {st2 : St}, (∀ act, RelR G1 st1 act → RelR G' st2 act) → ∀ act, RelR G st act → RelR G' st2 act := fun hf act ra => hf act (ra.sub s1 k1.n k1.reg)
                              rcases hcells with ⟨rfl, base, xcap, rfl⟩ | ⟨hpos, ad, c, news, rfl, hnews, hcell⟩
                              · -- nothing is appended
                                rw [List.append_nil] at hK
                                obtain ⟨G2, m2, r2, v2⟩ := m1.reArr (st' := { st1 with arrs := (dst, ⟨At, false, false, l⟩) :: del st1.arrs a }) (a := a) (dst := dst) (A' := ⟨At, false, false, l⟩) harrA rfl rfl e1 e2 (cap' := cap) (arr' := arr) (elem := elem)
                                  (.inr ⟨bb, cap, arr, elem, cells, rest, [], rfl, rfl, e3, e4, e5, e6⟩) hblk (fun _ _ => rfl) rfl rfl rfl rfl (Kept.arrs _ _) (harr' _) (.inr ⟨hne, hda, hmt⟩)
                                exact ⟨_, _, _, G2, w, run_append_empty hu i1 _ _ _ _ _ e5, m2, hRR r2, v2, hK⟩
                              · by_cases hroom : l.length + m.length ≤ cap
                                · have hfit : 0 + l.length * i.size + news.length ≤ arr.size := by
                                    rw [hnl hnews, Nat.zero_add, ← Nat.add_mul, i3, q1]
                                    exact Nat.le_trans (Nat.mul_le_mul_right _ hroom) e4
                                  have hth := there_of hblk hfit
                                  have hrun := run_append_room_cells (P := P) w T ty e i hu i1 bb 0 l.length cap ad m.length c news (hnl hnews) hcell (RepL.one (fun c x H hr => Rep.one hr) hnews) hroom
                                    (fun j hj => (hth j hj).1) (fun j hj => (hth j hj).2)
                                  obtain ⟨arr', g1, g2, g3, g4, g5, g6, g7⟩ := heap_setCells bb news (0 + l.length * i.size) w hblk hfit
                                  have hcells' : arr'.toList = (cells ++ news) ++ arr.toList.drop (0 + l.length * i.size + news.length) := by
                                    rw [g2]
                                    have : arr.toList.take (0 + l.length * i.size) = cells := by
                                      rw [e3, Nat.zero_add, i3, q1, ← hcl]; simp
                                    rw [this]; simp
                                  have hsz' : arr'.size = arr.size := by
                                    rw [← Array.length_toList, g2]
                                    simp; omega
                                  obtain ⟨G2, m2, r2, v2⟩ := m1.reArr (st' := { st1 with arrs := (dst, ⟨At, false, false, l ++ m⟩) :: del st1.arrs a }) (a := a) (dst := dst) (A' := ⟨At, false, false, l ++ m⟩) harrA rfl rfl e1 e2 (cap' := cap) (arr' := arr') (elem := elem)
                                    (.inr ⟨bb, cap, arr', elem, cells ++ news, _, [], rfl, rfl, hcells', by rw [hsz']; exact e4, by simpa using hroom, by simpa using e6.append hnews⟩) g1 g3 g4 g5 g6 g7 (Kept.arrs _ _) (harr' _) (.inr ⟨hne, hda, hmt⟩)
                                  simp only [List.length_append] at v2
                                  exact ⟨_, _, _, G2, _, hrun, m2, hRR r2, v2, hK⟩
                                · have holds : ∀ j u, cells[j]? = some u → w.cell? ((⟨bb, 0, none⟩ : Addr).add j) = some u := fun j u hj => by
                                    rw [Addr.add_mid]
                                    exact rangeAt_of (pre := []) hblk (by simpa using e3) rfl j u hj
                                  have hby : (l.length + m.length) * i.bytes ≤ 140737488355328 := by
                                    have : (l.length + m.length) * i.bytes ≤ 4294967296 * 16384 := Nat.mul_le_mul hlen (by rw [i4]; exact q2)
                                    omega
                                  have hfit := growslice_fits (need := l.length + m.length) (old := cap) (bytes := i.bytes) (by omega) hby
                                  have hrun := run_append_grow (P := P) w T ty e i zz hu i1 i5 ⟨bb, 0, none⟩ l.length cap cells (by rw [hcl, i3, q1]) holds ad m.length c news (hnl hnews) hcell (by omega) (by omega) hfit
                                  have hge := grownCap_ge w (l.length + m.length) cap e
                                  obtain ⟨G', m', hle, hv⟩ := (RelM.drew (m1.dropArr a hAb)).newArr (l := l ++ m) (arr := cells.toArray ++ news.toArray ++ Builtin.zeroCells zz.cells (grownCap w (l.length + m.length) cap e - (l.length + m.length))) (elem := e) (cells := cells ++ news) (rest := (Builtin.zeroCells zz.cells (grownCap w (l.length + m.length) cap e - (l.length + m.length))).toList) (cap := grownCap w (l.length + m.length) cap e)
                                    (a := dst) (by
                                      simp only [St.arr, look_del] at hda ⊢
                                      rw [if_neg (fun h => hne h.symm)]; exact hda) hmt (by simp) (by
                                      rw [Array.size_append, Array.size_append, size_zeroCells, hzs, List.size_toArray, List.size_toArray, hnl hnews, hcl, i3, q1, ← Nat.add_mul, ← Nat.add_mul]
                                      exact Nat.mul_le_mul_right _ (by omega)) (by simpa using hge) (by simpa using e6.append hnews)
                                  simp only [List.length_append] at hv
                                  exact ⟨_, _, _, G', _, hrun, m', hRR (fun act ra => (ra.sub (.refl _) rfl (fun _ => rfl)).le hle rfl (fun _ => rfl) hmt), hv, hK⟩
                    | _ => simp at h
  · cases h
end ops
end Go.Fx
