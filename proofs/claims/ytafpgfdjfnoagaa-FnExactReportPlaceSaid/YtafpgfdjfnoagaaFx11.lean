/- The framework, eleventh text: stores, variables, slices that are made, appends. -/
import Derived.Test.YtafpgfdjfnoagaaFx10
namespace Go.Fx
set_option linter.unusedVariables false
set_option linter.unusedSimpArgs false

theorem cell_nobas {ls : List Leaf} (h : ls.all Leaf.cell = true) : ls.any Leaf.isBas = false := by
  rw [List.any_eq_false]
  intro l hl
  have := List.all_eq_true.1 h l hl
  cases l <;> simp_all [Leaf.cell, Leaf.isBas]

theorem resl_take (st : St) (o : Nat) : ∀ (n j : Nat) (ls : List Leaf), st.resl o j (ls.take n) = (st.resl o j ls).take n
  | 0, _, _ => by simp [St.resl]
  | n + 1, _, [] => by simp [St.resl]
  | n + 1, j, l :: ls => by simp [St.resl, resl_take st o n (j + 1) ls]
theorem resl_drop (st : St) (o : Nat) : ∀ (n j : Nat) (ls : List Leaf), st.resl o (j + n) (ls.drop n) = (st.resl o j ls).drop n
  | 0, _, _ => by simp
  | n + 1, _, [] => by simp [St.resl]
  | n + 1, j, l :: ls => by
    simp only [List.drop_succ_cons, St.resl]
    rw [← resl_drop st o n (j + 1) ls, show j + (n + 1) = j + 1 + n by omega]
theorem resl_place (st : St) (o off : Nat) (ls nl : List Leaf) (hn : nl.any Leaf.isBas = false) (hl : off + nl.length ≤ ls.length) :
    st.resl o 0 (place ls off nl) = place (st.resl o 0 ls) off nl := by
  unfold place
  have e := resl_drop st o (off + nl.length) 0 ls
  rw [Nat.zero_add] at e
  rw [resl_append, resl_append, resl_take, resl_nobas st o _ nl hn, List.length_take, Nat.min_eq_left (by omega), Nat.zero_add, e]

theorem RelM.storeObj {X : Ctx} {st : St} {G : Gh} {w w' : World} (hm : RelM X st G w) {o off : Nat} {ls nl : List Leaf} {vs : List Value} (ho : st.obj o = some ls) (hn : nl.any Leaf.isBas = false) (hl : off + nl.length ≤ ls.length) (hcb : ((ls.drop off).take nl.length).any Leaf.isBas = false)
    (hv : All2 (RelL G) nl vs) {arr arr' : Array Value} {elem : TypeId} {mid : List Value} (g1 : w.heap[G.φ o]? = some (.cells arr elem (0, 0))) (g2 : arr.toList = G.pre o ++ (mid ++ G.post o)) (g3 : LeavesRel G st o 0 ls mid)
    (hw : w'.heap[G.φ o]? = some (.cells arr' elem (0, 0))) (harr' : arr'.toList = G.pre o ++ ((mid.take off ++ (vs ++ mid.drop (off + vs.length))) ++ G.post o))
    (hwo : ∀ k, k ≠ G.φ o → w'.heap[k]? = w.heap[k]?) (hsz : w'.heap.size = w.heap.size) (hos : w'.os = w.os) (htp : w'.tape = w.tape) (hout : w'.output = w.output) :
    RelM X (st.setObj o (place ls off nl)) G w' := by
  have hown : Owns G st (false, o) (G.φ o) := ⟨⟨ls, ho⟩, rfl⟩
  have hOwn : ∀ x c, Owns G (st.setObj o (place ls off nl)) x c → Owns G st x c := fun x c hx => by
    obtain ⟨k, n⟩ := x
    cases k with
    | true => exact hx
    | false =>
      obtain ⟨⟨l, h⟩, rfl⟩ := hx
      rw [obj_setObj] at h
      by_cases e : o = n
      · subst e; exact hown
      · simp only [e, if_false] at h; exact ⟨⟨l, h⟩, rfl⟩
  have hnb : ∀ x c, Owns G st x c → x ≠ (false, o) → c ≠ G.φ o := fun x c h hx e => hx (hm.dis x (false, o) _ (e ▸ h) hown)
  refine { sl := hm.sl, sh := ?_, ob := ?_, ar := hm.ar, ah := ?_, nd := hm.nd, dis := fun x y b hx hy => hm.dis x y b (hOwn x b hx) (hOwn y b hy), dS := fun x b hx => hm.dS x b (hOwn x b hx), inn := fun x b hx => hm.inn x b (hOwn x b hx), s0 := hm.s0, sn := hm.sn, fr := ?_, sz := by rw [hsz]; exact hm.sz, os := hos.trans hm.os, tp := htp.trans hm.tp, out := hout.trans hm.out, pin := fun q p h => (by obtain ⟨⟨l, h1⟩, h2⟩ := hm.pin q p h; refine ⟨?_, h2⟩; rw [obj_setObj]; by_cases e : o = q <;> simp [e, h1]), bv := ?_ }
  · intro c ob hc
    have : c ≠ G.φ o := fun e => by have := hm.dS _ _ hown; rw [← e, hc] at this; cases this
    rw [hwo c this]; exact hm.sh c ob hc
  · intro q l hq
    rw [obj_setObj] at hq
    by_cases e : o = q
    · subst e
      simp only [if_true, Option.some.injEq] at hq
      subst hq
      refine ⟨arr', elem, _, hw, harr', ?_⟩
      unfold LeavesRel at g3 ⊢
      rw [resl_congr (st := st) (fun j l => by simp), resl_place st o off ls nl hn hl]
      unfold place
      rw [hv.length]
      exact (g3.take off).append (hv.append (g3.drop _))
    · simp only [e, if_false] at hq
      obtain ⟨arr0, elem0, mid0, k1, k2, k3⟩ := hm.ob q l hq
      have hne : G.φ q ≠ G.φ o := hnb (false, q) _ ⟨⟨l, hq⟩, rfl⟩ (by simpa using fun h => e h.symm)
      refine ⟨arr0, elem0, mid0, by rw [hwo _ hne]; exact k1, k2, ?_⟩
      unfold LeavesRel at k3 ⊢
      rw [resl_congr (st := st) (fun j l => by simp)]
      exact k3
  · intro a A hA hs p hp
    have hne : p.1 ≠ G.φ o := hnb (true, a) _ ⟨⟨A, hA, hs⟩, p, hp, rfl⟩ (by simp)
    rw [hwo _ hne]; exact hm.ah a A hA hs p hp
  · intro c hc hn
    have : c ≠ G.φ o := fun e => by
      rcases hm.inn _ _ hown with h | h
      · exact hn (e ▸ h)
      · rw [← e] at h; omega
    rw [hwo c this]; exact hm.fr c hc hn
  · intro q j u h
    obtain ⟨h1, ⟨l, h2, h3⟩, arr0, elem0, h4, h5⟩ := hm.bv q j u h
    by_cases e : o = q
    · subst e
      rw [ho] at h2
      cases h2
      rw [g1] at h4
      cases h4
      have hml : mid.length = ls.length := by have := All2.length g3; rw [resl_length] at this; exact this.symm
      have hj : j < ls.length := (List.getElem?_eq_some_iff.1 h3).1
      have hvl := hv.length
      have hout : j < off ∨ off + nl.length ≤ j := by
        rcases Nat.lt_or_ge j off with h' | h'
        · exact .inl h'
        · refine .inr (Nat.le_of_not_lt fun h'' => ?_)
          have hmem : ((ls.drop off).take nl.length)[j - off]? = some .bas := by
            rw [List.getElem?_take_of_lt (by omega), List.getElem?_drop, show off + (j - off) = j by omega]; exact h3
          have := List.any_eq_false.1 hcb _ (List.mem_of_getElem? hmem)
          exact this rfl
      have key : ∀ {α : Type} (x y : List α) (ys : List α), x.length = ls.length → ys.length = nl.length → (x.take off ++ (ys ++ x.drop (off + ys.length)))[j]? = x[j]? := fun x y ys hx hy => by
        rcases hout with h' | h'
        · rw [List.getElem?_append_left (by simp; omega), List.getElem?_take_of_lt h']
        · rw [List.getElem?_append_right (by simp; omega), List.getElem?_append_right (by simp; omega), List.getElem?_drop]
          congr 1; simp; omega
      refine ⟨h1, ⟨place ls off nl, by rw [obj_setObj, if_pos rfl], by unfold place; rw [key ls ls nl rfl rfl]; exact h3⟩, arr', elem, hw, ?_⟩
      rw [harr', List.getElem?_append_right (by omega), Nat.add_sub_cancel_left]
      rw [g2, List.getElem?_append_right (by omega), Nat.add_sub_cancel_left] at h5
      have hlen2 : (mid.take off ++ (vs ++ mid.drop (off + vs.length))).length = mid.length := by simp; omega
      rw [List.getElem?_append_left (by omega)] at h5
      rw [List.getElem?_append_left (by omega), key mid mid vs hml (by omega)]; exact h5
    · have hne : G.φ q ≠ G.φ o := hnb (false, q) _ ⟨⟨l, h2⟩, rfl⟩ (by simpa using fun h => e h.symm)
      exact ⟨h1, ⟨l, by rw [obj_setObj, if_neg e]; exact h2, h3⟩, arr0, elem0, by rw [hwo _ hne]; exact h4, h5⟩

theorem splice_mid {α : Type} (pre mid post vs : List α) (off n : Nat) (h : off + n ≤ mid.length) :
    (pre ++ (mid ++ post)).take (pre.length + off) ++ (vs ++ (pre ++ (mid ++ post)).drop (pre.length + off + n)) = pre ++ ((mid.take off ++ (vs ++ mid.drop (off + n))) ++ post) := by
  rw [Nat.add_assoc, List.take_length_add_append, List.drop_length_add_append, List.take_append_of_le_length (by omega), List.drop_append_of_le_length h]
  simp

theorem cells_one {X : Ctx} {st : St} {G : Gh} {w : World} (hm : RelM X st G w) : ∀ {ls : List Leaf} {vs : List Value}, ls.all Leaf.cell = true → All2 (RelL G) ls vs → ∀ v ∈ vs, v.oneCell' = true
  | [], [], _, _, v, hv => by cases hv
  | l :: ls, u :: vs, h, a, v, hv => by
    simp only [List.all_cons, Bool.and_eq_true] at h
    rcases List.mem_cons.1 hv with rfl | hv
    · exact (cell_val hm h.1 a.1).1
    · exact cells_one hm h.2 a.2 v hv
  | [], _ :: _, _, h, _, _ => h.elim
  | _ :: _, [], _, h, _, _ => h.elim

theorem run_storeAt {P : Program} {w : World} {t : TypeId} {ti : TI} (hT : TIok P t ti) {b o : Nat} {v : Value} (hl : v.cells.size = ti.size) (ht : w.there b o v.cells.size) (h1 : ∀ u ∈ v.cells.toList, u.oneCell' = true) :
    (Instr.storeAt t (.pointer (some ⟨b, o, none⟩)) v).run P w = .ok () (w.setCells b o v.cells.toList) := by
  obtain ⟨i, d, z, h1', h2, h3, _⟩ := hT
  have := run_storeAt_mid (P := P) w b o t v.cells ht (by rw [h1']; simp [h3, hl]) (Array.all_eq_true_iff_forall_mem.2 fun u hu => h1 u (by simpa using hu))
  exact this

section ops
variable {P : Program} {E : Env} (hE : TabOk P E.tab) {X : Ctx} {st : St} {G : Gh} {w : World} {R : Type} {r : R}
include hE

theorem opStore_ok {T : TypeId} {x v : AVal} {vx vv : Value} {K : St → Option R} (h : opStore E T x v st K = some r) (hm : RelM X st G w) (hx : RelV G x vx) (hv : RelV G v vv) :
    ∃ st' G' w', (Instr.storeAt T vx vv).run P w = .ok () w' ∧ RelM X st' G' w' ∧ (∀ act, RelR G st act → RelR G' st' act) ∧ K st' = some r := by
  unfold opStore at h
  cases hT : E.tab T with
  | none => simp [hT] at h
  | some ti =>
    cases hl : v.leaves with
    | none => simp [hT, hl] at h
    | some vs =>
      simp only [hT, hl] at h
      cases hc : (Nat.beq vs.length ti.size && vs.all Leaf.cell) with
      | false => simp [hc] at h
      | true =>
        simp only [hc, cond_true] at h
        simp only [Bool.and_eq_true] at hc
        have hlen : vs.length = ti.size := Nat.eq_of_beq_eq_true hc.1
        have hal := leaves_ok hm hl hv
        have hone := cells_one hm hc.2 hal
        have hcs : vv.cells.size = ti.size := by rw [← hlen, hal.length]; simp
        have hti := hE T ti hT
        cases x with
        | agg ls => simp [AVal.leaf] at h
        | tup ls => simp [AVal.leaf] at h
        | ifc t ls => simp [AVal.leaf] at h
        | one l =>
          simp only [AVal.leaf] at h
          cases l with
          | ptr o off =>
            simp only at h
            cases ho : st.obj o with
            | none => simp [ho] at h
            | some ls =>
              simp only [ho] at h
              cases hs : slots ls off ti.size with
              | none => simp [hs] at h
              | some c =>
                simp only [hs] at h
                cases hb : c.any Leaf.isBas with
                | true => simp [hb] at h
                | false =>
                  simp only [hb, cond_false] at h
                  have hle : off + ti.size ≤ ls.length := by
                    unfold slots at hs
                    cases hq : Nat.ble (off + ti.size) ls.length with
                    | false => simp [hq] at hs
                    | true => exact Nat.le_of_ble_eq_true hq
                  obtain ⟨arr, elem, mid, g1, g2, g3⟩ := hm.ob o ls ho
                  have hml : mid.length = ls.length := by have := All2.length g3; rw [resl_length] at this; exact this.symm
                  have harrsz : arr.size = (G.pre o).length + (mid.length + (G.post o).length) := by rw [← Array.length_toList, g2]; simp
                  have hx' : vx = .pointer (some ⟨G.φ o, (G.pre o).length + off, none⟩) := hx
                  have hfit : (G.pre o).length + off + vv.cells.size ≤ arr.size := by omega
                  obtain ⟨arr', k1, k2, k3, k4, k5, k6, k7⟩ := heap_setCells (G.φ o) vv.cells.toList ((G.pre o).length + off) w g1 (by simpa using hfit)
                  refine ⟨st.setObj o (place ls off vs), G, _, by rw [hx']; exact run_storeAt hti hcs (there_of g1 hfit) hone, ?_, fun act ha => ⟨ha.1, ha.2.1, ha.2.2⟩, h⟩
                  refine hm.storeObj ho (cell_nobas hc.2) (by omega) (by rw [hlen]; unfold slots at hs; cases hq : Nat.ble (off + ti.size) ls.length <;> simp [hq] at hs; rw [hs]; exact hb) hal g1 g2 g3 k1 ?_ k3 k4 k5 k6 k7
                  have hlv : vv.cells.toList.length = ti.size := by simpa using hcs
                  rw [k2, g2, hlv]
                  exact splice_mid _ _ _ _ _ _ (by omega)
          | elt a sz i off =>
            simp only at h
            cases hsh : st.shareL vs with
            | none => simp [hsh] at h
            | some st1 =>
              simp only [hsh] at h
              obtain ⟨G1, hm1, hsub, hkept⟩ := shareL_ok hsh hm
              cases hA : look st1.arrs a with
              | none => simp [hA] at h
              | some A =>
                simp only [hA] at h
                cases hb : (A.deep || A.sh || !Nat.beq sz A.t.size) with
                | true => simp [hb] at h
                | false =>
                  simp only [hb, cond_false] at h
                  simp only [Bool.or_eq_false_iff, Bool.not_eq_false'] at hb
                  obtain ⟨⟨hd, hAs⟩, hsz⟩ := hb
                  have hsz : sz = A.t.size := Nat.eq_of_beq_eq_true hsz
                  obtain ⟨d, hd1, h⟩ := Option.bind_eq_some_iff.1 h
                  cases hle : Nat.ble (off + ti.size) A.t.size with
                  | false => simp [hle] at h
                  | true =>
                    simp only [hle, cond_true] at h
                    have hle := Nat.le_of_ble_eq_true hle
                    cases him : implode st1 A.t (place (explode A.t d) off vs) with
                    | none => simp [him] at h
                    | some p =>
                      obtain ⟨x', r'⟩ := p
                      cases r' with
                      | cons => simp [him] at h
                      | nil =>
                        simp only [him] at h
                        have harrA : st1.arr a = some A := by simp [St.arr, hA]
                        obtain ⟨b, len, cap0, q1, q2, rfl⟩ : RelL G1 (.elt a sz i off) vx := RelL.sub hsub hx
                        have har := hm1.ar a A harrA
                        simp only [ArrRel, hAs, Bool.false_eq_true, if_false, hd] at har
                        have hi : A.l[i]? = some d := by simpa [idx] using hd1
                        rcases har with ⟨e1, e2, e3⟩ | ⟨b', cap, arr, elem, cells, rest, H', e1, e2, e3, e4, e5, e6⟩
                        · rw [e1] at hi; simp at hi
                        · simp only [List.cons.injEq, and_true] at e1
                          rw [e1] at q1
                          cases q1
                          have hblk := hm1.ah a A harrA hAs (b, Obj.cells arr elem (0, 0)) (by rw [e2]; simp)
                          obtain ⟨pre, cc, post, Hp, Hc, Hq, k1, k2, k3, k4, k5⟩ := RepL.at (fun c x H hr => Rep.size hr) e6 hi
                          have hHc := Rep.noHeap k4
                          rw [hHc] at k4 k3
                          have hal1 : All2 (RelL G1) vs vv.cells.toList := hal.imp fun _ _ => RelL.sub hsub
                          have hccl : cc.length = A.t.size := Rep.size k4
                          have hnew : All2 (RelL G1) (place (explode A.t d) off vs) (place cc off vv.cells.toList) := by
                            unfold place
                            rw [hal1.length]
                            exact ((explode_ok k4).take off).append (hal1.append ((explode_ok k4).drop _))
                          obtain ⟨c1, c2, f1, f2, f3⟩ := implode_ok hm1 him hnew
                          cases c2 with
                          | cons => exact f3.elim
                          | nil =>
                            rw [List.append_nil] at f1
                            have hpl : place cc off vv.cells.toList = cc.take off ++ (vv.cells.toList ++ cc.drop (off + vv.cells.toList.length)) := rfl
                            have hlv : vv.cells.toList.length = ti.size := by simpa using hcs
                            have harrsz : arr.size = pre.length + (cc.length + (post.length + rest.length)) := by rw [← Array.length_toList, e3, k1]; simp
                            have hfit : i * sz + off + vv.cells.size ≤ arr.size := by rw [hsz, ← k2]; omega
                            obtain ⟨arr', g1, g2, g3, g4, g5, g6, g7⟩ := heap_setCells b vv.cells.toList (i * sz + off) w hblk (by simpa using hfit)
                            have hrl := k5 c1 x' [] f2
                            have hcells : arr'.toList = (pre ++ (c1 ++ post)) ++ rest := by
                              rw [g2, e3, k1, ← f1, hpl, hsz, ← k2, hlv]
                              have := splice_mid pre cc (post ++ rest) vv.cells.toList off ti.size (by omega)
                              simpa using this
                            have hsz' : arr'.size = arr.size := by
                              rw [← Array.length_toList, hcells, harrsz]
                              have hc1 : c1.length = cc.length := by rw [Rep.size f2, hccl]
                              simp; omega
                            obtain ⟨G2, m2, r2, _⟩ := hm1.reArr (st' := st1.setArr a { A with l := A.l.set i x' }) (a := a) (dst := a) (A := A) (A' := { A with l := A.l.set i x' }) harrA hAs hAs e1 e2 (cap' := cap0) (arr' := arr') (elem := elem)
                              (.inr ⟨b, cap0, arr', elem, pre ++ (c1 ++ post), rest, H', by simp, rfl, hcells, by rw [hsz']; exact e4, by simpa using e5, by
                                rw [k3]; simp only [hd]; simpa using hrl⟩)
                              g1 g3 g4 g5 g6 g7 ⟨rfl, fun _ => rfl, fun _ => rfl, fun o j l => by simp, rfl⟩ (fun q => by rw [arr_setArr]; by_cases e : q = a <;> simp [e, eq_comm (a := a)])
                              (.inl ⟨rfl, by simp [e1]⟩)
                            exact ⟨_, G2, _, run_storeAt hti hcs (there_of hblk hfit) hone, m2, fun act ra => r2 act (ra.sub hsub hkept.n hkept.reg), h⟩
          | _ => simp at h
end ops
end Go.Fx
