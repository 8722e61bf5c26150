/- Parts: Fx10, Fx11, Fx12, Fx13, Fx14, Fx15, Fx16, Fx17, Fx32, Fx18, Fx33. -/
import Derived.Test.YtafpgfdjfnoagaaDoorFxa
import Derived.ArgAppend
import Derived.Laws.BytesString
import Derived.Deep.MidRow
/- The framework, tenth text: an owned array is written, grows in place, or is cut short. -/
namespace Go.Fx
set_option linter.unusedVariables false
set_option linter.unusedSimpArgs false

/-- An array's head block has another content; its name stays, or is a new one. -/
theorem RelM.reArr {X : Ctx} {st st' : St} {G : Gh} {w w' : World} (hm : RelM X st G w) {a dst : Nat} {A A' : Arr} (hA : st.arr a = some A) (hs : A.sh = false) (hs' : A'.sh = false) (how : A'.own = true)
    {b len cap cap' : Nat} {arr arr' : Array Value} {elem : TypeId} {H' : Heap} (hψ : G.ψ a = .slice (some ⟨b, 0, none⟩) len cap) (hHA : G.HA a = (b, Obj.cells arr elem (0, 0)) :: H')
    (hown : OwnBody (RepL (Rep G.S A'.deep A'.t)) A'.t.size [.slice (some ⟨b, 0, none⟩) A'.l.length cap'] A'.l ((b, Obj.cells arr' elem (0, 0)) :: H'))
    (hw : w'.heap[b]? = some (.cells arr' elem (0, 0))) (hwo : ∀ k, k ≠ b → w'.heap[k]? = w.heap[k]?) (hsz : w'.heap.size = w.heap.size) (hos : w'.os = w.os) (htp : w'.tape = w.tape) (hout : w'.output = w.output)
    (hk : Kept st st') (harr : ∀ q, st'.arr q = if q = dst then some A' else if q = a then none else st.arr q)
    (hdst : (dst = a ∧ Value.slice (some ⟨b, 0, none⟩) A'.l.length cap' = G.ψ a) ∨ (dst ≠ a ∧ st.arr dst = none ∧ st.ment true dst = false)) :
    ∃ G', RelM X st' G' w' ∧ (∀ act, RelR G st act → RelR G' st' act) ∧ RelV G' (.one (.hdl dst)) (.slice (some ⟨b, 0, none⟩) A'.l.length cap') := by
  let hd : Value := .slice (some ⟨b, 0, none⟩) A'.l.length cap'
  let G' : Gh := { G with ψ := fun q => if q = dst then hd else G.ψ q, HA := fun q => if q = dst then (b, Obj.cells arr' elem (0, 0)) :: H' else G.HA q }
  have hownA : ∀ p ∈ G.HA a, Owns G st (true, a) p.1 := fun p hp => ⟨⟨A, hA, hs⟩, p, hp, rfl⟩
  have hb_own : Owns G st (true, a) b := hownA (b, Obj.cells arr elem (0, 0)) (by rw [hHA]; simp)
  -- leaves
  have hrel : ∀ (l : Leaf) (v : Value), (dst ≠ a → l.ment true dst = false) → RelL G l v → RelL G' l v := fun l v hl r => by
    by_cases e : dst = a
    · subst e
      have h2 : hd = G.ψ dst := by
        rcases hdst with ⟨_, h⟩ | ⟨h, _⟩
        · exact h
        · exact absurd rfl h
      have hψ' : G'.ψ = G.ψ := funext fun q => by
        by_cases hq : q = dst
        · subst hq; simp [G', h2]
        · simp [G', hq]
      cases l with
      | hdl q => simp only [RelL, hψ']; exact r
      | elt q s i off => simp only [RelL, hψ']; exact r
      | _ => exact r
    · have hle : G.Le G' true dst := ⟨fun _ _ h => h, fun _ _ => rfl, fun _ _ => rfl, fun _ _ => rfl, fun q h => by simp [G', h rfl]⟩
      exact r.le hle (hl e)
  have hrelV : ∀ (v : AVal) (u : Value), (dst ≠ a → v.ment true dst = false) → RelV G v u → RelV G' v u := fun v u hl r => by
    by_cases e : dst = a
    · have hl' : ∀ l v, RelL G l v → RelL G' l v := fun l v => hrel l v (fun h => absurd e h)
      cases v with
      | one l => exact hl' _ _ r
      | agg ls => obtain ⟨cs, e, hr⟩ := r; exact ⟨cs, e, hr.imp fun _ _ => hl' _ _⟩
      | tup vs =>
        obtain ⟨us, e, hr⟩ := r
        refine ⟨us, e, hr.imp fun p u hpu => ?_⟩
        split at hpu
        · rename_i hc; simp only [hc, if_true]; obtain ⟨cs, e, hr⟩ := hpu; exact ⟨cs, e, hr.imp fun _ _ => hl' _ _⟩
        · rename_i hc
          obtain ⟨l, e, hr⟩ := hpu
          simp only [Bool.not_eq_true] at hc
          simp only [hc, Bool.false_eq_true, if_false]
          exact ⟨l, e, hl' _ _ hr⟩
      | ifc t ls => obtain ⟨u, cs, e1, e2, hr⟩ := r; exact ⟨u, cs, e1, e2, hr.imp fun _ _ => hl' _ _⟩
    · have hle : G.Le G' true dst := ⟨fun _ _ h => h, fun _ _ => rfl, fun _ _ => rfl, fun _ _ => rfl, fun q h => by simp [G', h rfl]⟩
      exact r.le hle (hl e)
  have hmd : dst ≠ a → st.ment true dst = false := fun h => by rcases hdst with ⟨e, _⟩ | ⟨_, _, h⟩; exact absurd e h; exact h
  -- who owns
  have hOwn : ∀ x c, Owns G' st' x c → (x = (true, dst) ∧ Owns G st (true, a) c) ∨ (Owns G st x c ∧ x ≠ (true, a) ∧ x ≠ (true, dst)) := fun x c hx => by
    obtain ⟨k, n⟩ := x
    cases k with
    | false =>
      obtain ⟨⟨ls, hl⟩, rfl⟩ := hx
      rw [hk.obj] at hl
      exact .inr ⟨⟨⟨ls, hl⟩, rfl⟩, by simp, by simp⟩
    | true =>
      obtain ⟨⟨B, hB, hBs⟩, p, hp, rfl⟩ := hx
      rw [harr] at hB
      by_cases e : n = dst
      · subst e
        simp only [G', if_true, List.mem_cons] at hp
        refine .inl ⟨rfl, ?_⟩
        rcases hp with rfl | hp
        · exact hb_own
        · exact hownA p (by rw [hHA]; simp [hp])
      · simp only [e, if_false] at hB
        by_cases e2 : n = a
        · simp [e2] at hB
        · simp only [e2, if_false] at hB
          simp only [G', e, if_false] at hp
          exact .inr ⟨⟨⟨B, hB, hBs⟩, p, hp, rfl⟩, by simpa using e2, by simpa using e⟩
  have hnb : ∀ x c, Owns G st x c → x ≠ (true, a) → c ≠ b := fun x c h hx e => hx (hm.dis x (true, a) b (e ▸ h) hb_own)
  refine ⟨G', ?_, ?_, by simp [RelV, RelL, G', hd]⟩
  · refine { sl := ?_, sh := ?_, ob := ?_, ar := ?_, ah := ?_, nd := ?_, dis := ?_, dS := ?_, inn := ?_, s0 := hm.s0, sn := hm.sn, fr := ?_, sz := ?_, os := hos.trans hm.os, tp := htp.trans hm.tp, out := hout.trans hm.out, pin := fun o p h => (by obtain ⟨⟨l, h1⟩, h2⟩ := hm.pin o p h; exact ⟨⟨l, by rw [hk.obj]; exact h1⟩, h2⟩), bv := fun o j u h => (by obtain ⟨h1, ⟨l, h2, h3⟩, arr0, elem0, h4, h5⟩ := hm.bv o j u h; exact ⟨by rw [hk.bl]; exact h1, ⟨l, by rw [hk.obj]; exact h2, h3⟩, arr0, elem0, by rw [hwo _ (hnb (false, o) _ ⟨⟨l, h2⟩, rfl⟩ (by simp))]; exact h4, h5⟩) }
    · intro q
      by_cases e : q = dst
      · exact .inl ⟨some ⟨b, 0, none⟩, A'.l.length, cap', by simp [G', e, hd]⟩
      · have := hm.sl q; simpa [G', e] using this
    · intro c o hc
      have : c ≠ b := fun e => by have := hm.dS _ _ hb_own; rw [← e] at this; rw [show G'.S = G.S from rfl, this] at hc; cases hc
      rw [hwo c this]; exact hm.sh c o hc
    · intro o ls ho
      rw [hk.obj] at ho
      obtain ⟨arr0, elem0, mid, g1, g2, g3⟩ := hm.ob o ls ho
      have hne : G.φ o ≠ b := hnb (false, o) _ ⟨⟨ls, ho⟩, rfl⟩ (by simp)
      refine ⟨arr0, elem0, mid, by rw [hwo _ hne]; exact g1, g2, ?_⟩
      unfold LeavesRel at g3 ⊢
      rw [resl_congr (st := st) (fun j l => hk.res o j l)]
      refine g3.impMem fun l v hl hr => hrel l v (fun hne => ?_) hr
      have := ment_obj (hmd hne) ho 0
      have := List.any_eq_false.1 this l hl
      simpa using this
    · intro q B hB
      rw [harr] at hB
      by_cases e : q = dst
      · subst e
        simp only [if_true, Option.some.injEq] at hB
        subst hB
        refine (arrRel_own hs' how).2 ?_
        simpa [G', hd] using hown
      · simp only [e, if_false] at hB
        by_cases e2 : q = a
        · simp [e2] at hB
        · simp only [e2, if_false] at hB
          exact (hm.ar q B hB).mono (G := G) (a := q) (G' := G') (a' := q) (fun _ _ h => h) (by simp [G', e]) (by simp [G', e]) (fun _ _ _ => ⟨rfl, rfl, rfl⟩)
    · intro q B hB hBs p hp
      rw [harr] at hB
      by_cases e : q = dst
      · subst e
        simp only [G', if_true, List.mem_cons] at hp
        rcases hp with rfl | hp
        · exact hw
        · have hpa : p ∈ G.HA a := by rw [hHA]; simp [hp]
          have hne : p.1 ≠ b := fun e => by
            have hnd := hm.nd a A hA hs
            rw [hHA] at hnd
            simp only [List.map_cons, List.nodup_cons] at hnd
            exact hnd.1 (by rw [← e]; exact List.mem_map_of_mem hp)
          rw [hwo _ hne]; exact hm.ah a A hA hs p hpa
      · simp only [e, if_false] at hB
        by_cases e2 : q = a
        · simp [e2] at hB
        · simp only [e2, if_false] at hB
          simp only [G', e, if_false] at hp
          have hne : p.1 ≠ b := hnb (true, q) _ ⟨⟨B, hB, hBs⟩, p, hp, rfl⟩ (by simpa using e2)
          rw [hwo _ hne]; exact hm.ah q B hB hBs p hp
    · intro q B hB hBs
      rw [harr] at hB
      by_cases e : q = dst
      · subst e
        simp only [G', if_true]
        have := hm.nd a A hA hs
        rw [hHA] at this; simpa using this
      · simp only [e, if_false] at hB
        by_cases e2 : q = a
        · simp [e2] at hB
        · simp only [e2, if_false] at hB
          simp only [G', e, if_false]
          exact hm.nd q B hB hBs
    · intro x y c hx hy
      rcases hOwn x c hx with ⟨rfl, h1⟩ | ⟨h1, h2, h2'⟩ <;> rcases hOwn y c hy with ⟨rfl, h3⟩ | ⟨h3, h4, h4'⟩
      · rfl
      · exact absurd (hm.dis y (true, a) c h3 h1) h4
      · exact absurd (hm.dis x (true, a) c h1 h3) h2
      · exact hm.dis x y c h1 h3
    · intro x c hx
      rcases hOwn x c hx with ⟨rfl, h1⟩ | ⟨h1, _⟩
      · exact hm.dS _ c h1
      · exact hm.dS x c h1
    · intro x c hx
      rcases hOwn x c hx with ⟨rfl, h1⟩ | ⟨h1, _⟩
      · exact hm.inn _ c h1
      · exact hm.inn x c h1
    · intro c hc hn
      have : c ≠ b := fun e => by
        rcases hm.inn _ _ hb_own with h | h
        · exact hn (e ▸ h)
        · omega
      rw [hwo c this]; exact hm.fr c hc hn
    · rw [hsz]; exact hm.sz
  · intro act r
    refine ⟨r.1, r.2.1.trans hk.n.symm, fun i v hv => ?_⟩
    rw [hk.reg] at hv
    exact hrelV v _ (fun hne => ment_reg (hmd hne) hv) (r.2.2 i v hv)

/-! ### Cells are written -/
theorem heap_setCell (w : World) (b o : Nat) (v : Value) {arr : Array Value} {elem : TypeId} {fz : Nat × Nat} (h : w.heap[b]? = some (.cells arr elem fz)) :
    (w.setCell ⟨b, o, none⟩ v).heap[b]? = some (.cells (arr.setIfInBounds o v) elem fz) := by
  simp [World.setCell, Array.getElem?_modify, h]
theorem heap_setCell_ne (w : World) (b o k : Nat) (v : Value) (h : k ≠ b) : (w.setCell ⟨b, o, none⟩ v).heap[k]? = w.heap[k]? := by
  simp only [World.setCell, Array.getElem?_modify]
  rw [if_neg (by omega)]

theorem heap_setCells (b : Nat) : ∀ (vs : List Value) (o : Nat) (w : World) {arr : Array Value} {elem : TypeId} {fz : Nat × Nat}, w.heap[b]? = some (.cells arr elem fz) → o + vs.length ≤ arr.size →
    ∃ arr', (w.setCells b o vs).heap[b]? = some (.cells arr' elem fz) ∧ arr'.toList = arr.toList.take o ++ (vs ++ arr.toList.drop (o + vs.length)) ∧ (∀ k, k ≠ b → (w.setCells b o vs).heap[k]? = w.heap[k]?) ∧
      (w.setCells b o vs).heap.size = w.heap.size ∧ (w.setCells b o vs).os = w.os ∧ (w.setCells b o vs).tape = w.tape ∧ (w.setCells b o vs).output = w.output
  | [], o, w, arr, elem, fz, h, hl => ⟨arr, h, by simp, fun _ _ => rfl, rfl, rfl, rfl, rfl⟩
  | v :: vs, o, w, arr, elem, fz, h, hl => by
    simp only [List.length_cons] at hl
    obtain ⟨arr', h1, h2, h3, h4, h5, h6, h7⟩ := heap_setCells b vs (o + 1) (w.setCell ⟨b, o, none⟩ v) (heap_setCell w b o v h) (by simp; omega)
    refine ⟨arr', h1, ?_, fun k hk => (h3 k hk).trans (heap_setCell_ne w b o k v hk), h4.trans (by simp [World.setCell]), h5, h6, h7⟩
    rw [h2, Array.toList_setIfInBounds]
    have hlen : o < arr.toList.length := by simp; omega
    have e1 : (arr.toList.set o v).take (o + 1) = arr.toList.take o ++ [v] := by
      rw [List.take_succ_eq_append_getElem (by simpa using hlen)]; simp [List.take_set_of_le]
    have e2 : (arr.toList.set o v).drop (o + 1 + vs.length) = arr.toList.drop (o + (vs.length + 1)) := by
      rw [List.drop_set_of_lt (by omega)]; congr 1; omega
    rw [e1, e2]; simp

theorem there_of {w : World} {b : Nat} {arr : Array Value} {elem : TypeId} (h : w.heap[b]? = some (.cells arr elem (0, 0))) {o n : Nat} (hn : o + n ≤ arr.size) : w.there b o n := by
  intro j hj
  have : (arr[o + j]?).isSome = true := by simp; omega
  exact ⟨by simp [World.cell?, h]; omega, by simp [World.frozen?, h]⟩

end Go.Fx

/- The framework, eleventh text: stores, variables, slices that are made, appends. -/
namespace Go.Fx
set_option linter.unusedVariables false
set_option linter.unusedSimpArgs false

theorem cell_nobas {ls : List Leaf} (h : ls.all Leaf.cell = true) : ls.any Leaf.isBas = false := by
  rw [List.any_eq_false]
  intro l hl
  have := List.all_eq_true.1 h l hl
  cases l <;> simp_all [Leaf.cell, Leaf.isBas]

theorem resl_take (st : St) (o : Nat) : ∀ (n j : Nat) (ls : List Leaf), st.resl o j (ls.take n) = (st.resl o j ls).take n
  | 0, _, _ => by simp [St.resl]
  | n + 1, _, [] => by simp [St.resl]
  | n + 1, j, l :: ls => by simp [St.resl, resl_take st o n (j + 1) ls]
theorem resl_drop (st : St) (o : Nat) : ∀ (n j : Nat) (ls : List Leaf), st.resl o (j + n) (ls.drop n) = (st.resl o j ls).drop n
  | 0, _, _ => by simp
  | n + 1, _, [] => by simp [St.resl]
  | n + 1, j, l :: ls => by
    simp only [List.drop_succ_cons, St.resl]
    rw [← resl_drop st o n (j + 1) ls, show j + (n + 1) = j + 1 + n by omega]
theorem resl_place (st : St) (o off : Nat) (ls nl : List Leaf) (hn : nl.any Leaf.isBas = false) (hl : off + nl.length ≤ ls.length) :
    st.resl o 0 (place ls off nl) = place (st.resl o 0 ls) off nl := by
  unfold place
  have e := resl_drop st o (off + nl.length) 0 ls
  rw [Nat.zero_add] at e
  rw [resl_append, resl_append, resl_take, resl_nobas st o _ nl hn, List.length_take, Nat.min_eq_left (by omega), Nat.zero_add, e]

theorem RelM.storeObj {X : Ctx} {st : St} {G : Gh} {w w' : World} (hm : RelM X st G w) {o off : Nat} {ls nl : List Leaf} {vs : List Value} (ho : st.obj o = some ls) (hn : nl.any Leaf.isBas = false) (hl : off + nl.length ≤ ls.length) (hcb : ((ls.drop off).take nl.length).any Leaf.isBas = false)
    (hv : All2 (RelL G) nl vs) {arr arr' : Array Value} {elem : TypeId} {mid : List Value} (g1 : w.heap[G.φ o]? = some (.cells arr elem (0, 0))) (g2 : arr.toList = G.pre o ++ (mid ++ G.post o)) (g3 : LeavesRel G st o 0 ls mid)
    (hw : w'.heap[G.φ o]? = some (.cells arr' elem (0, 0))) (harr' : arr'.toList = G.pre o ++ ((mid.take off ++ (vs ++ mid.drop (off + vs.length))) ++ G.post o))
    (hwo : ∀ k, k ≠ G.φ o → w'.heap[k]? = w.heap[k]?) (hsz : w'.heap.size = w.heap.size) (hos : w'.os = w.os) (htp : w'.tape = w.tape) (hout : w'.output = w.output) :
    RelM X (st.setObj o (place ls off nl)) G w' := by
  have hown : Owns G st (false, o) (G.φ o) := ⟨⟨ls, ho⟩, rfl⟩
  have hOwn : ∀ x c, Owns G (st.setObj o (place ls off nl)) x c → Owns G st x c := fun x c hx => by
    obtain ⟨k, n⟩ := x
    cases k with
    | true => exact hx
    | false =>
      obtain ⟨⟨l, h⟩, rfl⟩ := hx
      rw [obj_setObj] at h
      by_cases e : o = n
      · subst e; exact hown
      · simp only [e, if_false] at h; exact ⟨⟨l, h⟩, rfl⟩
  have hnb : ∀ x c, Owns G st x c → x ≠ (false, o) → c ≠ G.φ o := fun x c h hx e => hx (hm.dis x (false, o) _ (e ▸ h) hown)
  refine { sl := hm.sl, sh := ?_, ob := ?_, ar := hm.ar, ah := ?_, nd := hm.nd, dis := fun x y b hx hy => hm.dis x y b (hOwn x b hx) (hOwn y b hy), dS := fun x b hx => hm.dS x b (hOwn x b hx), inn := fun x b hx => hm.inn x b (hOwn x b hx), s0 := hm.s0, sn := hm.sn, fr := ?_, sz := by rw [hsz]; exact hm.sz, os := hos.trans hm.os, tp := htp.trans hm.tp, out := hout.trans hm.out, pin := fun q p h => (by obtain ⟨⟨l, h1⟩, h2⟩ := hm.pin q p h; refine ⟨?_, h2⟩; rw [obj_setObj]; by_cases e : o = q <;> simp [e, h1]), bv := ?_ }
  · intro c ob hc
    have : c ≠ G.φ o := fun e => by have := hm.dS _ _ hown; rw [← e, hc] at this; cases this
    rw [hwo c this]; exact hm.sh c ob hc
  · intro q l hq
    rw [obj_setObj] at hq
    by_cases e : o = q
    · subst e
      simp only [if_true, Option.some.injEq] at hq
      subst hq
      refine ⟨arr', elem, _, hw, harr', ?_⟩
      unfold LeavesRel at g3 ⊢
      rw [resl_congr (st := st) (fun j l => by simp), resl_place st o off ls nl hn hl]
      unfold place
      rw [hv.length]
      exact (g3.take off).append (hv.append (g3.drop _))
    · simp only [e, if_false] at hq
      obtain ⟨arr0, elem0, mid0, k1, k2, k3⟩ := hm.ob q l hq
      have hne : G.φ q ≠ G.φ o := hnb (false, q) _ ⟨⟨l, hq⟩, rfl⟩ (by simpa using fun h => e h.symm)
      refine ⟨arr0, elem0, mid0, by rw [hwo _ hne]; exact k1, k2, ?_⟩
      unfold LeavesRel at k3 ⊢
      rw [resl_congr (st := st) (fun j l => by simp)]
      exact k3
  · intro a A hA hs p hp
    have hne : p.1 ≠ G.φ o := hnb (true, a) _ ⟨⟨A, hA, hs⟩, p, hp, rfl⟩ (by simp)
    rw [hwo _ hne]; exact hm.ah a A hA hs p hp
  · intro c hc hn
    have : c ≠ G.φ o := fun e => by
      rcases hm.inn _ _ hown with h | h
      · exact hn (e ▸ h)
      · rw [← e] at h; omega
    rw [hwo c this]; exact hm.fr c hc hn
  · intro q j u h
    obtain ⟨h1, ⟨l, h2, h3⟩, arr0, elem0, h4, h5⟩ := hm.bv q j u h
    by_cases e : o = q
    · subst e
      rw [ho] at h2
      cases h2
      rw [g1] at h4
      cases h4
      have hml : mid.length = ls.length := by have := All2.length g3; rw [resl_length] at this; exact this.symm
      have hj : j < ls.length := (List.getElem?_eq_some_iff.1 h3).1
      have hvl := hv.length
      have hout : j < off ∨ off + nl.length ≤ j := by
        rcases Nat.lt_or_ge j off with h' | h'
        · exact .inl h'
        · refine .inr (Nat.le_of_not_lt fun h'' => ?_)
          have hmem : ((ls.drop off).take nl.length)[j - off]? = some .bas := by
            rw [List.getElem?_take_of_lt (by omega), List.getElem?_drop, show off + (j - off) = j by omega]; exact h3
          have := List.any_eq_false.1 hcb _ (List.mem_of_getElem? hmem)
          exact this rfl
      have key : ∀ {α : Type} (x y : List α) (ys : List α), x.length = ls.length → ys.length = nl.length → (x.take off ++ (ys ++ x.drop (off + ys.length)))[j]? = x[j]? := fun x y ys hx hy => by
        rcases hout with h' | h'
        · rw [List.getElem?_append_left (by simp; omega), List.getElem?_take_of_lt h']
        · rw [List.getElem?_append_right (by simp; omega), List.getElem?_append_right (by simp; omega), List.getElem?_drop]
          congr 1; simp; omega
      refine ⟨h1, ⟨place ls off nl, by rw [obj_setObj, if_pos rfl], by unfold place; rw [key ls ls nl rfl rfl]; exact h3⟩, arr', elem, hw, ?_⟩
      rw [harr', List.getElem?_append_right (by omega), Nat.add_sub_cancel_left]
      rw [g2, List.getElem?_append_right (by omega), Nat.add_sub_cancel_left] at h5
      have hlen2 : (mid.take off ++ (vs ++ mid.drop (off + vs.length))).length = mid.length := by simp; omega
      rw [List.getElem?_append_left (by omega)] at h5
      rw [List.getElem?_append_left (by omega), key mid mid vs hml (by omega)]; exact h5
    · have hne : G.φ q ≠ G.φ o := hnb (false, q) _ ⟨⟨l, h2⟩, rfl⟩ (by simpa using fun h => e h.symm)
      exact ⟨h1, ⟨l, by rw [obj_setObj, if_neg e]; exact h2, h3⟩, arr0, elem0, by rw [hwo _ hne]; exact h4, h5⟩

theorem splice_mid {α : Type} (pre mid post vs : List α) (off n : Nat) (h : off + n ≤ mid.length) :
    (pre ++ (mid ++ post)).take (pre.length + off) ++ (vs ++ (pre ++ (mid ++ post)).drop (pre.length + off + n)) = pre ++ ((mid.take off ++ (vs ++ mid.drop (off + n))) ++ post) := by
  rw [Nat.add_assoc, List.take_length_add_append, List.drop_length_add_append, List.take_append_of_le_length (by omega), List.drop_append_of_le_length h]
  simp

theorem cells_one {X : Ctx} {st : St} {G : Gh} {w : World} (hm : RelM X st G w) : ∀ {ls : List Leaf} {vs : List Value}, ls.all Leaf.cell = true → All2 (RelL G) ls vs → ∀ v ∈ vs, v.oneCell' = true
  | [], [], _, _, v, hv => by cases hv
  | l :: ls, u :: vs, h, a, v, hv => by
    simp only [List.all_cons, Bool.and_eq_true] at h
    rcases List.mem_cons.1 hv with rfl | hv
    · exact (cell_val hm h.1 a.1).1
    · exact cells_one hm h.2 a.2 v hv
  | [], _ :: _, _, h, _, _ => h.elim
  | _ :: _, [], _, h, _, _ => h.elim

theorem run_storeAt {P : Program} {w : World} {t : TypeId} {ti : TI} (hT : TIok P t ti) {b o : Nat} {v : Value} (hl : v.cells.size = ti.size) (ht : w.there b o v.cells.size) (h1 : ∀ u ∈ v.cells.toList, u.oneCell' = true) :
    (Instr.storeAt t (.pointer (some ⟨b, o, none⟩)) v).run P w = .ok () (w.setCells b o v.cells.toList) := by
  obtain ⟨i, d, z, h1', h2, h3, _⟩ := hT
  have := run_storeAt_mid (P := P) w b o t v.cells ht (by rw [h1']; simp [h3, hl]) (Array.all_eq_true_iff_forall_mem.2 fun u hu => h1 u (by simpa using hu))
  exact this

section ops
variable {P : Program} {E : Env} (hE : TabOk P E.tab) {X : Ctx} {st : St} {G : Gh} {w : World} {R : Type} {r : R}
include hE

theorem opStore_ok {T : TypeId} {x v : AVal} {vx vv : Value} {K : St → Option R} (h : opStore E T x v st K = some r) (hm : RelM X st G w) (hx : RelV G x vx) (hv : RelV G v vv) :
    ∃ st' G' w', (Instr.storeAt T vx vv).run P w = .ok () w' ∧ RelM X st' G' w' ∧ (∀ act, RelR G st act → RelR G' st' act) ∧ K st' = some r := by
  unfold opStore at h
  cases hT : E.tab T with
  | none => simp [hT] at h
  | some ti =>
    cases hl : v.leaves with
    | none => simp [hT, hl] at h
    | some vs =>
      simp only [hT, hl] at h
      cases hc : (Nat.beq vs.length ti.size && vs.all Leaf.cell) with
      | false => simp [hc] at h
      | true =>
        simp only [hc, cond_true] at h
        simp only [Bool.and_eq_true] at hc
        have hlen : vs.length = ti.size := Nat.eq_of_beq_eq_true hc.1
        have hal := leaves_ok hm hl hv
        have hone := cells_one hm hc.2 hal
        have hcs : vv.cells.size = ti.size := by rw [← hlen, hal.length]; simp
        have hti := hE T ti hT
        cases x with
        | agg ls => simp [AVal.leaf] at h
        | tup ls => simp [AVal.leaf] at h
        | ifc t ls => simp [AVal.leaf] at h
        | one l =>
          simp only [AVal.leaf] at h
          cases l with
          | ptr o off =>
            simp only at h
            cases ho : st.obj o with
            | none => simp [ho] at h
            | some ls =>
              simp only [ho] at h
              cases hs : slots ls off ti.size with
              | none => simp [hs] at h
              | some c =>
                simp only [hs] at h
                cases hb : c.any Leaf.isBas with
                | true => simp [hb] at h
                | false =>
                  simp only [hb, cond_false] at h
                  have hle : off + ti.size ≤ ls.length := by
                    unfold slots at hs
                    cases hq : Nat.ble (off + ti.size) ls.length with
                    | false => simp [hq] at hs
                    | true => exact Nat.le_of_ble_eq_true hq
                  obtain ⟨arr, elem, mid, g1, g2, g3⟩ := hm.ob o ls ho
                  have hml : mid.length = ls.length := by have := All2.length g3; rw [resl_length] at this; exact this.symm
                  have harrsz : arr.size = (G.pre o).length + (mid.length + (G.post o).length) := by rw [← Array.length_toList, g2]; simp
                  have hx' : vx = .pointer (some ⟨G.φ o, (G.pre o).length + off, none⟩) := hx
                  have hfit : (G.pre o).length + off + vv.cells.size ≤ arr.size := by omega
                  obtain ⟨arr', k1, k2, k3, k4, k5, k6, k7⟩ := heap_setCells (G.φ o) vv.cells.toList ((G.pre o).length + off) w g1 (by simpa using hfit)
                  refine ⟨st.setObj o (place ls off vs), G, _, by rw [hx']; exact run_storeAt hti hcs (there_of g1 hfit) hone, ?_, fun act ha => ⟨ha.1, ha.2.1, ha.2.2⟩, h⟩
                  refine hm.storeObj ho (cell_nobas hc.2) (by omega) (by rw [hlen]; unfold slots at hs; cases hq : Nat.ble (off + ti.size) ls.length <;> simp [hq] at hs; rw [hs]; exact hb) hal g1 g2 g3 k1 ?_ k3 k4 k5 k6 k7
                  have hlv : vv.cells.toList.length = ti.size := by simpa using hcs
                  rw [k2, g2, hlv]
                  exact splice_mid _ _ _ _ _ _ (by omega)
          | elt a sz i off =>
            simp only at h
            cases hsh : st.shareL vs with
            | none => simp [hsh] at h
            | some st1 =>
              simp only [hsh] at h
              obtain ⟨G1, hm1, hsub, hkept⟩ := shareL_ok hsh hm
              cases hA : look st1.arrs a with
              | none => simp [hA] at h
              | some A =>
                simp only [hA] at h
                cases hb : (A.deep || A.sh || !Nat.beq sz A.t.size) with
                | true => simp [hb] at h
                | false =>
                  simp only [hb, cond_false] at h
                  simp only [Bool.or_eq_false_iff, Bool.not_eq_false'] at hb
                  obtain ⟨⟨hd, hAs⟩, hsz⟩ := hb
                  have hsz : sz = A.t.size := Nat.eq_of_beq_eq_true hsz
                  obtain ⟨d, hd1, h⟩ := Option.bind_eq_some_iff.1 h
                  cases hle : Nat.ble (off + ti.size) A.t.size with
                  | false => simp [hle] at h
                  | true =>
                    simp only [hle, cond_true] at h
                    have hle := Nat.le_of_ble_eq_true hle
                    cases him : implode st1 A.t (place (explode A.t d) off vs) with
                    | none => simp [him] at h
                    | some p =>
                      obtain ⟨x', r'⟩ := p
                      cases r' with
                      | cons => simp [him] at h
                      | nil =>
                        simp only [him] at h
                        have harrA : st1.arr a = some A := by simp [St.arr, hA]
                        obtain ⟨b, len, cap0, q1, q2, rfl⟩ : RelL G1 (.elt a sz i off) vx := RelL.sub hsub hx
                        have har := hm1.ar a A harrA
                        replace har := (arrRel_own hAs (flat_own hd)).1 har
                        rw [hd] at har
                        have hi : A.l[i]? = some d := by simpa [idx] using hd1
                        rcases har with ⟨e1, e2, e3⟩ | ⟨b', cap, arr, elem, cells, rest, H', e1, e2, e3, e4, e5, e6⟩
                        · rw [e1] at hi; simp at hi
                        · simp only [List.cons.injEq, and_true] at e1
                          rw [e1] at q1
                          cases q1
                          have hblk := hm1.ah a A harrA hAs (b, Obj.cells arr elem (0, 0)) (by rw [e2]; simp)
                          obtain ⟨pre, cc, post, Hp, Hc, Hq, k1, k2, k3, k4, k5⟩ := RepL.at (fun c x H hr => Rep.size hr) e6 hi
                          have hHc := Rep.noHeap k4
                          rw [hHc] at k4 k3
                          have hal1 : All2 (RelL G1) vs vv.cells.toList := hal.imp fun _ _ => RelL.sub hsub
                          have hccl : cc.length = A.t.size := Rep.size k4
                          have hnew : All2 (RelL G1) (place (explode A.t d) off vs) (place cc off vv.cells.toList) := by
                            unfold place
                            rw [hal1.length]
                            exact ((explode_ok k4).take off).append (hal1.append ((explode_ok k4).drop _))
                          obtain ⟨c1, c2, f1, f2, f3⟩ := implode_ok hm1 him hnew
                          cases c2 with
                          | cons => exact f3.elim
                          | nil =>
                            rw [List.append_nil] at f1
                            have hpl : place cc off vv.cells.toList = cc.take off ++ (vv.cells.toList ++ cc.drop (off + vv.cells.toList.length)) := rfl
                            have hlv : vv.cells.toList.length = ti.size := by simpa using hcs
                            have harrsz : arr.size = pre.length + (cc.length + (post.length + rest.length)) := by rw [← Array.length_toList, e3, k1]; simp
                            have hfit : i * sz + off + vv.cells.size ≤ arr.size := by rw [hsz, ← k2]; omega
                            obtain ⟨arr', g1, g2, g3, g4, g5, g6, g7⟩ := heap_setCells b vv.cells.toList (i * sz + off) w hblk (by simpa using hfit)
                            have hrl := k5 c1 x' [] f2
                            have hcells : arr'.toList = (pre ++ (c1 ++ post)) ++ rest := by
                              rw [g2, e3, k1, ← f1, hpl, hsz, ← k2, hlv]
                              have := splice_mid pre cc (post ++ rest) vv.cells.toList off ti.size (by omega)
                              simpa using this
                            have hsz' : arr'.size = arr.size := by
                              rw [← Array.length_toList, hcells, harrsz]
                              have hc1 : c1.length = cc.length := by rw [Rep.size f2, hccl]
                              simp; omega
                            obtain ⟨G2, m2, r2, _⟩ := hm1.reArr (st' := st1.setArr a { A with l := A.l.set i x' }) (a := a) (dst := a) (A := A) (A' := { A with l := A.l.set i x' }) harrA hAs hAs (show A.own = true from flat_own hd) e1 e2 (cap' := cap0) (arr' := arr') (elem := elem)
                              (.inr ⟨b, cap0, arr', elem, pre ++ (c1 ++ post), rest, H', by simp, rfl, hcells, by rw [hsz']; exact e4, by simpa using e5, by
                                rw [k3, show ({ A with l := A.l.set i x' } : Arr).deep = false from hd]; simpa using hrl⟩)
                              g1 g3 g4 g5 g6 g7 ⟨rfl, fun _ => rfl, fun _ => rfl, fun o j l => by simp, rfl⟩ (fun q => by rw [arr_setArr]; by_cases e : q = a <;> simp [e, eq_comm (a := a)])
                              (.inl ⟨rfl, by simp [e1]⟩)
                            exact ⟨_, G2, _, run_storeAt hti hcs (there_of hblk hfit) hone, m2, fun act ra => r2 act (ra.sub hsub hkept.n hkept.reg), h⟩
          | _ => simp at h
end ops
end Go.Fx

/- The framework, twelfth text: variables, slices that are written out or made. -/
namespace Go.Fx
set_option linter.unusedVariables false
set_option linter.unusedSimpArgs false

theorem dat_cells {G : Gh} {t : Ty} {d : t.den} {v : Value} (r : RelL G (.dat t d) v) : Rep G.S false t v.cells.toList d [] := by
  obtain ⟨cs, e, hr⟩ := r
  cases ht : t.agg with
  | true => simp only [ht, if_true] at e; subst e; exact hr
  | false =>
    simp only [ht, Bool.false_eq_true, if_false] at e
    subst e
    have : v.cells = #[v] := by
      cases t with
      | int k => cases hr.1; rfl
      | bool => cases hr.1; rfl
      | str => cases hr.1; rfl
      | slice t => rcases hr with ⟨_, ⟨_, base, cap, h⟩ | ⟨b, cap, arr, elem, fz, pre, cells, rest, h, _⟩⟩ <;> cases h <;> rfl
      | pair a b => cases ht
      | one a => cases ht
      | arr n a => cases ht
    rw [this]; exact hr

theorem fill_row (sz : Nat) : ∀ (vs : List (Nat × Value)) (k : Nat) (cs : List Value), (∀ j p, vs[j]? = some p → p.1 = k + j ∧ p.2.cells.size = sz) → (k + vs.length) * sz ≤ cs.length →
    Instr.fill (fun i => some (i * sz, sz)) cs.toArray vs = some (cs.take (k * sz) ++ ((vs.map fun p => p.2.cells.toList).flatten ++ cs.drop ((k + vs.length) * sz))).toArray
  | [], k, cs, h, hl => by simp [Instr.fill]
  | (i, v) :: vs, k, cs, h, hl => by
    obtain ⟨h1, h2⟩ := h 0 (i, v) rfl
    simp only [Nat.add_zero] at h1 h2
    subst h1
    simp only [List.length_cons] at hl
    have hk : i * sz + sz ≤ cs.length := by
      have : (i + 1) * sz ≤ (i + (vs.length + 1)) * sz := Nat.mul_le_mul_right _ (by omega)
      rw [Nat.add_mul, Nat.one_mul] at this; omega
    have hvl : v.cells.toList.length = sz := by simpa using h2
    have hstep : Instr.fill (fun i => some (i * sz, sz)) cs.toArray ((i, v) :: vs) = Instr.fill (fun i => some (i * sz, sz)) (cs.take (i * sz) ++ (v.cells.toList ++ cs.drop (i * sz + v.cells.toList.length))).toArray vs := by
      conv => lhs; unfold Instr.fill
      simp only
      rw [if_neg (by simp [h2]; omega), fold_place v.cells cs (i * sz) (by rw [h2]; exact hk)]
    rw [hstep, fill_row sz vs (i + 1) _ (fun j p hp => by
      obtain ⟨g1, g2⟩ := h (j + 1) p (by simpa using hp)
      exact ⟨by omega, g2⟩) (by
        have e : (i + 1 + vs.length) * sz = (i + (vs.length + 1)) * sz := by congr 1; omega
        rw [e]; simp [hvl]; omega)]
    congr 1
    have e : (i + 1 + vs.length) * sz = (i + (vs.length + 1)) * sz := by congr 1; omega
    have t1 : (cs.take (i * sz) ++ (v.cells.toList ++ cs.drop (i * sz + v.cells.toList.length))).take ((i + 1) * sz) = cs.take (i * sz) ++ v.cells.toList := by
      rw [← List.append_assoc, List.take_append_of_le_length (by simp [hvl, Nat.add_mul]; omega), List.take_of_length_le (by simp [hvl, Nat.add_mul]; omega)]
    have hge : (i + 1) * sz ≤ (i + (vs.length + 1)) * sz := Nat.mul_le_mul_right _ (by omega)
    have t2 : (cs.take (i * sz) ++ (v.cells.toList ++ cs.drop (i * sz + v.cells.toList.length))).drop ((i + (vs.length + 1)) * sz) = cs.drop ((i + (vs.length + 1)) * sz) := by
      rw [← List.append_assoc, List.drop_append, List.drop_drop]
      rw [List.drop_of_length_le (by simp [hvl, Nat.add_mul] at hge ⊢; omega)]
      simp only [List.nil_append]
      congr 1
      simp [hvl, Nat.add_mul] at hge ⊢; omega
    rw [e, t1, t2]
    simp

section ops
variable {P : Program} {E : Env} (hE : TabOk P E.tab) {X : Ctx} {w : World} {R : Type} {r : R}

theorem sliceParts_ok {t : Ty} : ∀ {parts : List (Nat × AVal)} {vs : List (Nat × Value)} {k : Nat} {st st' : St} {G : Gh} {l : List t.den}, sliceParts t k parts st = some (l, st') → RelM X st G w →
    All2 (fun (p : Nat × AVal) (q : Nat × Value) => p.1 = q.1 ∧ RelV G p.2 q.2) parts vs →
    ∃ G', RelM X st' G' w ∧ G.Sub G' ∧ Kept st st' ∧ RepL (Rep G'.S false t) (vs.map fun p => p.2.cells.toList).flatten l [] ∧ l.length = vs.length ∧ (∀ j p, vs[j]? = some p → p.1 = k + j ∧ p.2.cells.size = t.size)
  | [], [], k, st, st', G, l, h, hm, hp => by
    simp only [sliceParts, Option.some.injEq, Prod.mk.injEq] at h
    obtain ⟨rfl, rfl⟩ := h
    exact ⟨G, hm, .refl G, .refl _, ⟨rfl, rfl⟩, rfl, by simp⟩
  | (j, v) :: parts, (j', u) :: vs, k, st, st', G, l, h, hm, hp => by
    obtain ⟨⟨e, hv⟩, hp⟩ := hp
    simp only at e hv; subst e
    simp only [sliceParts] at h
    cases hk : Nat.beq k j with
    | false => simp [hk] at h
    | true =>
      simp only [hk, cond_true] at h
      have hk := Nat.eq_of_beq_eq_true hk
      subst hk
      cases h1 : v.shared st with
      | none => simp [h1] at h
      | some st1 =>
        simp only [h1] at h
        obtain ⟨G1, m1, s1, k1⟩ := shared_ok h1 hm
        cases h2 : v.get st1 t with
        | none => simp [h2] at h
        | some d =>
          simp only [h2] at h
          cases h3 : sliceParts t (k + 1) parts st1 with
          | none => simp [h3] at h
          | some p =>
            obtain ⟨l', st2⟩ := p
            simp only [h3, Option.some.injEq, Prod.mk.injEq] at h
            obtain ⟨rfl, rfl⟩ := h
            have hd := dat_cells (avget_ok m1 h2 (hv.sub s1))
            obtain ⟨G2, m2, s2, k2, r2, l2, z2⟩ := sliceParts_ok h3 m1 (hp.imp fun p q hpq => ⟨hpq.1, hpq.2.sub s1⟩)
            refine ⟨G2, m2, s1.trans s2, k1.trans k2, ⟨_, _, [], [], by simp only [List.map_cons, List.flatten_cons], rfl, hd.mono s2.S, r2⟩, by simp [l2], ?_⟩
            intro i q hq
            cases i with
            | zero =>
              simp only [List.getElem?_cons_zero, Option.some.injEq] at hq
              subst hq
              exact ⟨rfl, by have := Rep.size hd; simpa using this⟩
            | succ i =>
              obtain ⟨g1, g2⟩ := z2 i q (by simpa using hq)
              exact ⟨by omega, g2⟩
  | [], _ :: _, _, _, _, _, _, _, _, hp => hp.elim
  | _ :: _, [], _, _, _, _, _, _, _, hp => hp.elim

theorem opNew_ok {st : St} {G : Gh} {T : TypeId} {o : Nat} {ls : List Leaf} {cs : Array Value} {K : AVal → St → Option R} (h : opNew E T o ls st K = some r) (hm : RelM X st G w) (hl : All2 (RelL G) ls cs.toList) :
    ∃ av st' G', RelM X st' G' (w.alloc (.cells cs T)) ∧ (∀ act, RelR G st act → RelR G' st' act) ∧ RelV G' av (.pointer (some ⟨w.heap.size, 0, none⟩)) ∧ K av st' = some r := by
  unfold opNew at h
  cases hT : E.tab T with
  | none => simp [hT] at h
  | some ti =>
    cases ho : st.obj o with
    | some l => simp [hT, ho] at h
    | none =>
      simp only [hT, ho] at h
      cases hc : (Nat.beq ls.length ti.size && !ls.any Leaf.isBas && !st.ment false o && !ls.any (Leaf.ment false o)) with
      | false => simp [hc] at h
      | true =>
        simp only [hc, cond_true] at h
        simp only [Bool.and_eq_true, Bool.not_eq_true'] at hc
        obtain ⟨⟨⟨_, h2⟩, h3⟩, h4⟩ := hc
        obtain ⟨G', m, hle, hv⟩ := hm.newObj (elem := T) ho h3 h2 h4 hl
        exact ⟨_, _, G', m, fun act ra => ra.le hle rfl (fun _ => rfl) h3, hv, h⟩

include hE
theorem opBuildSlice_ok {st : St} {G : Gh} {T : TypeId} {dst len : Nat} {parts : List (Nat × AVal)} {vs : List (Nat × Value)} {K : AVal → St → Option R} (h : opBuildSlice E T dst len parts st K = some r) (hm : RelM X st G w)
    (hp : All2 (fun (p : Nat × AVal) (q : Nat × Value) => p.1 = q.1 ∧ RelV G p.2 q.2) parts vs) :
    ∃ av v st' G' w', (Instr.buildSlice T len vs.toArray).run P w = .ok v w' ∧ RelM X st' G' w' ∧ (∀ act, RelR G st act → RelR G' st' act) ∧ RelV G' av v ∧ K av st' = some r := by
  unfold opBuildSlice at h
  split at h
  · rename_i s b y e z hT
    cases hei : E.tab e with
    | none => simp [hei] at h
    | some ei =>
      simp only [hei] at h
      cases hy : ei.ty with
      | none => simp [hy] at h
      | some t =>
        simp only [hy] at h
        cases hc : (Nat.beq len parts.length && Nat.beq ei.size t.size && Nat.ble (len * ei.size) 16777216) with
        | false => simp [hc] at h
        | true =>
          simp only [hc, cond_true] at h
          simp only [Bool.and_eq_true] at hc
          obtain ⟨⟨hc1, hc2⟩, hc3⟩ := hc
          have hc1 := Nat.eq_of_beq_eq_true hc1
          have hc2 := Nat.eq_of_beq_eq_true hc2
          have hc3 := Nat.le_of_ble_eq_true hc3
          cases hsp : sliceParts t 0 parts st with
          | none => simp [hsp] at h
          | some p =>
            obtain ⟨l, st1⟩ := p
            simp only [hsp] at h
            cases ha : st1.arr dst with
            | some A => simp [ha] at h
            | none =>
              simp only [ha] at h
              cases hmt : st1.ment true dst with
              | true => simp [hmt] at h
              | false =>
                simp only [hmt, cond_false] at h
                obtain ⟨G1, m1, s1, k1, r1, l1, z1⟩ := sliceParts_ok hsp hm hp
                have hlv : vs.length = len := by rw [hc1, hp.length]
                have hu := (hE T _ hT).slice
                obtain ⟨i, d, zz, i1, i2, i3, i4, i5, i6, i7, i8, i9, _⟩ := hE e ei hei
                have hcl : (vs.map fun p => p.2.cells.toList).flatten.length = len * t.size := by
                  rw [RepL.size (fun c x H hr => Rep.size hr) r1, l1, hlv]
                let zc : Array Value := if len * ei.size = 0 then #[] else zz.cells
                let init : List Value := ((Array.range (len * ei.size)).map (zc[· % zc.size]!)).toList
                have hil : init.length = len * ei.size := by simp [init]
                have hfill := fill_row ei.size vs 0 init (fun j p hp => by
                  obtain ⟨g1, g2⟩ := z1 j p hp; exact ⟨g1, by rw [g2, hc2]⟩) (by rw [Nat.zero_add, hlv, hil]; exact Nat.le_refl _)
                rw [Nat.zero_add, hlv, Nat.zero_mul, List.take_zero, List.nil_append, List.drop_of_length_le (by rw [hil]; exact Nat.le_refl _), List.append_nil] at hfill
                obtain ⟨G2, m2, hle2, hv2⟩ := m1.newArr (elem := e) (arr := (vs.map fun p => p.2.cells.toList).flatten.toArray) (cells := (vs.map fun p => p.2.cells.toList).flatten) (rest := []) (cap := len) ha hmt (by simp)
                  (by rw [List.size_toArray, hcl]; exact Nat.le_refl _) (by rw [l1, hlv]; exact Nat.le_refl _) r1
                refine ⟨_, _, _, G2, _, ?_, m2, fun act ra => (ra.sub s1 k1.n k1.reg).le hle2 rfl (fun _ => rfl) hmt, hv2, h⟩
                have h24 : ¬ (2 ^ 24 < len * i.size) := by rw [i3]; omega
                have hsz := (hE e ei hei).size w
                have hinit : (Array.range (len * ei.size)).map (zc[· % zc.size]!) = init.toArray := (Array.toArray_toList (xs := (Array.range (len * ei.size)).map (zc[· % zc.size]!))).symm
                by_cases h0 : len * ei.size = 0
                · have hzc : zc = #[] := by simp [zc, h0]
                  rw [hzc] at hinit
                  simp only [Instr.buildSlice, Sem.run_bind, run_underlying hu, Result.andThen_ok, hsz, Sem.run_ite, if_neg (show ¬ (len * ei.size > 2 ^ 24) by omega), h0, if_true, Sem.run_pure]
                  rw [h0] at hinit
                  rw [hinit]
                  simp only [hfill]
                  simp [newRow, l1, hlv]
                · have hzc : zc = zz.cells := by simp [zc, h0]
                  rw [hzc] at hinit
                  simp only [Instr.buildSlice, Sem.run_bind, run_underlying hu, Result.andThen_ok, hsz, Sem.run_ite, if_neg (show ¬ (len * ei.size > 2 ^ 24) by omega), h0, if_false, Sem.run_pure, zeroValue, typeInfo, run_program, i1, i5]
                  rw [hinit]
                  simp only [hfill]
                  simp [newRow, l1, hlv]
  · cases h
end ops
end Go.Fx

/- The framework, thirteenth text: slices that are made, appends, parts of slices, conversions, lengths. -/
namespace Go.Fx
set_option linter.unusedVariables false
set_option linter.unusedSimpArgs false

theorem RepL.one {α : Type} {R : List Value → α → Heap → Prop} (hR : ∀ c x H, R c x H → ∀ v ∈ c, v.oneCell' = true) : ∀ {cs : List Value} {l : List α} {H : Heap}, RepL R cs l H → ∀ v ∈ cs, v.oneCell' = true
  | _, [], _, h, v, hv => by rw [h.1] at hv; cases hv
  | _, _ :: _, _, ⟨c1, c2, H1, H2, e1, e2, r, rl⟩, v, hv => by
    rw [e1] at hv
    rcases List.mem_append.1 hv with hv | hv
    · exact hR _ _ _ r v hv
    · exact RepL.one hR rl v hv
theorem Rep.one {S : Mem} {m : Bool} : ∀ {t : Ty} {cs : List Value} {d : t.den} {H : Heap}, Rep S m t cs d H → ∀ v ∈ cs, v.oneCell' = true
  | .int k, cs, d, H, h, v, hv => by rw [h.1] at hv; simp at hv; subst hv; rfl
  | .bool, cs, d, H, h, v, hv => by rw [h.1] at hv; simp at hv; subst hv; rfl
  | .str, cs, d, H, h, v, hv => by rw [h.1] at hv; simp at hv; subst hv; rfl
  | .slice t, cs, l, H, h, v, hv => by
    simp only [Rep] at h
    split at h
    · rcases h with ⟨_, _, rfl⟩ | ⟨b, cap, arr, elem, cells, rest, H', rfl, _⟩ <;> (simp at hv; subst hv; rfl)
    · rcases h with ⟨_, ⟨_, base, cap, rfl⟩ | ⟨b, cap, arr, elem, fz, pre, cells, rest, rfl, _⟩⟩ <;> (simp at hv; subst hv; rfl)
  | .pair a b, cs, d, H, h, v, hv => by
    obtain ⟨c1, c2, H1, H2, rfl, rfl, h1, h2⟩ := h
    rcases List.mem_append.1 hv with hv | hv
    · exact Rep.one h1 v hv
    · exact Rep.one h2 v hv
  | .one a, cs, d, H, h, v, hv => by exact Rep.one (t := a) h v hv
  | .arr n t, cs, l, H, h, v, hv => RepL.one (fun c x H hx => Rep.one hx) h.1 v hv

theorem zchk_ok {S : Mem} : ∀ {t : Ty} {l r : List Value}, zchk t l = some r → ∃ c, l = c ++ r ∧ Rep S false t c (zeroOf t) []
  | .int k, l, r, h => by
    cases l with
    | nil => simp [zchk] at h
    | cons v l =>
      cases v <;> simp only [zchk] at h <;> try (cases h; done)
      rename_i k' n
      by_cases hk : k = k'
      · by_cases hn : n = 0
        · subst hk hn
          simp at h; subst h
          exact ⟨[.int k 0], rfl, rfl, rfl⟩
        · simp [hn] at h
      · simp [hk] at h
  | .bool, l, r, h => by
    cases l with
    | nil => simp [zchk] at h
    | cons v l =>
      cases v <;> try (simp [zchk] at h; done)
      rename_i b
      cases b <;> simp [zchk] at h
      subst h
      exact ⟨[.bool false], rfl, rfl, rfl⟩
  | .str, l, r, h => by
    cases l with
    | nil => simp [zchk] at h
    | cons v l =>
      cases v <;> try (simp [zchk] at h; done)
      rename_i s
      simp only [zchk] at h
      cases hs : s.data.toList with
      | cons => simp [hs] at h
      | nil =>
        simp only [hs, Option.some.injEq] at h
        subst h
        refine ⟨[.string s], rfl, ?_, rfl⟩
        have : s = ⟨([] : Str).toArray⟩ := by
          apply ByteArray.ext
          apply Array.ext'
          simpa using hs
        rw [this]; rfl
  | .slice t, l, r, h => by
    cases l with
    | nil => simp [zchk] at h
    | cons v l =>
      cases v <;> try (simp [zchk] at h; done)
      rename_i a n c
      cases a <;> cases n <;> cases c <;> simp [zchk] at h
      subst h
      exact ⟨[.slice none 0 0], rfl, rfl, .inl ⟨rfl, none, 0, rfl⟩⟩
  | .pair a b, l, r, h => by
    simp only [zchk] at h
    cases h1 : zchk a l with
    | none => simp [h1] at h
    | some r1 =>
      simp only [h1] at h
      obtain ⟨c1, e1, g1⟩ := zchk_ok (S := S) h1
      obtain ⟨c2, e2, g2⟩ := zchk_ok (S := S) h
      exact ⟨c1 ++ c2, by rw [e1, e2]; simp, c1, c2, [], [], rfl, rfl, g1, g2⟩
  | .one a, l, r, h => by
    simp only [zchk] at h
    obtain ⟨c, e, g⟩ := zchk_ok (S := S) h
    exact ⟨c, e, g⟩
  | .arr n t, l, r, h => by
    simp only [zchk] at h
    have key : ∀ (n : Nat) {l r : List Value}, chkN (zchk t) n l = some r → ∃ c, l = c ++ r ∧ RepL (Rep S false t) c (List.replicate n (zeroOf t)) [] := by
      intro n
      induction n with
      | zero => intro l r h; simp only [chkN, Option.some.injEq] at h; subst h; exact ⟨[], rfl, rfl, rfl⟩
      | succ n ih =>
        intro l r h
        simp only [chkN] at h
        cases h1 : zchk t l with
        | none => simp [h1] at h
        | some q =>
          simp only [h1] at h
          obtain ⟨c1, e1, g1⟩ := zchk_ok (S := S) h1
          obtain ⟨c2, e2, g2⟩ := ih h
          exact ⟨c1 ++ c2, by rw [e1, e2]; simp, c1, c2, [], [], rfl, rfl, g1, g2⟩
    obtain ⟨c, e, g⟩ := key n h
    exact ⟨c, e, g, by simp [zeroOf]⟩

theorem made_list (z : Array Value) : ∀ c : Nat, (madeCells z (c * z.size)).toList = (List.replicate c z.toList).flatten
  | 0 => by simp [madeCells, Array.range]
  | c + 1 => by
    have ih := made_list z c
    simp only [madeCells, Array.toList_map, Array.toList_range] at ih ⊢
    rw [Nat.add_mul, Nat.one_mul, List.range_add, List.map_append, ih, List.replicate_succ', List.flatten_append]
    congr 1
    simp only [List.map_map, List.flatten_cons, List.flatten_nil, List.append_nil]
    apply List.ext_getElem
    · simp
    · intro j h1 h2
      simp only [List.length_map, List.length_range] at h1
      simp only [List.getElem_map, List.getElem_range, Function.comp_apply, Array.getElem_toList]
      rw [Nat.mul_comm, Nat.mul_add_mod, Nat.mod_eq_of_lt h1, getElem!_pos z j h1]

theorem repl_ok {S : Mem} {t : Ty} {c : List Value} {x : t.den} (h : Rep S false t c x []) : ∀ n : Nat, RepL (Rep S false t) (List.replicate n c).flatten (List.replicate n x) []
  | 0 => ⟨rfl, rfl⟩
  | n + 1 => ⟨c, _, [], [], by rw [List.replicate_succ, List.flatten_cons], rfl, h, repl_ok h n⟩

/-- An empty array that has no memory. -/
theorem RelM.newNil {X : Ctx} {st : St} {G : Gh} {w : World} (hm : RelM X st G w) {a : Nat} {t : Ty} (ha : st.arr a = none) (hment : st.ment true a = false) :
    ∃ G', RelM X (st.setArr a ⟨t, .flat, false, []⟩) G' w ∧ G.Le G' true a ∧ RelV G' (.one (.hdl a)) (.slice none 0 0) := by
  let G' : Gh := { G with ψ := fun q => if q = a then .slice none 0 0 else G.ψ q, HA := fun q => if q = a then [] else G.HA q }
  have hle : G.Le G' true a := ⟨fun _ _ h => h, fun _ _ => rfl, fun _ _ => rfl, fun _ _ => rfl, fun q h => by simp [G', h rfl]⟩
  have hOwn : ∀ x b, Owns G' (st.setArr a ⟨t, .flat, false, []⟩) x b → Owns G st x b := fun x b hx => by
    obtain ⟨k, n⟩ := x
    cases k with
    | false => exact hx
    | true =>
      obtain ⟨⟨A, hA, hs⟩, p, hp, rfl⟩ := hx
      rw [arr_setArr] at hA
      by_cases e : a = n
      · subst e; simp [G'] at hp
      · simp only [e, if_false] at hA
        have hne : n ≠ a := fun h => e h.symm
        simp only [G', hne, if_false] at hp
        exact ⟨⟨A, hA, hs⟩, p, hp, rfl⟩
  refine ⟨G', ?_, hle, by simp [RelV, RelL, G']⟩
  refine { sl := ?_, sh := hm.sh, ob := ?_, ar := ?_, ah := ?_, nd := ?_, dis := fun x y b hx hy => hm.dis x y b (hOwn x b hx) (hOwn y b hy), dS := fun x b hx => hm.dS x b (hOwn x b hx), inn := fun x b hx => hm.inn x b (hOwn x b hx), s0 := hm.s0, sn := hm.sn, fr := hm.fr, sz := hm.sz, os := hm.os, tp := hm.tp, out := hm.out, pin := hm.pin, bv := hm.bv }
  · intro q
    by_cases e : q = a
    · exact .inl ⟨none, 0, 0, by simp [G', e]⟩
    · have := hm.sl q; simpa [G', e] using this
  · intro q ls hq
    obtain ⟨arr', elem', mid, g1, g2, g3⟩ := hm.ob q ls hq
    refine ⟨arr', elem', mid, g1, g2, ?_⟩
    unfold LeavesRel at g3 ⊢
    rw [resl_congr (st := st) (fun j l => by simp)]
    exact all2_le hle (ment_obj hment hq 0) g3
  · intro b B hB
    rw [arr_setArr] at hB
    by_cases e : a = b
    · subst e
      simp only [if_true, Option.some.injEq] at hB
      subst hB
      refine arrRel_flat.2 ?_
      exact .inl ⟨rfl, by simp [G'], by simp [G']⟩
    · simp only [e, if_false] at hB
      have hne : b ≠ a := fun h => e h.symm
      exact (hm.ar b B hB).mono (G := G) (a := b) (G' := G') (a' := b) (fun _ _ h => h) (by simp [G', hne]) (by simp [G', hne]) (fun _ _ _ => ⟨rfl, rfl, rfl⟩)
  · intro b B hB hs p hp
    rw [arr_setArr] at hB
    by_cases e : a = b
    · subst e; simp [G'] at hp
    · simp only [e, if_false] at hB
      have hne : b ≠ a := fun h => e h.symm
      simp only [G', hne, if_false] at hp
      exact hm.ah b B hB hs p hp
  · intro b B hB hs
    rw [arr_setArr] at hB
    by_cases e : a = b
    · subst e; simp [G']
    · simp only [e, if_false] at hB
      have hne : b ≠ a := fun h => e h.symm
      simp only [G', hne, if_false]
      exact hm.nd b B hB hs

theorem mkl_some {α : Type} {n : Int} {x : α} {l : List α} (h : mkl n x = some l) : 0 ≤ n ∧ n ≤ 4294967296 ∧ l = List.replicate n.toNat x := by
  unfold mkl at h
  by_cases h0 : 0 ≤ n <;> by_cases h1 : n ≤ 4294967296 <;> simp [h0, h1] at h
  exact ⟨h0, h1, h.symm⟩

section ops
variable {P : Program} {E : Env} (hE : TabOk P E.tab) {X : Ctx} {w : World} {R : Type} {r : R} {st : St} {G : Gh}
include hE

theorem opMakeSlice_ok {T : TypeId} {dst : Nat} {x y : AVal} {vx vy : Value} {K : AVal → St → Option R} (h : opMakeSlice E T dst x y st K = some r) (hm : RelM X st G w) (hx : RelV G x vx) (hy : RelV G y vy) :
    ∃ av v st' G' w', (Instr.makeSlice T vx vy).run P w = .ok v w' ∧ RelM X st' G' w' ∧ (∀ act, RelR G st act → RelR G' st' act) ∧ RelV G' av v ∧ K av st' = some r := by
  unfold opMakeSlice at h
  split at h
  · rename_i s b y' e z n c hT hn hc
    cases hei : E.tab e with
    | none => simp [hei] at h
    | some ei =>
      simp only [hei] at h
      split at h
      · rename_i t hty harr
        generalize hcc : (Nat.beq ei.size t.size && Nat.ble ei.bytes 16384 && !st.ment true dst && (match zchk t ei.zero with | some [] => true | _ => false)) = cc at h
        cases cc with
        | false => cases h
        | true =>
          have hcond := hcc
          replace h : ((mkl c (zeroOf t)).bind fun z => (sub z 0 n).bind fun l => K (.one (.hdl dst)) (st.setArr dst ⟨t, .flat, false, l⟩)) = some r := h
          simp only [Bool.and_eq_true, Bool.not_eq_true'] at hcond
          obtain ⟨⟨⟨q1, q2⟩, q3⟩, q4⟩ := hcond
          have q1 := Nat.eq_of_beq_eq_true q1
          have q2 := Nat.le_of_ble_eq_true q2
          obtain ⟨zl, hzl, h⟩ := Option.bind_eq_some_iff.1 h
          obtain ⟨l, hl, h⟩ := Option.bind_eq_some_iff.1 h
          obtain ⟨m0, m1, rfl⟩ := mkl_some hzl
          obtain ⟨n0, n1, n2, rfl⟩ := sub_some hl
          cases intof hn hx
          cases intof hc hy
          have hu := (hE T _ hT).slice
          obtain ⟨i, d, zz, i1, i2, i3, i4, i5, i6, i7, i8, i9, _⟩ := hE e ei hei
          simp only [List.length_replicate] at n2
          have hzero : Rep G.S false t zz.cells.toList (zeroOf t) [] := by
            cases hz : zchk t ei.zero with
            | none => simp [hz] at q4
            | some r' =>
              cases r' with
              | cons => simp [hz] at q4
              | nil =>
                obtain ⟨c0, e0, g0⟩ := zchk_ok (S := G.S) hz
                rw [List.append_nil] at e0
                rw [i6, e0]; exact g0
          have hzs : zz.cells.size = i.size := by rw [i3, ← i9, ← i6]; simp
          have hcn : (0 : Int) ≤ c := m0
          have hnc : n ≤ c := by omega
          have hby : (i.bytes : Int) * c ≤ 281474976710656 := by
            have h1 : (i.bytes : Int) ≤ 16384 := by rw [i4]; omega
            have h2 : (i.bytes : Int) * c ≤ 16384 * 4294967296 := Int.mul_le_mul h1 m1 m0 (by omega)
            omega
          have hrun := run_make (P := P) w T e i zz hu i1 i5 .i64 .i64 n c n1 hnc hby (by omega)
          have hcells : (madeCells zz.cells (c.toNat * i.size)).toList = (List.replicate n.toNat zz.cells.toList).flatten ++ (List.replicate (c.toNat - n.toNat) zz.cells.toList).flatten := by
            rw [← hzs, made_list, ← List.flatten_append, List.replicate_append_replicate]
            congr 2; omega
          have hlist : ((List.replicate c.toNat (zeroOf t)).take n.toNat).drop (0 : Int).toNat = List.replicate n.toNat (zeroOf t) := by
            simp [List.take_replicate]; omega
          rw [hlist] at h
          obtain ⟨G2, m2, hle2, hv2⟩ := hm.newArr (l := List.replicate n.toNat (zeroOf t)) (arr := madeCells zz.cells (c.toNat * i.size)) (elem := e) (cap := c.toNat) harr q3 hcells
            (by rw [size_madeCells, i3, q1]; exact Nat.le_refl _) (by simp; omega) (repl_ok hzero n.toNat)
          simp only [List.length_replicate] at hv2
          exact ⟨_, _, _, G2, _, hrun, m2, fun act ra => ra.le hle2 rfl (fun _ => rfl) q3, hv2, h⟩
      · cases h
  · cases h
end ops
end Go.Fx

/- The framework, fourteenth text: appends. -/
namespace Go.Fx
set_option linter.unusedVariables false
set_option linter.unusedSimpArgs false

theorem run_append_empty {P : Program} {w : World} {T e ty : TypeId} {i : TypeInfo} (hu : P.underlying T = some (.slice e)) (hi : P.info? e = some i) (base xb : Option Addr) (n cap xc : Nat) (hn : n ≤ cap) :
    (Builtin.append_ #[T, T] ty #[.slice base n cap, .slice xb 0 xc]).run P w = .ok (.slice base n cap) w := by
  cases base <;> cases xb <;> simp [Builtin.append_, run_underlying hu, sizeOf, typeInfo, hi, Builtin.lenOf, Builtin.firstCells, loadCells, loadCellsFrom, storeCells, hn]

theorem Kept.arrs (st : St) (l : List (Nat × Arr)) : Kept st { st with arrs := l } := ⟨rfl, fun _ => rfl, fun _ => rfl, fun o j l => by cases l <;> rfl, rfl⟩

section ops
variable {P : Program} {E : Env} (hE : TabOk P E.tab) {X : Ctx} {w : World} {R : Type} {r : R} {st : St} {G : Gh}
include hE

set_option maxHeartbeats 2000000 in
theorem opAppend_ok {T ty : TypeId} {dst : Nat} {x y : AVal} {vx vy : Value} {K : AVal → St → Option R} (h : opAppend E T dst x y st K = some r) (hm : RelM X st G w) (hx : RelV G x vx) (hy : RelV G y vy) :
    ∃ av v st' G' w', (Builtin.append_ #[T, T] ty #[vx, vy]).run P w = .ok v w' ∧ RelM X st' G' w' ∧ (∀ act, RelR G st act → RelR G' st' act) ∧ RelV G' av v ∧ K av st' = some r := by
  unfold opAppend at h
  split at h
  · rename_i s b y' e z hT
    cases hei : E.tab e with
    | none => simp [hei] at h
    | some ei =>
      simp only [hei] at h
      cases hty : ei.ty with
      | none => simp [hty] at h
      | some t =>
        simp only [hty] at h
        cases hc : (Nat.beq ei.size t.size && Nat.ble ei.bytes 16384) with
        | false => simp [hc] at h
        | true =>
          simp only [hc, cond_true] at h
          simp only [Bool.and_eq_true] at hc
          have q1 := Nat.eq_of_beq_eq_true hc.1
          have q2 := Nat.le_of_ble_eq_true hc.2
          cases hsh : y.shared st with
          | none => simp [hsh] at h
          | some st1 =>
            simp only [hsh] at h
            obtain ⟨G1, m1, s1, k1⟩ := shared_ok hsh hm
            cases hg : y.get st1 (.slice t) with
            | none => simp [hg] at h
            | some m =>
              cases hda : st1.arr dst with
              | some A => simp [hg, hda] at h
              | none =>
                simp only [hg, hda] at h
                cases hmt : st1.ment true dst with
                | true => simp [hmt] at h
                | false =>
                  simp only [hmt, cond_false] at h
                  have hu := (hE T _ hT).slice
                  obtain ⟨i, d, zz, i1, i2, i3, i4, i5, i6, i7, i8, i9, _⟩ := hE e ei hei
                  have hzs : zz.cells.size = i.size := by rw [i3, ← i9, ← i6]; simp
                  obtain ⟨cs, ecs, hrep⟩ := avget_ok m1 hg (hy.sub s1)
                  simp only [Ty.agg, Bool.false_eq_true, if_false] at ecs
                  subst ecs
                  have hx1 : RelV G1 x vx := hx.sub s1
                  -- the pieces of what is appended
                  have hcells : (m = [] ∧ ∃ base cap, vy = .slice base 0 cap) ∨ (0 < m.length ∧ ∃ ad c news, vy = .slice (some ad) m.length c ∧ RepL (Rep G1.S false t) news m [] ∧ (∀ j u, news[j]? = some u → w.cell? (ad.add j) = some u)) := by
                    rcases hrep with ⟨_, ⟨rfl, base, cap, h⟩ | ⟨b, cap, arr, elem, fz, pre, cells, rest, e1, e2, e3, e4, elc⟩⟩
                    · simp only [List.cons.injEq, and_true] at h; exact .inl ⟨rfl, base, cap, h⟩
                    · simp only [List.cons.injEq, and_true] at e1
                      cases m with
                      | nil => exact .inl ⟨rfl, _, _, e1⟩
                      | cons x0 m =>
                        refine .inr ⟨by simp, ⟨b, pre.length, none⟩, cap, cells, e1, e4, fun j u hj => ?_⟩
                        rw [Addr.add_mid]
                        exact rangeAt_of (m1.sh _ _ e2) e3 rfl j u hj
                  have hnl : ∀ {news : List Value}, RepL (Rep G1.S false t) news m [] → news.length = m.length * i.size := fun hr => by
                    rw [RepL.size (fun c x H hr => Rep.size hr) hr, i3, q1]
                  -- an array that has no memory so far
                  have fresh : ∀ (st2 : St) (rr : List t.den), RelM X st2 G1 w → st2.arr dst = none → st2.ment true dst = false → Kept st1 st2 → app ([] : List t.den) m = some rr →
                      ∃ v G' w', (Builtin.append_ #[T, T] ty #[.slice none 0 0, vy]).run P w = .ok v w' ∧ RelM X (st2.setArr dst ⟨t, .flat, false, rr⟩) G' w' ∧ (∀ act, RelR G st act → RelR G' (st2.setArr dst ⟨t, .flat, false, rr⟩) act) ∧ RelV G' (.one (.hdl dst)) v := by
                    intro st2 rr hm2 ha2 hmt2 hk2 happ
                    obtain ⟨hlen, hrr0⟩ := app_some happ
                    have hrr1 : m = rr := hrr0.symm
                    subst hrr1
                    have hrr : ∀ {G' : Gh}, G1.Le G' true dst → ∀ act, RelR G st act → RelR G' (st2.setArr dst ⟨t, .flat, false, m⟩) act := fun hle act ra =>
                      (ra.sub s1 (k1.trans hk2).n (k1.trans hk2).reg).le hle rfl (fun _ => rfl) hmt2
                    rcases hcells with ⟨rfl, base, cap, rfl⟩ | ⟨hpos, ad, c, news, rfl, hnews, hcell⟩
                    · obtain ⟨G', m', hle, hv⟩ := hm2.newNil (t := t) ha2 hmt2
                      exact ⟨_, G', w, run_append_empty hu i1 none base 0 0 cap (Nat.le_refl _), m', hrr hle, hv⟩
                    · simp only [List.length_nil, Nat.zero_add] at hlen
                      have h48 : m.length * i.bytes ≤ 281474976710656 := by
                        have : m.length * i.bytes ≤ 4294967296 * 16384 := Nat.mul_le_mul hlen (by rw [i4]; exact q2)
                        omega
                      have hrun := run_append_nil (P := P) w T ty e i zz hu i1 i5 ad m.length c news (hnl hnews) hcell hpos (by omega) h48
                      have hge := grownCap_ge w m.length 0 e
                      obtain ⟨G', m', hle, hv⟩ := (RelM.drew hm2).newArr (l := m) (arr := news.toArray ++ Builtin.zeroCells zz.cells (grownCap w m.length 0 e - m.length)) (elem := e) (cells := news) (rest := (Builtin.zeroCells zz.cells (grownCap w m.length 0 e - m.length)).toList) (cap := grownCap w m.length 0 e) ha2 hmt2
                        (by simp) (by
                          rw [Array.size_append, size_zeroCells, hzs, List.size_toArray, hnl hnews, ← Nat.add_mul, i3, q1]
                          exact Nat.mul_le_mul_right _ (by omega)) hge hnews
                      exact ⟨_, G', _, hrun, m', hrr hle, hv⟩
                  cases x with
                  | agg ls => simp [AVal.leaf] at h
                  | tup ls => simp [AVal.leaf] at h
                  | ifc t ls => simp [AVal.leaf] at h
                  | one l =>
                    simp only [AVal.leaf] at h
                    cases l with
                    | nil =>
                      simp only at h
                      obtain ⟨rr, hrr, h⟩ := Option.bind_eq_some_iff.1 h
                      have : vx = .slice none 0 0 := hx
                      subst this
                      obtain ⟨v, G', w', f1, f2, f3, f4⟩ := fresh st1 rr m1 hda hmt (.refl _) hrr
                      exact ⟨_, v, _, G', w', f1, f2, f3, f4, h⟩
                    | hdl a =>
                      simp only at h
                      cases hA : look st1.arrs a with
                      | none => simp [hA] at h
                      | some A =>
                        simp only [hA] at h
                        cases hc3 : (A.sh || A.deep || (look st1.barrs a).isSome) with
                        | true => simp [hc3] at h
                        | false =>
                          simp only [hc3, cond_false] at h
                          simp only [Bool.or_eq_false_iff] at hc3
                          obtain ⟨⟨hAs, hAd⟩, hAb⟩ := hc3
                          have hAb : look st1.barrs a = none := by simpa using hAb
                          cases hcast : cast? (.slice A.t) (.slice t) A.l with
                          | none => simp [hcast] at h
                          | some l =>
                            simp only [hcast] at h
                            obtain ⟨ety, hl⟩ := cast?_some hcast
                            have hAmd := deep_flat hAd
                            obtain ⟨At, Amd, Ash, Al⟩ := A
                            simp only [Ty.slice.injEq] at ety
                            subst ety
                            simp only at hl hAs hAmd
                            subst hl hAs hAmd
                            obtain ⟨rr, hrr, hK⟩ := Option.bind_eq_some_iff.1 h
                            have harrA : st1.arr a = some ⟨At, .flat, false, l⟩ := by simp [St.arr, hA]
                            have hne : dst ≠ a := fun e => by rw [e, harrA] at hda; cases hda
                            have har := m1.ar a _ harrA
                            replace har := arrRel_flat.1 har
                            have hvx : vx = G1.ψ a := hx1
                            have harr' : ∀ (N : Arr) q, ({ st1 with arrs := (dst, N) :: del st1.arrs a } : St).arr q = if q = dst then some N else if q = a then none else st1.arr q := fun N q => by
                              simp only [St.arr, look_cons, look_del]
                              by_cases e : q = dst
                              · subst e; simp
                              · by_cases e2 : q = a
                                · subst e2; simp [e, Ne.symm e, hAb, eq_comm]
                                · simp [e, e2, eq_comm (a := dst), eq_comm (a := a)]
                            rcases har with ⟨e1, e2, e3⟩ | ⟨bb, cap, arr, elem, cells, rest, H', e1, e2, e3, e4, e5, e6⟩
                            · subst e1
                              simp only [List.cons.injEq, and_true] at e3
                              rw [hvx, e3]
                              obtain ⟨v, G', w', f1, f2, f3, f4⟩ := fresh { st1 with arrs := del st1.arrs a } rr (m1.dropArr a hAb) (by
                                simp only [St.arr, look_del] at hda ⊢
                                rw [if_neg (fun h => hne h.symm)]; exact hda) hmt (Kept.arrs _ _) hrr
                              exact ⟨_, v, _, G', w', f1, f2, f3, f4, hK⟩
                            · simp only [List.cons.injEq, and_true] at e1
                              rw [hvx, e1]
                              obtain ⟨hlen, rfl⟩ := app_some hrr
                              have hblk := m1.ah a _ harrA rfl (bb, Obj.cells arr elem (0, 0)) (by rw [e2]; simp)
                              have hcl : cells.length = l.length * At.size := RepL.size (fun c x H hr => Rep.size hr) e6
                              have hH' : H' = [] := RepL.noHeap (fun c x H hr => Rep.noHeap hr) e6
                              subst hH'
                              have hRR : ∀ {G' : Gh} {st2 : St}, (∀ act, RelR G1 st1 act → RelR G' st2 act) → ∀ act, RelR G st act → RelR G' st2 act := fun hf act ra => hf act (ra.sub s1 k1.n k1.reg)
                              rcases hcells with ⟨rfl, base, xcap, rfl⟩ | ⟨hpos, ad, c, news, rfl, hnews, hcell⟩
                              · -- nothing is appended
                                rw [List.append_nil] at hK
                                obtain ⟨G2, m2, r2, v2⟩ := m1.reArr (st' := { st1 with arrs := (dst, ⟨At, .flat, false, l⟩) :: del st1.arrs a }) (a := a) (dst := dst) (A' := ⟨At, .flat, false, l⟩) harrA rfl rfl rfl e1 e2 (cap' := cap) (arr' := arr) (elem := elem)
                                  (.inr ⟨bb, cap, arr, elem, cells, rest, [], rfl, rfl, e3, e4, e5, e6⟩) hblk (fun _ _ => rfl) rfl rfl rfl rfl (Kept.arrs _ _) (harr' _) (.inr ⟨hne, hda, hmt⟩)
                                exact ⟨_, _, _, G2, w, run_append_empty hu i1 _ _ _ _ _ e5, m2, hRR r2, v2, hK⟩
                              · by_cases hroom : l.length + m.length ≤ cap
                                · have hfit : 0 + l.length * i.size + news.length ≤ arr.size := by
                                    rw [hnl hnews, Nat.zero_add, ← Nat.add_mul, i3, q1]
                                    exact Nat.le_trans (Nat.mul_le_mul_right _ hroom) e4
                                  have hth := there_of hblk hfit
                                  have hrun := run_append_room_cells (P := P) w T ty e i hu i1 bb 0 l.length cap ad m.length c news (hnl hnews) hcell (RepL.one (fun c x H hr => Rep.one hr) hnews) hroom
                                    (fun j hj => (hth j hj).1) (fun j hj => (hth j hj).2)
                                  obtain ⟨arr', g1, g2, g3, g4, g5, g6, g7⟩ := heap_setCells bb news (0 + l.length * i.size) w hblk hfit
                                  have hcells' : arr'.toList = (cells ++ news) ++ arr.toList.drop (0 + l.length * i.size + news.length) := by
                                    rw [g2]
                                    have : arr.toList.take (0 + l.length * i.size) = cells := by
                                      rw [e3, Nat.zero_add, i3, q1, ← hcl]; simp
                                    rw [this]; simp
                                  have hsz' : arr'.size = arr.size := by
                                    rw [← Array.length_toList, g2]
                                    simp; omega
                                  obtain ⟨G2, m2, r2, v2⟩ := m1.reArr (st' := { st1 with arrs := (dst, ⟨At, .flat, false, l ++ m⟩) :: del st1.arrs a }) (a := a) (dst := dst) (A' := ⟨At, .flat, false, l ++ m⟩) harrA rfl rfl rfl e1 e2 (cap' := cap) (arr' := arr') (elem := elem)
                                    (.inr ⟨bb, cap, arr', elem, cells ++ news, _, [], rfl, rfl, hcells', by rw [hsz']; exact e4, by simpa using hroom, (by have h6 := e6.append hnews; rw [List.append_nil] at h6; exact h6)⟩) g1 g3 g4 g5 g6 g7 (Kept.arrs _ _) (harr' _) (.inr ⟨hne, hda, hmt⟩)
                                  simp only [List.length_append] at v2
                                  exact ⟨_, _, _, G2, _, hrun, m2, hRR r2, v2, hK⟩
                                · have holds : ∀ j u, cells[j]? = some u → w.cell? ((⟨bb, 0, none⟩ : Addr).add j) = some u := fun j u hj => by
                                    rw [Addr.add_mid]
                                    exact rangeAt_of (pre := []) hblk (by simpa using e3) rfl j u hj
                                  have hby : (l.length + m.length) * i.bytes ≤ 140737488355328 := by
                                    have : (l.length + m.length) * i.bytes ≤ 4294967296 * 16384 := Nat.mul_le_mul hlen (by rw [i4]; exact q2)
                                    omega
                                  have hfit := growslice_fits (need := l.length + m.length) (old := cap) (bytes := i.bytes) (by omega) hby
                                  have hrun := run_append_grow (P := P) w T ty e i zz hu i1 i5 ⟨bb, 0, none⟩ l.length cap cells (by rw [hcl, i3, q1]) holds ad m.length c news (hnl hnews) hcell (by omega) (by omega) hfit
                                  have hge := grownCap_ge w (l.length + m.length) cap e
                                  obtain ⟨G', m', hle, hv⟩ := (RelM.drew (m1.dropArr a hAb)).newArr (l := l ++ m) (arr := cells.toArray ++ news.toArray ++ Builtin.zeroCells zz.cells (grownCap w (l.length + m.length) cap e - (l.length + m.length))) (elem := e) (cells := cells ++ news) (rest := (Builtin.zeroCells zz.cells (grownCap w (l.length + m.length) cap e - (l.length + m.length))).toList) (cap := grownCap w (l.length + m.length) cap e)
                                    (a := dst) (by
                                      simp only [St.arr, look_del] at hda ⊢
                                      rw [if_neg (fun h => hne h.symm)]; exact hda) hmt (by simp) (by
                                      rw [Array.size_append, Array.size_append, size_zeroCells, hzs, List.size_toArray, List.size_toArray, hnl hnews, hcl, i3, q1, ← Nat.add_mul, ← Nat.add_mul]
                                      exact Nat.mul_le_mul_right _ (by omega)) (by simpa using hge) (by simpa using e6.append hnews)
                                  simp only [List.length_append] at hv
                                  exact ⟨_, _, _, G', _, hrun, m', hRR (fun act ra => (ra.sub (.refl _) rfl (fun _ => rfl)).le hle rfl (fun _ => rfl) hmt), hv, hK⟩
                    | _ => simp at h
  · cases h
end ops
end Go.Fx

/- The framework, fifteenth text: parts of strings and slices, conversions, lengths, the lesser and the greater. -/
namespace Go.Fx
set_option linter.unusedVariables false
set_option linter.unusedSimpArgs false

theorem bound_ok {P : Program} {w : World} {G : Gh} {lo : Option AVal} {vlo : Option Value} {d n : Int} (h : boundOf d lo = some n) (hr : ∀ a, lo = some a → ∃ v, vlo = some v ∧ RelV G a v) (hn : lo = none → vlo = none) :
    (vlo = none ∧ lo = none ∧ n = d) ∨ ∃ k, vlo = some (.int k n) := by
  cases lo with
  | none => simp only [boundOf, Option.some.injEq] at h; exact .inl ⟨hn rfl, rfl, h.symm⟩
  | some a =>
    simp only [boundOf, Option.map_eq_some_iff] at h
    obtain ⟨⟨k, m⟩, h1, h2⟩ := h
    simp only at h2; subst h2
    obtain ⟨v, h3, h4⟩ := hr a rfl
    exact .inr ⟨k, by rw [h3, intof h1 h4]⟩

theorem run_bounds {P : Program} {w : World} {isSlice : Bool} {len cap : Nat} {vlo vhi : Option Value} {i j : Int} (hlc : len ≤ cap) (h0 : 0 ≤ i) (h1 : i ≤ j) (h2 : j ≤ (len : Int))
    (hlo : (vlo = none ∧ i = 0) ∨ ∃ k, vlo = some (.int k i)) (hhi : (vhi = none ∧ j = (len : Int)) ∨ ∃ k, vhi = some (.int k j)) :
    (Instr.sliceBounds isSlice len cap vlo vhi none).run P w = .ok (i.toNat, j.toNat, cap) w := by
  have hjc : j ≤ (cap : Int) := by omega
  have hj0 : 0 ≤ j := by omega
  rcases hlo with ⟨rfl, rfl⟩ | ⟨k, rfl⟩ <;> rcases hhi with ⟨rfl, rfl⟩ | ⟨k', rfl⟩
  · simp [Instr.sliceBounds]
  · simp [Instr.sliceBounds, Instr.sliceBound, asIntOf, hj0, hjc]
  · have : i.toNat ≤ len := by omega
    have h3 : i ≤ (len : Int) := by omega
    simp [Instr.sliceBounds, Instr.sliceBound, asIntOf, h0, h3]
  · have h3 : i ≤ ((j.toNat : Nat) : Int) := by omega
    have h4 : ¬ (max j 0 < i) := by omega
    simp [Instr.sliceBounds, Instr.sliceBound, asIntOf, h0, hj0, hjc, h3, h4]

theorem extract_str (s : Str) (i j : Nat) : (⟨s.toArray⟩ : ByteArray).extract i j = ⟨((s.take j).drop i).toArray⟩ := by
  apply ByteArray.ext
  apply Array.ext'
  simp [ByteArray.data_extract, List.drop_take]

section ops
variable {P : Program} {E : Env} (hE : TabOk P E.tab) {X : Ctx} {w : World} {R : Type} {r : R} {st : St} {G : Gh}
include hE

theorem sliceSh_ok {T e : TypeId} {ei : TI} (hu : P.underlying T = some (.slice e)) (hei : E.tab e = some ei) {t : Ty} (hz : ei.size = t.size) {l : List t.den} {vx : Value} (hx : ShBody G.S (RepL (Rep G.S false t)) [vx] l [])
    {vlo vhi : Option Value} {i j : Int} {rr : List t.den} (hs : sub l i j = some rr) (hlo : (vlo = none ∧ i = 0) ∨ ∃ k, vlo = some (.int k i)) (hhi : (vhi = none ∧ j = (l.length : Int)) ∨ ∃ k, vhi = some (.int k j)) :
    ∃ v, (Instr.slice T vx vlo vhi none).run P w = .ok v w ∧ RelV G (.one (.dat (.slice t) rr)) v := by
  obtain ⟨h0, h1, h2, rfl⟩ := sub_some hs
  have hsz := (hE _ _ hei).size w
  rcases hx with ⟨_, ⟨rfl, base, cap, hb⟩ | ⟨b, cap, arr, elem, fz, pre, cells, rest, e1, e2, e3, e4, elc⟩⟩
  · simp only [List.cons.injEq, and_true] at hb
    subst hb
    simp only [List.length_nil] at h2
    obtain rfl : i = 0 := by omega
    obtain rfl : j = 0 := by simp at h2; omega
    have hrun := run_bounds (P := P) (w := w) (isSlice := true) (len := 0) (cap := cap) (vlo := vlo) (vhi := vhi) (Nat.zero_le _) (Int.le_refl 0) (Int.le_refl 0) (by simp) hlo (by simpa using hhi)
    refine ⟨.slice (if cap = 0 then base else base.map (·.add (0 * ei.size))) 0 cap, ?_, ⟨[_], rfl, rfl, .inl ⟨by simp, _, _, rfl⟩⟩⟩
    simp only [Instr.slice, Sem.run_bind, run_underlying hu, Result.andThen_ok, hrun, hsz]
    simp
  · simp only [List.cons.injEq, and_true] at e1
    subst e1
    · have hcap := elc
      have hrun := run_bounds (P := P) (w := w) (isSlice := true) (len := l.length) (cap := cap) hcap h0 h1 h2 hlo hhi
      have hi : i.toNat ≤ j.toNat := by omega
      have hj : j.toNat ≤ l.length := by omega
      refine ⟨.slice (if cap = i.toNat then some ⟨b, pre.length, none⟩ else (some (⟨b, pre.length, none⟩ : Addr)).map (·.add (i.toNat * ei.size))) (j.toNat - i.toNat) (cap - i.toNat), ?_, ?_⟩
      · simp only [Instr.slice, Sem.run_bind, run_underlying hu, Result.andThen_ok, hrun, hsz]
        simp
      · have hlen : ((l.take j.toNat).drop i.toNat).length = j.toNat - i.toNat := by simp; omega
        by_cases hci : cap = i.toNat
        · have : j.toNat - i.toNat = 0 := by omega
          have hnil : (l.take j.toNat).drop i.toNat = [] := List.eq_nil_of_length_eq_zero (by omega)
          rw [hnil, if_pos hci, this]
          exact ⟨[_], rfl, rfl, .inl ⟨rfl, _, _, rfl⟩⟩
        · rw [if_neg hci]
          obtain ⟨c1, c2, H1, H2, k1, k2, k3, k4, k5⟩ := RepL.split (fun c x H hr => Rep.size hr) (k := j.toNat) e4 hj
          have hH1 := RepL.noHeap (fun c x H hr => Rep.noHeap hr) k4
          obtain ⟨d1, d2, K1, K2, q1, q2, q3, q4, q5⟩ := RepL.split (fun c x H hr => Rep.size hr) (k := i.toNat) k4 (by simp; omega)
          have hK2 := RepL.noHeap (fun c x H hr => Rep.noHeap hr) q5
          rw [hK2] at q5
          refine ⟨[_], rfl, rfl, .inr ⟨b, cap - i.toNat, arr, elem, fz, pre ++ d1, d2, c2 ++ rest, ?_, e2, ?_, q5, by rw [hlen]; omega⟩⟩
          · rw [hlen]
            simp [Addr.add_mid, q3, hz]
          · rw [e3, k1, q1]; simp

theorem opSlice_ok {T : TypeId} {dst : Nat} {x : AVal} {vx : Value} {lo hi mx : Option AVal} {vlo vhi vmx : Option Value} {K : AVal → St → Option R} (h : opSlice E T dst x lo hi mx st K = some r) (hm : RelM X st G w) (hx : RelV G x vx)
    (hlo : ∀ a, lo = some a → ∃ v, vlo = some v ∧ RelV G a v) (hlo' : lo = none → vlo = none) (hhi : ∀ a, hi = some a → ∃ v, vhi = some v ∧ RelV G a v) (hhi' : hi = none → vhi = none) (hmx : mx = none → vmx = none) :
    ∃ av v st' G', (Instr.sliceAt T vx vlo vhi vmx).run P w = .ok v w ∧ RelM X st' G' w ∧ (∀ act, RelR G st act → RelR G' st' act) ∧ RelV G' av v ∧ K av st' = some r := by
  unfold opSlice at h
  have same : ∀ {av : AVal} {v : Value}, (∃ d, P.underlying T = some d ∧ (match d with | .array _ _ => False | _ => True)) → vmx = none → (Instr.slice T vx vlo vhi none).run P w = .ok v w → RelV G av v → K av st = some r →
      ∃ av v st' G', (Instr.sliceAt T vx vlo vhi vmx).run P w = .ok v w ∧ RelM X st' G' w ∧ (∀ act, RelR G st act → RelR G' st' act) ∧ RelV G' av v ∧ K av st' = some r := fun hd hmx0 hrun hv hK => by
    obtain ⟨d, hu, hnot⟩ := hd
    subst hmx0
    refine ⟨_, _, st, G, ?_, hm, fun _ h => h, hv, hK⟩
    simp only [Instr.sliceAt, Sem.run_bind, run_underlying hu, Result.andThen_ok]
    cases d <;> first | exact hnot.elim | exact hrun
  split at h
  · -- a string
    rename_i s b y z hT
    have hu := (hE T _ hT).str
    have hmx0 := hmx rfl
    cases hs : x.str? with
    | none => simp [hs] at h
    | some str =>
      simp only [hs] at h
      cases hb1 : boundOf 0 lo with
      | none => simp [hb1] at h
      | some i =>
        cases hb2 : boundOf (str.length : Int) hi with
        | none => simp [hb1, hb2] at h
        | some j =>
          simp only [hb1, hb2] at h
          obtain ⟨rr, hrr, h⟩ := Option.bind_eq_some_iff.1 h
          obtain ⟨h0, h1, h2, rfl⟩ := sub_some hrr
          cases strof hs hx
          have k1 := bound_ok (P := P) (w := w) hb1 hlo hlo'
          have k2 := bound_ok (P := P) (w := w) hb2 hhi hhi'
          have hrun := run_bounds (P := P) (w := w) (isSlice := false) (len := str.length) (cap := str.length) (Nat.le_refl _) h0 h1 h2 (k1.imp (fun h => ⟨h.1, h.2.2⟩) id) (k2.imp (fun h => ⟨h.1, h.2.2⟩) id)
          refine same ⟨_, hu, trivial⟩ hmx0 ?_ (relStr _) h
          simp only [Instr.slice, Sem.run_bind, run_underlying hu, Result.andThen_ok, strV, sizeStr, hrun, Option.isSome_none, Bool.false_eq_true, if_false, Sem.run_pure, extract_str]
  · rename_i s b y e z hT
    have hu := (hE T _ hT).slice
    have hmx0 := hmx rfl
    cases hei : E.tab e with
    | none => simp [hei] at h
    | some ei =>
      simp only [hei] at h
      cases x with
      | agg ls => simp [AVal.leaf] at h
      | tup ls => simp [AVal.leaf] at h
      | ifc t ls => simp [AVal.leaf] at h
      | one l =>
        simp only [AVal.leaf] at h
        cases l with
        | dat t l =>
          cases t with
          | slice t =>
            simp only at h
            cases hz : Nat.beq ei.size t.size with
            | false => simp [hz] at h
            | true =>
              simp only [hz, cond_true] at h
              have hz := Nat.eq_of_beq_eq_true hz
              cases hb1 : boundOf 0 lo with
              | none => simp [hb1] at h
              | some i =>
                cases hb2 : boundOf (l.length : Int) hi with
                | none => simp [hb1, hb2] at h
                | some j =>
                  simp only [hb1, hb2] at h
                  obtain ⟨rr, hrr, h⟩ := Option.bind_eq_some_iff.1 h
                  have k1 := bound_ok (P := P) (w := w) hb1 hlo hlo'
                  have k2 := bound_ok (P := P) (w := w) hb2 hhi hhi'
                  obtain ⟨cs, ecs, hrep⟩ := hx
                  simp only [Ty.agg, Bool.false_eq_true, if_false] at ecs
                  subst ecs
                  obtain ⟨v, f1, f2⟩ := sliceSh_ok hE (P := P) (w := w) hu hei hz hrep hrr (k1.imp (fun h => ⟨h.1, h.2.2⟩) id) (k2.imp (fun h => ⟨h.1, h.2.2⟩) id)
                  exact same ⟨_, hu, trivial⟩ hmx0 f1 f2 h
          | _ => simp at h
        | hdl a =>
          simp only at h
          cases hA : st.arr a with
          | none => simp [hA] at h
          | some A =>
            simp only [hA] at h
            cases hz : Nat.beq ei.size A.t.size with
            | false => simp [hz] at h
            | true =>
              simp only [hz, cond_true] at h
              have hz := Nat.eq_of_beq_eq_true hz
              have hvx : vx = G.ψ a := hx
              have har := hm.ar a A hA
              cases hAs : A.sh with
              | true =>
                simp only [hAs, cond_true] at h
                replace har := (arrRel_sh hAs).1 har
                cases hb1 : boundOf 0 lo with
                | none => simp [hb1] at h
                | some i =>
                  cases hb2 : boundOf (A.l.length : Int) hi with
                  | none => simp [hb1, hb2] at h
                  | some j =>
                    simp only [hb1, hb2] at h
                    obtain ⟨rr, hrr, h⟩ := Option.bind_eq_some_iff.1 h
                    have k1 := bound_ok (P := P) (w := w) hb1 hlo hlo'
                    have k2 := bound_ok (P := P) (w := w) hb2 hhi hhi'
                    obtain ⟨v, f1, f2⟩ := sliceSh_ok hE (P := P) (w := w) (vx := vx) hu hei hz (by rw [hvx]; exact har) hrr (k1.imp (fun h => ⟨h.1, h.2.2⟩) id) (k2.imp (fun h => ⟨h.1, h.2.2⟩) id)
                    exact same ⟨_, hu, trivial⟩ hmx0 f1 f2 h
              | false =>
                simp only [hAs, cond_false] at h
                cases lo with
                | some _ => simp at h
                | none =>
                  cases hi with
                  | none => simp at h
                  | some hv =>
                    simp only at h
                    cases hj : hv.int? with
                    | none => simp [hj] at h
                    | some p =>
                      obtain ⟨k, j⟩ := p
                      simp only [hj] at h
                      cases hc : (A.deep || (look st.arrs a).isNone || (look st.barrs a).isSome || (st.arr dst).isSome || st.ment true dst) with
                      | true => simp [hc] at h
                      | false =>
                        simp only [hc, cond_false] at h
                        simp only [Bool.or_eq_false_iff] at hc
                        obtain ⟨⟨⟨⟨hAd, hc1⟩, hc2⟩, hc3⟩, hmt⟩ := hc
                        have hc2 : look st.barrs a = none := by simpa using hc2
                        have hc3 : st.arr dst = none := by simpa using hc3
                        obtain ⟨rr, hrr, h⟩ := Option.bind_eq_some_iff.1 h
                        obtain ⟨_, h1, h2, rfl⟩ := sub_some hrr
                        obtain ⟨vh, rfl, hvh⟩ := hhi hv rfl
                        cases intof hj hvh
                        have hvlo := hlo' rfl
                        subst hvlo hmx0
                        replace har := (arrRel_own hAs (flat_own hAd)).1 har
                        rw [hAd] at har
                        have hmf := deep_flat hAd
                        have hne : dst ≠ a := fun e => by rw [e, hA] at hc3; cases hc3
                        have hsz := (hE _ _ hei).size w
                        have harr' : ∀ (N : Arr) q, ({ st with arrs := (dst, N) :: del st.arrs a } : St).arr q = if q = dst then some N else if q = a then none else st.arr q := fun N q => by
                          simp only [St.arr, look_cons, look_del]
                          by_cases e : q = dst
                          · subst e; simp
                          · by_cases e2 : q = a
                            · subst e2; simp [e, Ne.symm e, hc2, eq_comm]
                            · simp [e, e2, eq_comm (a := dst), eq_comm (a := a)]
                        have hdrop : ((A.l.take j.toNat).drop (0 : Int).toNat) = A.l.take j.toNat := by simp
                        rw [hdrop] at h
                        rcases har with ⟨e1, e2, e3⟩ | ⟨bb, cap, arr, elem, cells, rest, H', e1, e2, e3, e4, e5, e6⟩
                        · simp only [List.cons.injEq, and_true] at e3
                          have hj0 : j = 0 := by rw [e1] at h2; simp at h2; omega
                          subst hj0
                          obtain ⟨G', m', hle, hv'⟩ := (hm.dropArr a hc2).newNil (a := dst) (t := A.t) (by
                            simp only [St.arr, look_del] at hc3 ⊢
                            rw [if_neg (fun h => hne h.symm)]; exact hc3) hmt
                          have hl0 : A.l.take (0 : Int).toNat = [] := by simp
                          refine ⟨.one (.hdl dst), .slice none 0 0, _, G', ?_, m', fun act ra => (ra.sub (.refl _) rfl (fun _ => rfl)).le hle rfl (fun _ => rfl) hmt, hv', by rw [hl0] at h; simp only [hAs, hmf] at h; exact h⟩
                          have hrun := run_bounds (P := P) (w := w) (isSlice := true) (len := 0) (cap := 0) (vlo := none) (vhi := some (.int k 0)) (i := 0) (j := 0) (Nat.zero_le _) (Int.le_refl 0) (Int.le_refl 0) (by simp) (.inl ⟨rfl, rfl⟩) (.inr ⟨k, rfl⟩)
                          rw [hvx, e3]
                          simp only [Instr.sliceAt, Instr.slice, Sem.run_bind, run_underlying hu, Result.andThen_ok, hrun, hsz]
                          simp
                        · simp only [List.cons.injEq, and_true] at e1
                          have hH' : H' = [] := RepL.noHeap (fun c x H hr => Rep.noHeap hr) e6
                          subst hH'
                          have hblk := hm.ah a A hA hAs (bb, Obj.cells arr elem (0, 0)) (by rw [e2]; simp)
                          obtain ⟨c1, c2, H1, H2, q1, q2, q3, q4, q5⟩ := RepL.split (fun c x H hr => Rep.size hr) (k := j.toNat) e6 (by omega)
                          have hH1 := RepL.noHeap (fun c x H hr => Rep.noHeap hr) q4
                          subst hH1
                          have hlt : (A.l.take j.toNat).length = j.toNat := by simp; omega
                          obtain ⟨G2, m2, r2, v2⟩ := hm.reArr (st' := { st with arrs := (dst, { A with l := A.l.take j.toNat }) :: del st.arrs a }) (a := a) (dst := dst) (A' := { A with l := A.l.take j.toNat }) hA hAs hAs (show A.own = true from flat_own hAd) e1 e2 (cap' := cap) (arr' := arr) (elem := elem)
                            (.inr ⟨bb, cap, arr, elem, c1, c2 ++ rest, [], rfl, rfl, by rw [e3, q1]; simp, e4, by rw [hlt]; omega, by rw [show ({ A with l := A.l.take j.toNat } : Arr).deep = false from hAd]; exact q4⟩) hblk (fun _ _ => rfl) rfl rfl rfl rfl (Kept.arrs _ _) (harr' _) (.inr ⟨hne, hc3, hmt⟩)
                          refine ⟨_, _, _, G2, ?_, m2, r2, v2, by simpa [hAs] using h⟩
                          have hrun := run_bounds (P := P) (w := w) (isSlice := true) (len := A.l.length) (cap := cap) (vlo := none) (vhi := some (.int k j)) (i := 0) (j := j) e5 (Int.le_refl 0) h1 h2 (.inl ⟨rfl, rfl⟩) (.inr ⟨k, rfl⟩)
                          rw [hvx, e1]
                          simp only [Instr.sliceAt, Instr.slice, Sem.run_bind, run_underlying hu, Result.andThen_ok, hrun, hsz]
                          simp only [hlt]
                          by_cases hcap : cap = 0
                          · simp [hcap]
                          · simp [hcap, Addr.add]
        | _ => simp at h
  · cases h
end ops
end Go.Fx

/- The framework, sixteenth text: conversions, lengths, the lesser and the greater. -/
namespace Go.Fx
set_option linter.unusedVariables false
set_option linter.unusedSimpArgs false
set_option linter.unusedSectionVars false

theorem bytes_cells {S : Mem} {m : Bool} : ∀ {cs : List Value} {l : List Int} {H : Heap}, RepL (Rep S m (.int .u8)) cs l H → cs = l.map (Value.int .u8)
  | cs, [], H, h => h.1
  | cs, x :: l, H, ⟨c1, c2, H1, H2, e1, e2, r, rl⟩ => by
    rw [e1, bytes_cells rl, show c1 = [.int .u8 x] from r.1]; rfl

theorem fold_push (l : List Int) : l.foldl (fun r n => r.push (UInt8.ofNat n.toNat)) ByteArray.empty = ⟨(l.map fun n => UInt8.ofNat n.toNat).toArray⟩ := by
  have key : ∀ (l : List Int) (s : ByteArray), (l.foldl (fun r n => r.push (UInt8.ofNat n.toNat)) s) = ⟨(s.data.toList ++ l.map fun n => UInt8.ofNat n.toNat).toArray⟩ := fun l => by
    induction l with
    | nil => intro s; simp
    | cons n l ih => intro s; rw [List.foldl_cons, ih]; simp [ByteArray.push]
  rw [key]; simp

theorem run_bytes {P : Program} {w : World} {S : Mem} {b : Nat} {arr : Array Value} {elem : TypeId} {fz : Nat × Nat} {pre cells rest : List Value} {l : List Int} {m : Bool} {H : Heap} (cap : Nat)
    (hb : w.heap[b]? = some (.cells arr elem fz)) (he : arr.toList = pre ++ (cells ++ rest)) (hr : RepL (Rep S m (.int .u8)) cells l H) :
    (Conv.bytesToString (.slice (some ⟨b, pre.length, none⟩) l.length cap)).run P w = .ok (strV (l.map fun n => UInt8.ofNat n.toNat)) w := by
  have hc := bytes_cells hr
  subst hc
  have hl := run_loadCells_list (P := P) w ⟨b, pre.length, none⟩ (l.map (Value.int .u8)) (fun j v hv => by
    rw [Addr.add_mid]
    simp only [World.cell?, hb]
    have hj : j < l.length := by
      have := (List.getElem?_eq_some_iff.1 hv).1
      simpa using this
    have : arr[pre.length + j]? = some v := by
      rw [← Array.getElem?_toList, he, List.getElem?_append_right (by omega), Nat.add_sub_cancel_left, List.getElem?_append_left (by simpa using hj)]
      exact hv
    simp [this])
  rw [List.length_map] at hl
  rw [run_bytesToString w _ _ cap l (by simpa using hl), fold_push]; rfl

theorem bytes_sh {P : Program} {w : World} {S : Mem} (hsh : ∀ b o, S b = some o → w.heap[b]? = some o) {v : Value} {l : List Int} (h : ShBody S (RepL (Rep S false (.int .u8))) [v] l []) :
    ∃ a n c, v = .slice a n c ∧ (Conv.bytesToString v).run P w = .ok (strV (l.map fun n => UInt8.ofNat n.toNat)) w := by
  rcases h with ⟨_, ⟨rfl, base, cap, hb⟩ | ⟨b, cap, arr, elem, fz, pre, cells, rest, e1, e2, e3, e4, e5⟩⟩
  · simp only [List.cons.injEq, and_true] at hb
    subst hb
    refine ⟨_, _, _, rfl, ?_⟩
    cases base with
    | none => simp [Conv.bytesToString, strV]; rfl
    | some a =>
      have hl := run_loadCells_list (P := P) w a [] (by simp)
      rw [run_bytesToString w a 0 cap [] (by simpa using hl)]
      rfl
  · simp only [List.cons.injEq, and_true] at e1
    subst e1
    exact ⟨_, _, _, rfl, run_bytes cap (hsh _ _ e2) e3 e4⟩

theorem bytes_own {P : Program} {w : World} {S : Mem} {m : Bool} {v : Value} {l : List Int} {H : Heap} (hH : ∀ p ∈ H, w.heap[p.1]? = some p.2) (h : OwnBody (RepL (Rep S m (.int .u8))) 1 [v] l H) :
    ∃ a n c, v = .slice a n c ∧ (Conv.bytesToString v).run P w = .ok (strV (l.map fun n => UInt8.ofNat n.toNat)) w := by
  rcases h with ⟨rfl, rfl, hb⟩ | ⟨b, cap, arr, elem, cells, rest, H', e1, e2, e3, e4, e5, e6⟩
  · simp only [List.cons.injEq, and_true] at hb
    subst hb
    exact ⟨_, _, _, rfl, by simp [Conv.bytesToString, strV]; rfl⟩
  · simp only [List.cons.injEq, and_true] at e1
    subst e1
    subst e2
    exact ⟨_, _, _, rfl, run_bytes (pre := []) cap (hH _ (List.mem_cons_self ..)) (by simpa using e3) e6⟩

section ops
variable {P : Program} {E : Env} (hE : TabOk P E.tab) {X : Ctx} {st : St} {G : Gh} {w : World} {R : Type} {r : R}
include hE

theorem opConvert_ok {S D : TypeId} {x : AVal} {vx : Value} {K : AVal → St → Option R} (h : opConvert E S D x st K = some r) (hm : RelM X st G w) (hx : RelV G x vx) :
    ∃ av v, (convert S D vx).run P w = .ok v w ∧ RelV G av v ∧ K av st = some r := by
  unfold opConvert at h
  cases hS : E.tab S with
  | none => simp [hS] at h
  | some si =>
    cases hD : E.tab D with
    | none => simp [hS, hD] at h
    | some di =>
      simp only [hS, hD] at h
      obtain ⟨d1, u1, t1⟩ := (hE S _ hS).und
      obtain ⟨d2, u2, t2⟩ := (hE D _ hD).und
      split at h
      · rename_i k k' n hd
        rw [hd] at t2
        cases d2 <;> simp [TDok] at t2
        subst t2
        cases intof (v := .one (.dat (.int k') n)) rfl hx
        refine ⟨_, _, ?_, relInt k _, h⟩
        cases d1 <;> simp [convert, run_underlying u1, run_underlying u2, Conv.intToInt]
      · rename_i s hs hd
        rw [hd] at t2; rw [hs] at t1
        cases d2 <;> simp [TDok] at t2
        cases d1 <;> simp [TDok] at t1
        cases strof (v := .one (.dat .str s)) rfl hx
        exact ⟨_, _, by simp [convert, run_underlying u1, run_underlying u2, strV], relStr _, h⟩
      · rename_i _ e lf hs hd
        rw [hd] at t2; rw [hs] at t1
        cases d2 <;> simp [TDok] at t2
        cases d1 <;> simp [TDok] at t1
        subst t1
        have fin : ∀ {l' : List Int} {s b : Nat} {y : Option Ty} {z : List Value}, E.tab e = some ⟨s, b, y, .int .u8, z⟩ → (∃ a n c, vx = .slice a n c ∧ (Conv.bytesToString vx).run P w = .ok (strV (l'.map fun n => UInt8.ofNat n.toNat)) w) →
            K (.one (.dat .str (l'.map fun n => UInt8.ofNat n.toNat))) st = some r → ∃ av v, (convert S D vx).run P w = .ok v w ∧ RelV G av v ∧ K av st = some r := fun {l' _ _ _ _} hT hb hK => by
          obtain ⟨d3, u3, t3⟩ := (hE _ _ hT).und
          cases d3 <;> simp [TDok] at t3
          subst t3
          obtain ⟨a, n, c, rfl, hrun⟩ := hb
          exact ⟨_, _, by rw [run_convert_bytes_string w S D e a n c u1 u3 u2]; exact hrun, relStr _, hK⟩
        split at h
        · rename_i l' hT
          obtain ⟨cs, e1, e2⟩ := hx
          simp only [Ty.agg, Bool.false_eq_true, if_false] at e1
          subst e1
          simp only [Rep, Bool.false_eq_true, if_false] at e2
          exact fin hT (bytes_sh hm.sh e2) h
        · rename_i a hT
          cases hA : st.arr a with
          | none => simp [hA] at h
          | some A =>
            simp only [hA] at h
            cases hsw : (A.sh || A.own) with
            | false => simp [hsw] at h
            | true =>
            simp only [hsw, cond_true] at h
            split at h
            · rename_i l' hc
              obtain ⟨ec, el⟩ := cast?_some hc
              have har := hm.ar a _ hA
              have hv : vx = G.ψ a := hx
              rw [hv] at fin ⊢
              have hah := hm.ah a _ hA
              cases hsh : A.sh with
              | true =>
                replace har := (arrRel_sh hsh).1 har
                obtain ⟨t, dp, sh, ll⟩ := A
                simp only [Ty.slice.injEq] at ec
                subst ec
                simp only at el
                subst el
                exact fin hT (bytes_sh hm.sh har) h
              | false =>
                replace har := (arrRel_own hsh (by simpa [hsh] using hsw)).1 har
                replace hah := hah hsh
                generalize A.deep = dp at har
                obtain ⟨t, _, sh, ll⟩ := A
                simp only [Ty.slice.injEq] at ec
                subst ec
                simp only at el
                subst el
                exact fin hT (bytes_own hah har) h
            · cases h
        · cases h
      · cases h

theorem run_len {t : TypeId} {ts : List TypeId} {ty : TypeId} {v : Value} {vs : List Value} {s b : Nat} {y : Option Ty} {z : List Value} {e : TypeId} (hT : E.tab t = some ⟨s, b, y, .slice e, z⟩) {a : Option Addr} {n c : Nat} (hv : v = .slice a n c) :
    (Builtin.len_ (t :: ts).toArray ty (v :: vs).toArray).run P w = .ok (.int .i64 (n : Int)) w := by
  have := (hE _ _ hT).slice
  subst hv
  simp [Builtin.len_, run_underlying this]; rfl

theorem opLen_ok {x : AVal} {n : Int} {v : Value} (h : lenOf st x.leaf = some n) (hs : x.str? = none) (hm : RelM X st G w) (hx : RelV G x v) : ∃ a m c, v = .slice a m c ∧ n = (m : Int) := by
  cases x with
  | one l =>
    cases l with
    | dat t d =>
      cases t <;> simp [AVal.leaf, lenOf, AVal.str?] at h hs
      subst h
      obtain ⟨cs, e1, e2⟩ := hx
      simp only [Ty.agg, Bool.false_eq_true, if_false] at e1
      subst e1
      simp only [Rep, Bool.false_eq_true, if_false] at e2
      rcases e2 with ⟨_, ⟨rfl, base, cap, hb⟩ | ⟨b, cap, arr, elem, fz, pre, cells, rest, e1, _⟩⟩
      · simp only [List.cons.injEq, and_true] at hb; exact ⟨_, _, _, hb, by simp⟩
      · simp only [List.cons.injEq, and_true] at e1; exact ⟨_, _, _, e1, rfl⟩
    | nil => simp [AVal.leaf, lenOf] at h; subst h; exact ⟨_, _, _, hx, rfl⟩
    | hdl a =>
      simp only [AVal.leaf, lenOf] at h
      cases hA : st.arr a with
      | none => simp [hA] at h
      | some A =>
        cases hmp : A.isMp with
        | true => simp [hA, hmp] at h
        | false =>
        simp only [hA, hmp, cond_false, Option.some.injEq] at h
        subst h
        have har := hm.ar a A hA
        have hv : v = G.ψ a := hx
        cases hs : A.sh with
        | true =>
          rcases (arrRel_sh hs).1 har with ⟨_, ⟨e0, base, cap, hb⟩ | ⟨b, cap, arr, elem, fz, pre, cells, rest, e1, _⟩⟩
          · simp only [List.cons.injEq, and_true] at hb; exact ⟨_, _, _, hv.trans hb, by rw [e0]; simp⟩
          · simp only [List.cons.injEq, and_true] at e1; exact ⟨_, _, _, hv.trans e1, rfl⟩
        | false =>
          rcases arrRel_slice hs hmp har with ⟨e0, hb⟩ | ⟨b, cap, e1⟩
          · exact ⟨_, _, _, hv.trans hb, by rw [e0]; simp⟩
          · exact ⟨_, _, _, hv.trans e1, rfl⟩
    | _ => simp [AVal.leaf, lenOf] at h
  | _ => simp [AVal.leaf, lenOf] at h

omit hE in
theorem fold_min {k : IntKind} : ∀ {vs : List AVal} {us : List Value} {a n : Int}, foldInt k (fun x y => bif decide (y < x) then y else x) a vs = some n → All2 (RelV G) vs us →
    (us.foldlM Builtin.min2 (.int k a)).run P w = .ok (.int k n) w
  | [], [], a, n, h, _ => by simp [foldInt] at h; subst h; simp
  | v :: vs, u :: us, a, n, h, hr => by
    simp only [foldInt] at h
    cases hv : v.int? with
    | none => simp [hv] at h
    | some p =>
      obtain ⟨k', b⟩ := p
      simp only [hv] at h
      cases intof hv hr.1
      have := fold_min h hr.2
      rw [List.foldlM_cons, Sem.run_bind]
      simp only [Builtin.min2, Sem.run_pure, Result.andThen_ok]
      rw [← this]
      by_cases hb : b < a <;> simp [hb]
omit hE in
theorem fold_max {k : IntKind} : ∀ {vs : List AVal} {us : List Value} {a n : Int}, foldInt k (fun x y => bif decide (y > x) then y else x) a vs = some n → All2 (RelV G) vs us →
    (us.foldlM Builtin.max2 (.int k a)).run P w = .ok (.int k n) w
  | [], [], a, n, h, _ => by simp [foldInt] at h; subst h; simp
  | v :: vs, u :: us, a, n, h, hr => by
    simp only [foldInt] at h
    cases hv : v.int? with
    | none => simp [hv] at h
    | some p =>
      obtain ⟨k', b⟩ := p
      simp only [hv] at h
      cases intof hv hr.1
      have := fold_max h hr.2
      rw [List.foldlM_cons, Sem.run_bind]
      simp only [Builtin.max2, Sem.run_pure, Result.andThen_ok]
      rw [← this]
      by_cases hb : b > a <;> simp [hb]

theorem opBuiltin_ok {b : Builtin} {dst : Nat} {ts : List TypeId} {ty : TypeId} {vs : List AVal} {us : List Value} {cs : Array Bool} {K : AVal → St → Option R} (h : opBuiltin E b dst ts vs st K = some r) (hm : RelM X st G w) (hv : All2 (RelV G) vs us) :
    ∃ av v st' G' w', (builtin b ts.toArray ty cs us.toArray).run P w = .ok (.value v) w' ∧ RelM X st' G' w' ∧ (∀ act, RelR G st act → RelR G' st' act) ∧ RelV G' av v ∧ K av st' = some r := by
  unfold opBuiltin at h
  split at h
  · rename_i v
    obtain ⟨u, rfl⟩ : ∃ u, us = [u] := by
      cases us with
      | nil => exact hv.elim
      | cons u us => cases us with
        | nil => exact ⟨u, rfl⟩
        | cons _ _ => exact hv.2.elim
    cases ts with
    | nil => simp at h
    | cons t ts =>
      simp only [List.getElem?_cons_zero, Option.bind_some] at h
      split at h
      · rename_i hT
        split at h
        · rename_i s hs
          cases strof hs hv.1
          have hu := (hE _ _ hT).str
          exact ⟨_, _, st, G, w, by simp [builtin, Builtin.len_, run_underlying hu, strV, goInt]; rfl, hm, fun _ h => h, relInt .i64 _, h⟩
        · cases h
      · rename_i hT
        split at h
        · rename_i n hn hs
          obtain ⟨a, m, c, hv', rfl⟩ := opLen_ok hE hn hs hm hv.1
          exact ⟨_, _, st, G, w, by simp only [builtin, Sem.run_bind, run_len hE hT hv', Result.andThen_ok, Sem.run_pure], hm, fun _ h => h, relInt .i64 _, h⟩
        · cases h
      · cases h
  · rename_i s x
    split at h
    · rename_i t u
      cases htu : Nat.beq t u with
      | false => simp [htu] at h
      | true =>
        simp only [htu, cond_true] at h
        obtain rfl := Nat.eq_of_beq_eq_true htu
        cases us with
        | nil => exact hv.elim
        | cons u1 us =>
          cases us with
          | nil => exact hv.2.elim
          | cons u2 us =>
            cases us with
            | cons _ _ => exact hv.2.2.elim
            | nil =>
              obtain ⟨av, v, st', G', w', h1, h2, h3, h4, h5⟩ := opAppend_ok hE (ty := ty) h hm hv.1 hv.2.1
              exact ⟨av, v, st', G', w', by simp only [builtin, Sem.run_bind, h1, Result.andThen_ok, Sem.run_pure], h2, h3, h4, h5⟩
    · cases h
  · rename_i v vs
    cases us with
    | nil => exact hv.elim
    | cons u us =>
      split at h
      · rename_i k a hi
        split at h
        · rename_i n hn
          cases intof hi hv.1
          exact ⟨_, _, st, G, w, by simp only [builtin, Builtin.min_, Sem.run_bind, fold_min hn hv.2, Result.andThen_ok, Sem.run_pure], hm, fun _ h => h, relInt _ _, h⟩
        · cases h
      · cases h
  · rename_i v vs
    cases us with
    | nil => exact hv.elim
    | cons u us =>
      split at h
      · rename_i k a hi
        split at h
        · rename_i n hn
          cases intof hi hv.1
          exact ⟨_, _, st, G, w, by simp only [builtin, Builtin.max_, Sem.run_bind, fold_max hn hv.2, Result.andThen_ok, Sem.run_pure], hm, fun _ h => h, relInt _ _, h⟩
        · cases h
      · cases h
  · cases h
end ops
end Go.Fx

/- The framework, seventeenth text: one operation, whatever it is. -/
namespace Go.Fx
set_option linter.unusedVariables false
set_option linter.unusedSimpArgs false

theorem ofConst_ok {G : Gh} (v : Value) : RelV G (ofConst v) v := by
  unfold ofConst
  split
  · exact relInt _ _
  · exact relBool _
  · rename_i s
    have : strV s.data.toList = .string s := by simp [strV]
    rw [← this]; exact relStr _
  · rfl
  · rfl
  · trivial

/-- The variables of the packages hold what they are said to hold. -/
def GlobIn (gt : Nat → Option GA) (S : Mem) : Prop := ∀ g D, gt g = some D → ∃ arr elem fz, S g = some (.cells arr elem fz) ∧ RepL (Rep S false D.t) arr.toList D.l []
theorem GlobIn.mono {gt : Nat → Option GA} {S S' : Mem} (h : GlobIn gt S) (hS : ∀ b o, S b = some o → S' b = some o) : GlobIn gt S' := fun g D hg => by
  obtain ⟨arr, elem, fz, h1, h3⟩ := h g D hg
  exact ⟨arr, elem, fz, hS _ _ h1, h3.monoS hS⟩

theorem ev_ok {E : Env} {G : Gh} {st : St} {act : Act} (hg : GlobIn E.gt G.S) (hr : RelR G st act) (o : Operand) : RelV G (ev E st o) (act.eval o) := by
  cases o with
  | tmp t =>
    simp only [ev, Act.eval]
    cases h : st.reg t with
    | none => trivial
    | some v => exact hr.2.2 t v h
  | const v => exact ofConst_ok v
  | global g =>
    simp only [ev, Act.eval]
    cases h : E.gt g with
    | none => trivial
    | some D =>
      obtain ⟨arr, elem, fz, h1, h3⟩ := hg g D h
      exact ⟨g, arr, elem, fz, arr.toList, [], h1, by simp, h3, rfl⟩
  | func f => rfl

/-- What is to be known of a function that is called. -/
def SemOk (P : Program) (gt : Nat → Option GA) (f : FuncId) (s : CSem) : Prop :=
  ∀ {R : Type} {r : R} {X : Ctx} {st : St} {G : Gh} {w : World} {dst : Nat} {args : List AVal} {vs : List Value} {K KP : AVal → St → Option R},
    s.run dst args st K KP = some r → GlobIn gt X.S0 → RelM X st G w → All2 (RelV G) args vs →
    (callFunc f vs.toArray).run P w = .ok (.enter f vs.toArray) w ∧ Calls P f vs.toArray w fun e w' => match e with
      | .returned v => ∃ av st' G', RelM X st' G' w' ∧ (∀ act, RelR G st act → RelR G' st' act) ∧ RelV G' av v ∧ K av st' = some r
      | .panicked chain => ∃ v, chain = [{ v, recovered := false }] ∧ ∃ av st' G', RelM X st' G' w' ∧ RelV G' av v ∧ KP av st' = some r
      | .outgrown => False

theorem map_ev {E : Env} {G : Gh} {st : St} {act : Act} (hg : GlobIn E.gt G.S) (hr : RelR G st act) : ∀ l : List Operand, All2 (RelV G) (l.map (ev E st)) (l.map act.eval)
  | [] => trivial
  | x :: l => ⟨ev_ok hg hr x, map_ev hg hr l⟩
theorem map_ev2 {E : Env} {G : Gh} {st : St} {act : Act} (hg : GlobIn E.gt G.S) (hr : RelR G st act) : ∀ l : List (Nat × Operand), All2 (fun (p : Nat × AVal) (q : Nat × Value) => p.1 = q.1 ∧ RelV G p.2 q.2) (l.map fun p => (p.1, ev E st p.2)) (l.map fun p => (p.1, act.eval p.2))
  | [] => trivial
  | x :: l => ⟨⟨rfl, ev_ok hg hr x.2⟩, map_ev2 hg hr l⟩

section ops
variable {P : Program} {E : Env} (hE : TabOk P E.tab) (hS : ∀ f s, E.sem f = some s → SemOk P E.gt f s) {X : Ctx} {st : St} {G : Gh} {w : World} {R : Type} {r : R}
include hE hS

set_option maxHeartbeats 2000000 in
theorem exec1_ok {o : Oper} {act : Act} {K KP : AVal → St → Option R} (h : exec1 E o st K KP = some r) (hg0 : GlobIn E.gt X.S0) (hm : RelM X st G w) (hr : RelR G st act) {next : Act → World → Prop} {Q : Exit → Act → World → Prop}
    (hK : ∀ av v st' G' w', RelM X st' G' w' → RelR G' st' act → RelV G' av v → K av st' = some r → next (act.put o.dst v) w')
    (hP : ∀ av v st' G' w', RelM X st' G' w' → RelV G' av v → KP av st' = some r → Q (.panic [{ v, recovered := false }]) act w') : o.wp P act w next Q := by
  have hg : GlobIn E.gt G.S := hg0.mono hm.s0
  have simple : ∀ {s : Sem Value}, (∃ av v, s.run P w = .ok v w ∧ RelV G av v ∧ K av st = some r) → (execOp act.eval o = do pure (.value (← s))) → o.wp P act w next Q := fun {s} ⟨av, v, h1, h2, h3⟩ he => by
    unfold Oper.wp
    rw [he, Sem.run_bind, h1]
    exact hK av v st G w hm hr h2 h3
  have full : ∀ {s : Sem Value}, (∃ av v st' G' w', s.run P w = .ok v w' ∧ RelM X st' G' w' ∧ (∀ act, RelR G st act → RelR G' st' act) ∧ RelV G' av v ∧ K av st' = some r) → (execOp act.eval o = do pure (.value (← s))) → o.wp P act w next Q :=
    fun {s} ⟨av, v, st', G', w', h1, h2, h3, h4, h5⟩ he => by
    unfold Oper.wp
    rw [he, Sem.run_bind, h1]
    exact hK av v st' G' w' h2 (h3 _ hr) h4 h5
  unfold exec1 at h
  split at h
  · rename_i x ho
    exact simple (s := pure (act.eval x)) ⟨_, _, rfl, ev_ok hg hr x, h⟩ (by simp [execOp, ho])
  · rename_i x ho
    exact simple (s := pure (act.eval x)) ⟨_, _, rfl, ev_ok hg hr x, h⟩ (by simp [execOp, ho])
  · rename_i c a b ho
    cases hc : (ev E st c).bool? with
    | none => simp [hc] at h
    | some b' =>
      simp only [hc] at h
      have hb := boolof hc (ev_ok hg hr c)
      unfold Oper.wp
      simp only [execOp, ho, hb]
      cases b' with
      | true => simp only [cond_true] at h; exact hK _ _ st G w hm hr (ev_ok hg hr a) h
      | false => simp only [cond_false] at h; exact hK _ _ st G w hm hr (ev_ok hg hr b) h
  · rename_i x ho
    have hx := ev_ok hg hr x
    have key : (∃ a, act.eval x = .pointer (some a)) → K (ev E st x) st = some r → o.wp P act w next Q := fun ⟨a, ha⟩ hk => by
      unfold Oper.wp
      simp only [execOp, ho, ha]
      exact hK _ _ st G w hm hr (by rw [← ha]; exact hx) hk
    cases hv : ev E st x with
    | one l =>
      rw [hv] at h hx key
      cases l with
      | ptr ob off => exact key ⟨_, hx⟩ (by simpa [AVal.leaf] using h)
      | elt a sz i off => obtain ⟨b, len, cap, h1, h2, h3⟩ := hx; exact key ⟨_, h3⟩ (by simpa [AVal.leaf] using h)
      | she t d off => obtain ⟨b, arr, elem, fz, pre, cs, post, h1, h2, h3, h4⟩ := hx; exact key ⟨_, h4⟩ (by simpa [AVal.leaf] using h)
      | _ => simp [AVal.leaf] at h
    | _ => rw [hv] at h; simp [AVal.leaf] at h
  · rename_i T ho
    cases hT : E.tab T with
    | none => simp [hT] at h
    | some ti =>
      simp only [hT] at h
      obtain ⟨i, d, z, h1, h2, h3, h4, h5, h6, h7, h8, h9⟩ := hE T ti hT
      obtain ⟨av, st', G', m, rr, rv, hk⟩ := opNew_ok (w := w) (cs := z.cells) h hm (by rw [h6]; exact zero_ok ti.zero)
      refine full (s := Instr.alloc T true (.tuple #[])) ⟨av, _, st', G', _, ?_, m, rr, rv, hk⟩ (by simp only [execOp, ho])
      simp [Instr.alloc, zeroValue, typeInfo, h1, h5, newVar, newRow]
  · rename_i T x ho
    cases hl : (ev E st x).leaves with
    | none => simp [hl] at h
    | some ls =>
      simp only [hl] at h
      obtain ⟨av, st', G', m, rr, rv, hk⟩ := opNew_ok (w := w) (cs := (act.eval x).cells) h hm (leaves_ok hm hl (ev_ok hg hr x))
      refine full (s := Instr.box T (act.eval x)) ⟨av, _, st', G', _, ?_, m, rr, rv, hk⟩ (by simp only [execOp, ho])
      simp [Instr.box, newVar, newRow]
  · rename_i T parts ho
    refine simple (opBuild_ok hE h hm (map_ev2 hg hr _)) ?_
    have : (List.map (fun p => (p.1, act.eval p.2)) parts.toList).toArray = parts.map fun (i, x) => (i, act.eval x) := by rw [← Array.toList_map]
    rw [this]
    simp only [execOp, ho]
  · rename_i T len parts ho
    refine full (opBuildSlice_ok hE h hm (map_ev2 hg hr _)) ?_
    have : (List.map (fun p => (p.1, act.eval p.2)) parts.toList).toArray = parts.map fun (i, x) => (i, act.eval x) := by rw [← Array.toList_map]
    rw [this]
    simp only [execOp, ho]
  · rename_i T x ho
    exact simple (opLoad_ok hE h hm (ev_ok hg hr x)) (by simp only [execOp, ho])
  · rename_i T x v ho
    obtain ⟨st', G', w', h1, h2, h3, h4⟩ := opStore_ok hE h hm (ev_ok hg hr x) (ev_ok hg hr v)
    unfold Oper.wp
    simp only [execOp, ho, Sem.run_bind, h1, Result.andThen_ok]
    exact hK _ _ st' G' w' h2 (h3 _ hr) (show RelV G' (.one .und) undef from rfl) h4
  · rename_i op T x y u ho
    exact simple (opBin_ok hE h hm (ev_ok hg hr x) (ev_ok hg hr y)) (by simp only [execOp, ho]; rfl)
  · rename_i op T x ho
    exact simple (opUn_ok h (ev_ok hg hr x)) (by simp only [execOp, ho])
  · rename_i S D x ho
    exact simple (opConvert_ok hE h hm (ev_ok hg hr x)) (by simp only [execOp, ho])
  · rename_i T l c ho
    exact full (opMakeSlice_ok hE h hm (ev_ok hg hr l) (ev_ok hg hr c)) (by simp only [execOp, ho])
  · rename_i T x lo hi mx ho
    have opt : ∀ (q : Option Operand), (∀ a, q.map (ev E st) = some a → ∃ v, q.map act.eval = some v ∧ RelV G a v) ∧ (q.map (ev E st) = none → q.map act.eval = none) := fun q => by
      cases q with
      | none => simp
      | some x => simp; exact ev_ok hg hr x
    obtain ⟨av, v, st', G', h1, h2, h3, h4, h5⟩ := opSlice_ok hE h hm (ev_ok hg hr x) (opt lo).1 (opt lo).2 (opt hi).1 (opt hi).2 (opt mx).2
    exact full ⟨av, v, st', G', w, h1, h2, h3, h4, h5⟩ (by simp only [execOp, ho])
  · rename_i T x f ho
    exact simple (opFieldAddr_ok hE h (ev_ok hg hr x)) (by simp only [execOp, ho])
  · rename_i T x f ho
    cases ha : (ev E st x).isAgg with
    | false => simp [ha] at h
    | true =>
      simp only [ha, cond_true] at h
      exact simple (opField_ok hE h hm (ev_ok hg hr x) (isAgg_ok ha (ev_ok hg hr x))) (by simp only [execOp, ho])
  · rename_i T x i ho
    exact simple (opIndexAddr_ok hE h hm (ev_ok hg hr x) (ev_ok hg hr i)) (by simp only [execOp, ho])
  · rename_i T x i ho
    exact simple (opIndex_ok hE h (ev_ok hg hr x) (ev_ok hg hr i)) (by simp only [execOp, ho])
  · rename_i x n ho
    have hx := ev_ok hg hr x
    split at h
    · rename_i vs hv
      rw [hv] at hx
      obtain ⟨us, hu, ha⟩ := hx
      cases hn : vs[n]? with
      | none => simp [hn] at h
      | some p =>
        simp only [hn] at h
        obtain ⟨u, hu2, hp⟩ := ha.get hn
        refine simple (s := Instr.extract (act.eval x) n) ⟨_, u, by simp [Instr.extract, hu, hu2], ?_, h⟩ (by simp only [execOp, ho])
        unfold packV
        split at hp
        · rename_i hc; simp only [hc, cond_true]; exact hp
        · rename_i hc
          obtain ⟨l, e, hl⟩ := hp
          simp only [Bool.not_eq_true] at hc
          simp only [hc, cond_false, e]; exact hl
    · cases h
  · rename_i c ho
    split at h
    · rename_i b hb
      have hargs := map_ev hg hr c.args.toList
      obtain ⟨cs0, hcs⟩ : ∃ cs0, (execOp act.eval o).run P w = (builtin b c.argTypes o.type cs0 (c.args.map act.eval)).run P w :=
        ⟨_, by simp only [execOp, ho, resolve, hb, Sem.run_bind, Sem.run_pure, Result.andThen_ok, invoke]; rfl⟩
      obtain ⟨av, v, st', G', w', h1, h2, h3, h4, h5⟩ := opBuiltin_ok hE (ty := o.type) (cs := cs0) h hm hargs
      have e1 : (List.map act.eval c.args.toList).toArray = c.args.map act.eval := by rw [← Array.toList_map]
      rw [e1] at h1
      have e2 : c.argTypes.toList.toArray = c.argTypes := by simp
      rw [e2] at h1
      unfold Oper.wp
      rw [hcs, h1]
      exact hK _ _ st' G' w' h2 (h3 _ hr) h4 h5
    · rename_i f hb
      cases hs : E.sem f with
      | none => simp [hs] at h
      | some s =>
        simp only [hs] at h
        obtain ⟨h1, h2⟩ := hS f s hs h hg0 hm (map_ev hg hr c.args.toList)
        have e1 : (List.map act.eval c.args.toList).toArray = c.args.map act.eval := by rw [← Array.toList_map]
        rw [e1] at h1 h2
        unfold Oper.wp
        simp only [execOp, ho, resolve, hb, Sem.run_bind, Sem.run_pure, Result.andThen_ok, invoke, Act.eval, Deferred.ofValue, Array.append_empty, Array.empty_append, h1, Oper.upon]
        refine Calls.mono h2 fun e w'' he => ?_
        cases e with
        | returned v => obtain ⟨av, st', G', g1, g2, g3, g4⟩ := he; exact hK _ _ st' G' _ g1 (g2 _ hr) g3 g4
        | panicked chain => obtain ⟨v, rfl, av, st', G', g1, g3, g4⟩ := he; exact hP _ _ st' G' _ g1 g3 g4
        | outgrown => exact he.elim
    · cases h
  · rename_i T x ho
    cases hT : E.tab T with
    | none => simp [hT] at h
    | some ti =>
      simp only [hT] at h
      obtain ⟨d, u1, u2⟩ := (hE T ti hT).und
      split at h
      · cases h
      · rename_i ls hl hd
        refine simple (s := Instr.makeInterface T (act.eval x)) ⟨.ifc T ls, .iface T (act.eval x), ?_, ⟨_, _, rfl, rfl, leaves_ok hm hl (ev_ok hg hr x)⟩, h⟩ (by simp only [execOp, ho])
        simp only [Instr.makeInterface, Sem.run_bind, run_underlying u1, Result.andThen_ok]
        generalize ti.desc = q at u2 hd
        cases d with
        | interface _ => cases q <;> first | exact u2.elim | exact (hd rfl).elim
        | _ => rfl
      · cases h
  · rename_i x ho
    have hx := ev_ok hg hr x
    split at h
    · rename_i t ls hv
      rw [hv] at hx
      obtain ⟨u, cs, h1, h2, h3⟩ := hx
      unfold Oper.wp
      simp only [execOp, ho, h1, Instr.panic, goPanic, Sem.run_bind]
      exact hP (.ifc t ls) (.iface t u) st G w hm ⟨u, cs, rfl, h2, h3⟩ h
    · cases h
  · cases h
end ops
end Go.Fx

/- The framework: what an operation comes to is one thing, whatever is done with it then. -/
namespace Go.Fx
set_option linter.unusedVariables false
set_option linter.unusedSimpArgs false

structure Out where
  v : AVal
  s : St
  ok : Bool
def vOut (v : AVal) (s : St) : Option Out := some ⟨v, s, true⟩
def pOut (v : AVal) (s : St) : Option Out := some ⟨v, s, false⟩
def fin {R : Type} (K KP : AVal → St → Option R) (o : Out) : Option R := bif o.ok then K o.v o.s else KP o.v o.s

theorem cond_det {α β : Type} {c : Bool} {a b : Option β} {a' b' : Option α} {f : α → Option β} (h : a = a'.bind f) (k : b = b'.bind f) : cond c a b = (cond c a' b').bind f := by
  cases c <;> simpa
theorem bind_det {α β γ : Type} {x : Option γ} {g : γ → Option β} {g' : γ → Option α} {f : α → Option β} (h : ∀ y, g y = (g' y).bind f) : x.bind g = (x.bind g').bind f := by
  cases x with
  | none => rfl
  | some y => exact h y

def SemDet (s : CSem) : Prop := ∀ {R : Type} (dst : Nat) (args : List AVal) (st : St) (K KP : AVal → St → Option R),
  s.run dst args st K KP = (s.run dst args st vOut pOut).bind (fin K KP)
def LoopDet (L : LoopSem) : Prop := True

section
variable {E : Env} {R : Type} {st : St} {T : TypeId} {x y v : AVal} {dst : Nat} {K KP : AVal → St → Option R}

theorem opLoad_det : opLoad E T x st K = (opLoad E T x st vOut).bind (fin K KP) := by
  unfold opLoad
  repeat' (first | rfl | apply cond_det | apply bind_det | intro _ | split)
theorem opFieldAddr_det {f : Nat} : opFieldAddr E T x f st K = (opFieldAddr E T x f st vOut).bind (fin K KP) := by
  unfold opFieldAddr
  repeat' (first | rfl | apply cond_det | apply bind_det | intro _ | split)
theorem opField_det {f : Nat} : opField E T x f st K = (opField E T x f st vOut).bind (fin K KP) := by
  unfold opField
  repeat' (first | rfl | apply cond_det | apply bind_det | intro _ | split)
theorem opIndexAddr_det : opIndexAddr E T x y st K = (opIndexAddr E T x y st vOut).bind (fin K KP) := by
  unfold opIndexAddr
  repeat' (first | rfl | apply cond_det | apply bind_det | intro _ | split)
theorem opIndex_det : opIndex E T x y st K = (opIndex E T x y st vOut).bind (fin K KP) := by
  unfold opIndex
  repeat' (first | rfl | apply cond_det | apply bind_det | intro _ | split)
theorem opStore_det : opStore E T x v st (fun st' => K (.one .und) st') = (opStore E T x v st (fun st' => vOut (.one .und) st')).bind (fin K KP) := by
  unfold opStore
  repeat' (first | rfl | apply cond_det | apply bind_det | intro _ | split)
theorem opSlice_det {lo hi mx : Option AVal} : opSlice E T dst x lo hi mx st K = (opSlice E T dst x lo hi mx st vOut).bind (fin K KP) := by
  unfold opSlice
  repeat' (first | rfl | apply cond_det | apply bind_det | intro _ | split)
theorem opBin_det {op : BinOp} : opBin E op T x y (fun v => K v st) = (opBin E op T x y (fun v => vOut v st)).bind (fin K KP) := by
  unfold opBin
  repeat' (first | rfl | apply cond_det | apply bind_det | intro _ | split)
theorem opUn_det {op : UnOp} : opUn op x (fun v => K v st) = (opUn op x (fun v => vOut v st)).bind (fin K KP) := by
  unfold opUn
  repeat' (first | rfl | apply cond_det | apply bind_det | intro _ | split)
theorem opConvert_det {S D : TypeId} : opConvert E S D x st K = (opConvert E S D x st vOut).bind (fin K KP) := by
  unfold opConvert
  repeat' (first | rfl | apply cond_det | apply bind_det | intro _ | split)
theorem opBuild_det {ps : List (Nat × AVal)} : opBuild E T ps st K = (opBuild E T ps st vOut).bind (fin K KP) := by
  unfold opBuild
  repeat' (first | rfl | apply cond_det | apply bind_det | intro _ | split)
theorem opBuildSlice_det {len : Nat} {ps : List (Nat × AVal)} : opBuildSlice E T dst len ps st K = (opBuildSlice E T dst len ps st vOut).bind (fin K KP) := by
  unfold opBuildSlice
  repeat' (first | rfl | apply cond_det | apply bind_det | intro _ | split)
theorem opMakeSlice_det : opMakeSlice E T dst x y st K = (opMakeSlice E T dst x y st vOut).bind (fin K KP) := by
  unfold opMakeSlice
  repeat' (first | rfl | apply cond_det | apply bind_det | intro _ | split)
theorem opNew_det {o : Nat} {ls : List Leaf} : opNew E T o ls st K = (opNew E T o ls st vOut).bind (fin K KP) := by
  unfold opNew
  repeat' (first | rfl | apply cond_det | apply bind_det | intro _ | split)
theorem opAppend_det : opAppend E T dst x y st K = (opAppend E T dst x y st vOut).bind (fin K KP) := by
  unfold opAppend
  repeat' (first | rfl | apply cond_det | apply bind_det | intro _ | split)
theorem opBuiltin_det {b : Builtin} {ts : List TypeId} {vs : List AVal} : opBuiltin E b dst ts vs st K = (opBuiltin E b dst ts vs st vOut).bind (fin K KP) := by
  unfold opBuiltin
  repeat' (first | rfl | exact opAppend_det | apply cond_det | apply bind_det | intro _ | split)

theorem exec1_det (hS : ∀ f s, E.sem f = some s → SemDet s) {o : Oper} : exec1 E o st K KP = (exec1 E o st vOut pOut).bind (fin K KP) := by
  unfold exec1
  split
  · rfl
  · rfl
  · split
    · exact cond_det rfl rfl
    · rfl
  · split <;> rfl
  · split
    · exact opNew_det
    · rfl
  · split
    · exact opNew_det
    · rfl
  · exact opBuild_det
  · exact opBuildSlice_det
  · exact opLoad_det
  · exact opStore_det
  · exact opBin_det
  · exact opUn_det
  · exact opConvert_det
  · exact opMakeSlice_det
  · exact opSlice_det
  · exact opFieldAddr_det
  · exact cond_det opField_det rfl
  · exact opIndexAddr_det
  · exact opIndex_det
  · split
    · split
      · rfl
      · rfl
    · rfl
  · split
    · exact opBuiltin_det
    · split
      · rename_i s hs; exact hS _ s hs _ _ _ _ _
      · rfl
    · rfl
  · split
    · split <;> rfl
    · rfl
  · split <;> rfl
  · rfl
end

/-- What an operation comes to. -/
def out1 (E : Env) (o : Oper) (st : St) : Option Out := exec1 E o st vOut pOut
theorem exec1_out {E : Env} (hS : ∀ f s, E.sem f = some s → SemDet s) {o : Oper} {st : St} {R : Type} {K KP : AVal → St → Option R} {r : R} (h : exec1 E o st K KP = some r) :
    ∃ u, out1 E o st = some u ∧ fin K KP u = some r := by
  rw [exec1_det hS] at h
  exact Option.bind_eq_some_iff.1 h
theorem exec1_of_out {E : Env} (hS : ∀ f s, E.sem f = some s → SemDet s) {o : Oper} {st : St} {R : Type} {K KP : AVal → St → Option R} {u : Out} (h : out1 E o st = some u) : exec1 E o st K KP = fin K KP u := by
  rw [exec1_det hS]; unfold out1 at h; rw [h]; rfl
end Go.Fx

/- The framework, eighteenth text: what stays behind a state stays; the interpreter minds its continuations alone. -/
namespace Go.Fx
set_option linter.unusedVariables false
set_option linter.unusedSimpArgs false

def Base (st s : St) : Prop := s.n = st.n ∧ s.bregs = st.bregs ∧ s.bleaves = st.bleaves ∧ s.barrs = st.barrs
theorem Base.refl (st : St) : Base st st := ⟨rfl, rfl, rfl, rfl⟩
theorem Base.trans {a b c : St} (h : Base a b) (k : Base b c) : Base a c := ⟨k.1.trans h.1, k.2.1.trans h.2.1, k.2.2.1.trans h.2.2.1, k.2.2.2.trans h.2.2.2⟩

/-- What a part of the memory covers. -/
def Pat.hits (p : Pat) (o j : Nat) : Prop := match p with | .o ob off n => ob = o ∧ off ≤ j ∧ j < off + n | .a _ => False
/-- One state comes of the other by changes within the parts, and new things. -/
structure Upd (W : List Pat) (st s : St) : Prop where
  base : Base st s
  regs : s.regs = st.regs
  obj : ∀ o ls, st.obj o = some ls → ∃ ls', s.obj o = some ls' ∧ ls'.length = ls.length ∧ ∀ j, (∀ q ∈ W, ¬ q.hits o j) → ls'[j]? = ls[j]?
  arr : ∀ a A, st.arr a = some A → Pat.a a ∉ W → s.arr a = some A
theorem Upd.refl (W : List Pat) (st : St) : Upd W st st := ⟨.refl _, rfl, fun o ls h => ⟨ls, h, rfl, fun _ _ => rfl⟩, fun _ _ h _ => h⟩
theorem Upd.trans {W : List Pat} {a b c : St} (h : Upd W a b) (k : Upd W b c) : Upd W a c :=
  ⟨h.base.trans k.base, k.regs.trans h.regs, fun o ls hl => by
    obtain ⟨l1, h1, h2, h3⟩ := h.obj o ls hl
    obtain ⟨l2, k1, k2, k3⟩ := k.obj o l1 h1
    exact ⟨l2, k1, k2.trans h2, fun j hj => (k3 j hj).trans (h3 j hj)⟩, fun x A hA hn => k.arr x A (h.arr x A hA hn) hn⟩
theorem Upd.mono {W W' : List Pat} {a b : St} (h : Upd W a b) (hs : ∀ q ∈ W, q ∈ W') : Upd W' a b :=
  ⟨h.base, h.regs, fun o ls hl => by
    obtain ⟨l1, h1, h2, h3⟩ := h.obj o ls hl
    exact ⟨l1, h1, h2, fun j hj => h3 j fun q hq => hj q (hs q hq)⟩, fun x A hA hn => h.arr x A hA fun hq => hn (hs _ hq)⟩
theorem Upd.newObj {W : List Pat} {st s : St} {o : Nat} {ls : List Leaf} (h : Upd W st s) (ho : s.obj o = none) : Upd W st (s.setObj o ls) :=
  h.trans ⟨⟨rfl, rfl, rfl, rfl⟩, rfl, fun q l hl => ⟨l, by rw [obj_setObj, if_neg (fun e => by subst e; rw [ho] at hl; cases hl)]; exact hl, rfl, fun _ _ => rfl⟩, fun a A hA _ => hA⟩
theorem Upd.newArr {W : List Pat} {st s : St} {a : Nat} {A : Arr} (h : Upd W st s) (ha : s.arr a = none) : Upd W st (s.setArr a A) :=
  h.trans ⟨⟨rfl, rfl, rfl, rfl⟩, rfl, fun q l hl => ⟨l, hl, rfl, fun _ _ => rfl⟩, fun x B hB _ => by rw [arr_setArr, if_neg (fun e => by subst e; rw [ha] at hB; cases hB)]; exact hB⟩
theorem Upd.setArr {W : List Pat} {st s : St} {a : Nat} {A : Arr} (h : Upd W st s) (ha : Pat.a a ∈ W) : Upd W st (s.setArr a A) :=
  h.trans ⟨⟨rfl, rfl, rfl, rfl⟩, rfl, fun q l hl => ⟨l, hl, rfl, fun _ _ => rfl⟩, fun x B hB hn => by rw [arr_setArr, if_neg (fun e => by subst e; exact hn ha)]; exact hB⟩
theorem Upd.reArr {W : List Pat} {st s : St} {a dst : Nat} {A : Arr} (h : Upd W st s) (ha : Pat.a a ∈ W) (hd : s.arr dst = none) : Upd W st { s with arrs := (dst, A) :: del s.arrs a } :=
  h.trans ⟨⟨rfl, rfl, rfl, rfl⟩, rfl, fun q l hl => ⟨l, hl, rfl, fun _ _ => rfl⟩, fun x B hB hn => by
    have e1 : x ≠ a := fun e => by subst e; exact hn ha
    have e2 : x ≠ dst := fun e => by subst e; rw [hd] at hB; cases hB
    simp only [St.arr, look_cons, look_del, if_neg (Ne.symm e1), if_neg (Ne.symm e2)]; exact hB⟩

theorem cond_cong {α : Type} {c : Bool} {a a' b b' : α} (h : a = a') (k : b = b') : cond c a b = cond c a' b' := by rw [h, k]
theorem cond_congH {α : Type} {c : Bool} {a a' b b' : α} (h : c = true → a = a') (k : c = false → b = b') : cond c a b = cond c a' b' := by
  cases c
  · exact k rfl
  · exact h rfl
theorem bind_cong {α β : Type} {x : Option α} {f g : α → Option β} (h : ∀ y, f y = g y) : x.bind f = x.bind g := by rw [funext h]

section
variable {E : Env} {R : Type} {st : St} {T : TypeId} {x y v : AVal} {dst : Nat}

theorem opLoad_cong {K K' : AVal → St → Option R} (h : ∀ v, K v st = K' v st) : opLoad E T x st K = opLoad E T x st K' := by
  unfold opLoad
  repeat' (first | rfl | exact h _ | apply cond_cong | apply bind_cong | intro _ | split)
theorem opFieldAddr_cong {f : Nat} {K K' : AVal → St → Option R} (h : ∀ v, K v st = K' v st) : opFieldAddr E T x f st K = opFieldAddr E T x f st K' := by
  unfold opFieldAddr
  repeat' (first | rfl | exact h _ | apply cond_cong | apply bind_cong | intro _ | split)
theorem opField_cong {f : Nat} {K K' : AVal → St → Option R} (h : ∀ v, K v st = K' v st) : opField E T x f st K = opField E T x f st K' := by
  unfold opField
  repeat' (first | rfl | exact h _ | apply cond_cong | apply bind_cong | intro _ | split)
theorem opIndexAddr_cong {K K' : AVal → St → Option R} (h : ∀ v, K v st = K' v st) : opIndexAddr E T x y st K = opIndexAddr E T x y st K' := by
  unfold opIndexAddr
  repeat' (first | rfl | exact h _ | apply cond_cong | apply bind_cong | intro _ | split)
theorem opIndex_cong {K K' : AVal → St → Option R} (h : ∀ v, K v st = K' v st) : opIndex E T x y st K = opIndex E T x y st K' := by
  unfold opIndex
  repeat' (first | rfl | exact h _ | apply cond_cong | apply bind_cong | intro _ | split)
theorem hdlsL_mem {a : Nat} : ∀ {ls : List Leaf}, Leaf.hdl a ∈ ls → Pat.a a ∈ hdlsL ls
  | l :: r, h => by
    rcases List.mem_cons.1 h with rfl | h
    · exact List.mem_cons_self ..
    · have := hdlsL_mem h
      cases l <;> first | exact this | exact List.mem_cons_of_mem _ this
theorem share1_upd {l : Leaf} {s : St} (h : st.share1 l = some s) : Upd (hdlsL [l]) st s := by
  unfold St.share1 at h
  split at h
  · split at h
    · rename_i A _
      cases hs : A.sh with
      | true => simp only [hs, cond_true, Option.some.injEq] at h; subst h; exact .refl _ _
      | false =>
        cases hw : A.own with
        | false => simp [hs, hw] at h
        | true => simp only [hs, hw, cond_false, cond_true, Option.some.injEq] at h; subst h; exact (Upd.refl _ _).setArr (by simp [hdlsL])
    · split at h
      · rename_i A _
        cases hs : A.sh <;> simp [hs] at h
        subst h; exact .refl _ _
      · cases h
  · cases h; exact .refl _ _
theorem hdlsL_cons {l : Leaf} {ls : List Leaf} : hdlsL (l :: ls) = hdlsL [l] ++ hdlsL ls := by cases l <;> rfl
theorem shareL_upd : ∀ {ls : List Leaf} {st s : St}, st.shareL ls = some s → Upd (hdlsL ls) st s
  | [], st, s, h => by cases h; exact .refl _ _
  | l :: r, st, s, h => by
    simp only [St.shareL] at h
    split at h
    · rename_i q hq
      rw [hdlsL_cons]
      exact ((share1_upd hq).mono fun q hq => List.mem_append_left _ hq).trans ((shareL_upd h).mono fun q hq => List.mem_append_right _ hq)
    · cases h
theorem shared_upd {s : St} (h : v.shared st = some s) : Upd v.hdls st s := by
  unfold AVal.shared at h
  split at h
  · exact share1_upd h
  · exact shareL_upd h
  · cases h
  · exact shareL_upd h
theorem share1_base {l : Leaf} {s : St} (h : st.share1 l = some s) : Base st s := (share1_upd h).base
theorem shareL_base {ls : List Leaf} {st s : St} (h : st.shareL ls = some s) : Base st s := (shareL_upd h).base
theorem shared_base {s : St} (h : v.shared st = some s) : Base st s := (shared_upd h).base
theorem sliceParts_upd {t : Ty} : ∀ {ps : List (Nat × AVal)} {i : Nat} {st s : St} {l : List t.den}, sliceParts t i ps st = some (l, s) → Upd (hdlsV (ps.map (·.2))) st s
  | [], i, st, s, l, h => by simp only [sliceParts, Option.some.injEq, Prod.mk.injEq] at h; obtain ⟨_, rfl⟩ := h; exact .refl _ _
  | (j, v) :: r, i, st, s, l, h => by
    simp only [sliceParts] at h
    cases hb : Nat.beq i j with
    | false => simp [hb] at h
    | true =>
      simp only [hb, cond_true] at h
      split at h
      · rename_i q hq
        split at h
        · split at h
          · rename_i l' s' hp
            simp only [Option.some.injEq, Prod.mk.injEq] at h
            obtain ⟨_, rfl⟩ := h
            exact ((shared_upd hq).mono fun q hq => List.mem_append_left _ hq).trans ((sliceParts_upd hp).mono fun q hq => List.mem_append_right _ hq)
          · cases h
        · cases h
      · cases h
theorem hdls_leaves {v : AVal} {ls : List Leaf} (h : v.leaves = some ls) : ∀ q ∈ hdlsL ls, q ∈ v.hdls := by
  have ex : ∀ (t : Ty) (d : t.den), hdlsL (explode t d) = [] := by
    have app : ∀ l m : List Leaf, hdlsL (l ++ m) = hdlsL l ++ hdlsL m := by
      intro l m
      induction l with
      | nil => rfl
      | cons x l ih => cases x <;> simp [hdlsL, ih]
    intro t
    induction t with
    | pair a b iha ihb => intro d; simp only [explode, app, iha, ihb]; rfl
    | one a ih => intro d; exact ih d
    | arr n t ih =>
      intro d
      simp only [explode]
      induction (show List t.den from d) with
      | nil => rfl
      | cons x l ihl => rw [List.flatMap_cons, app, ih, ihl]; rfl
    | _ => intro d; rfl
  unfold AVal.leaves at h
  split at h
  · simp only [Option.some.injEq] at h; subst h; simp [ex]
  · simp only [Option.some.injEq] at h; subst h; simp [ex]
  · simp only [Option.some.injEq] at h; subst h; simp [ex]
  · rename_i l _ _ _
    cases hc : l.cell <;> simp [hc] at h
    subst h; exact fun q hq => hq
  · simp only [Option.some.injEq] at h; subst h; exact fun q hq => hq
  · cases h
theorem place_get {α : Type} {l v : List α} {off : Nat} (h : off + v.length ≤ l.length) {j : Nat} (hj : ¬ (off ≤ j ∧ j < off + v.length)) : (place l off v)[j]? = l[j]? := by
  unfold place
  by_cases h1 : j < off
  · rw [List.getElem?_append_left (by simp; omega), List.getElem?_take_of_lt h1]
  · rw [List.getElem?_append_right (by simp; omega), List.getElem?_append_right (by simp; omega), List.getElem?_drop]
    congr 1
    simp only [List.length_take]
    omega
theorem place_length {α : Type} {l v : List α} {off : Nat} (h : off + v.length ≤ l.length) : (place l off v).length = l.length := by
  unfold place; simp; omega
theorem opStore_cong {K K' : St → Option R} (h : ∀ s, Upd (match x.leaf with | .ptr ob off => [.o ob off (sizeOfT E T)] | .elt a _ _ _ => .a a :: v.hdls | _ => []) st s → K s = K' s) : opStore E T x v st K = opStore E T x v st K' := by
  unfold opStore
  split
  · rename_i ti vs hT hv
    cases hc : (Nat.beq vs.length ti.size && vs.all Leaf.cell) with
    | false => rfl
    | true =>
      simp only [cond_true]
      simp only [Bool.and_eq_true] at hc
      have hlen := Nat.eq_of_beq_eq_true hc.1
      split
      · rename_i ob off hx
        rw [hx] at h
        split
        · rename_i ls ho
          split
          · rename_i c hs
            refine cond_cong rfl (h _ ⟨⟨rfl, rfl, rfl, rfl⟩, rfl, fun o l hl => ?_, fun a A hA _ => hA⟩)
            have hfit : off + vs.length ≤ ls.length := by
              unfold slots at hs
              cases hb : Nat.ble (off + ti.size) ls.length with
              | false => simp [hb] at hs
              | true => rw [hlen]; exact Nat.le_of_ble_eq_true hb
            by_cases e : ob = o
            · subst e
              rw [ho] at hl
              cases hl
              refine ⟨place ls off vs, by rw [obj_setObj, if_pos rfl], place_length hfit, fun j hj => place_get hfit fun hh => hj _ (List.mem_singleton.2 rfl) ⟨rfl, hh.1, ?_⟩⟩
              rw [show sizeOfT E T = vs.length by simp only [sizeOfT, hT]; exact hlen.symm]; exact hh.2
            · exact ⟨l, by rw [obj_setObj, if_neg e]; exact hl, rfl, fun _ _ => rfl⟩
          · rfl
        · rfl
      · rename_i a sz i off hx
        rw [hx] at h
        split
        · rfl
        · rename_i st' hs
          split
          · refine cond_cong rfl (bind_cong fun d => cond_cong ?_ rfl)
            split
            · exact h _ (((shareL_upd hs).mono fun q hq => List.mem_cons_of_mem _ (hdls_leaves hv q hq)).setArr (List.mem_cons_self ..))
            · rfl
          · rfl
      · rfl
  · rfl
theorem opSlice_cong {lo hi mx : Option AVal} {K K' : AVal → St → Option R} (h : ∀ v s, Upd (hdlsL [x.leaf]) st s → K v s = K' v s) : opSlice E T dst x lo hi mx st K = opSlice E T dst x lo hi mx st K' := by
  unfold opSlice
  repeat' (first | rfl | exact h _ _ (.refl _ _) | apply cond_congH | apply bind_cong | intro _ | split)
  all_goals
    rename_i hc _
    refine h _ _ ((Upd.refl _ _).reArr (by rw [‹x.leaf = Leaf.hdl _›]; simp [hdlsL]) ?_)
    simp only [Bool.or_eq_false_iff] at hc
    simpa using hc.1.2
theorem opBin_cong {op : BinOp} {K K' : AVal → Option R} (h : ∀ v, K v = K' v) : opBin E op T x y K = opBin E op T x y K' := by rw [funext h]
theorem opUn_cong {op : UnOp} {K K' : AVal → Option R} (h : ∀ v, K v = K' v) : opUn op x K = opUn op x K' := by rw [funext h]
theorem opConvert_cong {S D : TypeId} {K K' : AVal → St → Option R} (h : ∀ v, K v st = K' v st) : opConvert E S D x st K = opConvert E S D x st K' := by
  unfold opConvert
  repeat' (first | rfl | exact h _ | apply cond_cong | apply bind_cong | intro _ | split)
theorem opBuild_cong {ps : List (Nat × AVal)} {K K' : AVal → St → Option R} (h : ∀ v, K v st = K' v st) : opBuild E T ps st K = opBuild E T ps st K' := by
  unfold opBuild
  repeat' (first | rfl | exact h _ | apply cond_cong | apply bind_cong | intro _ | split)
theorem opBuildSlice_cong {len : Nat} {ps : List (Nat × AVal)} {K K' : AVal → St → Option R} (h : ∀ v s, Upd (hdlsV (ps.map (·.2))) st s → K v s = K' v s) : opBuildSlice E T dst len ps st K = opBuildSlice E T dst len ps st K' := by
  unfold opBuildSlice
  repeat' (first | rfl | exact h _ _ ((sliceParts_upd ‹sliceParts _ _ _ _ = some _›).newArr ‹St.arr _ _ = none›) | apply cond_cong | apply bind_cong | intro _ | split)
theorem opMakeSlice_cong {K K' : AVal → St → Option R} (h : ∀ v s, Upd [] st s → K v s = K' v s) : opMakeSlice E T dst x y st K = opMakeSlice E T dst x y st K' := by
  unfold opMakeSlice
  repeat' (first | rfl | exact h _ _ ((Upd.refl _ _).newArr ‹St.arr _ _ = none›) | apply cond_cong | apply bind_cong | intro _ | split)
theorem opNew_cong {o : Nat} {ls : List Leaf} {K K' : AVal → St → Option R} (h : ∀ v s, Upd [] st s → K v s = K' v s) : opNew E T o ls st K = opNew E T o ls st K' := by
  unfold opNew
  repeat' (first | rfl | exact h _ _ ((Upd.refl _ _).newObj ‹St.obj _ _ = none›) | apply cond_cong | apply bind_cong | intro _ | split)
theorem opAppend_cong {K K' : AVal → St → Option R} (h : ∀ v s, Upd (hdlsV [x, y]) st s → K v s = K' v s) : opAppend E T dst x y st K = opAppend E T dst x y st K' := by
  unfold opAppend
  repeat' (first | rfl | (have hb := shared_upd ‹AVal.shared _ _ = some _›; exact h _ _ ((hb.mono fun q hq => by simp [hdlsV, hq]).newArr ‹St.arr _ _ = none›)) | apply cond_cong | apply bind_cong | intro _ | split)
  all_goals
    have hb := shared_upd ‹AVal.shared _ _ = some _›
    refine h _ _ ((hb.mono fun q hq => by simp [hdlsV, hq]).reArr ?_ ‹St.arr _ _ = none›)
    have hx := ‹x.leaf = Leaf.hdl _›
    cases x <;> simp [AVal.leaf] at hx
    subst hx
    simp [hdlsV, AVal.hdls, hdlsL]
theorem opBuiltin_cong {b : Builtin} {ts : List TypeId} {vs : List AVal} {K K' : AVal → St → Option R} (h : ∀ v s, Upd (hdlsV vs) st s → K v s = K' v s) : opBuiltin E b dst ts vs st K = opBuiltin E b dst ts vs st K' := by
  unfold opBuiltin
  repeat' (first | rfl | exact h _ _ (.refl _ _) | exact opAppend_cong h | apply cond_cong | apply bind_cong | intro _ | split)

def SemCong (s : CSem) : Prop := ∀ {R : Type} {dst : Nat} {args : List AVal} {st : St} {K K' KP KP' : AVal → St → Option R},
  (∀ v q, Upd (s.foot args st) st q → K v q = K' v q) → (∀ v q, Base st q → KP v q = KP' v q) → s.run dst args st K KP = s.run dst args st K' KP'
def LoopCong (L : LoopSem) : Prop := ∀ {R : Type} {st : St} {K K' : Exit → St → Option R} {KP KP' : AVal → St → Option R},
  (∀ e q, Base st q → K e q = K' e q) → (∀ v q, Base st q → KP v q = KP' v q) → L.run st K KP = L.run st K' KP'

theorem exec1_congU (hS : ∀ f s, E.sem f = some s → SemCong s) {o : Oper} {K K' KP KP' : AVal → St → Option R} (h : ∀ v s, Upd (writes E o st) st s → K v s = K' v s) (hp : ∀ v s, Base st s → KP v s = KP' v s) :
    exec1 E o st K KP = exec1 E o st K' KP' := by
  have h0 : ∀ v, K v st = K' v st := fun v => h v st (.refl _ _)
  have p0 : ∀ v, KP v st = KP' v st := fun v => hp v st (.refl _)
  unfold exec1
  split
  · exact h0 _
  · exact h0 _
  · split
    · exact cond_cong (h0 _) (h0 _)
    · rfl
  · split <;> first | exact h0 _ | rfl
  · split
    · exact opNew_cong fun v s hs => h v s (hs.mono fun q hq => by cases hq)
    · rfl
  · split
    · exact opNew_cong fun v s hs => h v s (hs.mono fun q hq => by cases hq)
    · rfl
  · exact opBuild_cong h0
  · rename_i T len parts ho
    exact opBuildSlice_cong fun v s hs => h v s (hs.mono fun q hq => by rw [List.map_map] at hq; simp only [writes, ho]; exact hq)
  · exact opLoad_cong h0
  · rename_i T x v ho
    exact opStore_cong (fun s hs => h _ s (hs.mono fun q hq => by simp only [writes, ho]; split <;> rename_i hx <;> simpa only [hx] using hq))
  · exact opBin_cong h0
  · exact opUn_cong h0
  · exact opConvert_cong h0
  · exact opMakeSlice_cong fun v s hs => h v s (hs.mono fun q hq => by cases hq)
  · rename_i T x lo hi mx ho
    exact opSlice_cong fun v s hs => h v s (hs.mono fun q hq => by simpa only [writes, ho] using hq)
  · exact opFieldAddr_cong h0
  · exact cond_cong (opField_cong h0) rfl
  · exact opIndexAddr_cong h0
  · exact opIndex_cong h0
  · split
    · split
      · exact h0 _
      · rfl
    · rfl
  · rename_i c ho
    split
    · rename_i b hb
      exact opBuiltin_cong fun v s hs => h v s (hs.mono fun q hq => by simpa only [writes, ho, hb] using hq)
    · rename_i f hf
      split
      · rename_i s hs; exact hS _ s hs (fun v q hq => h v q (hq.mono fun p hp => by simpa only [writes, ho, hf, hs] using hp)) hp
      · rfl
    · rfl
  · split
    · split
      · rfl
      · exact h0 _
      · rfl
    · rfl
  · split
    · exact p0 _
    · rfl
  · rfl
theorem exec1_cong (hS : ∀ f s, E.sem f = some s → SemCong s) {o : Oper} {K K' KP KP' : AVal → St → Option R} (h : ∀ v s, Base st s → K v s = K' v s) (hp : ∀ v s, Base st s → KP v s = KP' v s) :
    exec1 E o st K KP = exec1 E o st K' KP' := exec1_congU hS (fun v s hs => h v s hs.base) hp
/-- What only reads is asked for its value alone. -/
theorem exec1_congS {o : Oper} (ho : isStill o.op = true) (hd : dynOk E o st = true) {K K' KP KP' : AVal → St → Option R} (h0 : ∀ v, K v st = K' v st) :
    exec1 E o st K KP = exec1 E o st K' KP' := by
  unfold exec1
  split <;> rename_i hop <;> simp only [hop, isStill, Bool.false_eq_true] at ho
  · exact h0 _
  · exact h0 _
  · split
    · exact cond_cong (h0 _) (h0 _)
    · rfl
  · split <;> first | exact h0 _ | rfl
  · exact opBuild_cong h0
  · exact opLoad_cong h0
  · exact opBin_cong h0
  · exact opUn_cong h0
  · exact opConvert_cong h0
  · simp only [dynOk, hop] at hd
    unfold opSlice
    repeat' (first | rfl | exact h0 _ | apply cond_congH | apply bind_cong | intro _ | split)
    all_goals simp_all
  · exact opFieldAddr_cong h0
  · exact cond_cong (opField_cong h0) rfl
  · exact opIndexAddr_cong h0
  · exact opIndex_cong h0
  · split
    · split
      · exact h0 _
      · rfl
    · rfl
  · split
    · rename_i b hb
      simp only [hb] at ho
      unfold opBuiltin
      split
      · repeat' (first | rfl | exact h0 _ | apply cond_cong | apply bind_cong | intro _ | split)
      · simp at ho
      · repeat' (first | rfl | exact h0 _ | apply cond_cong | apply bind_cong | intro _ | split)
      · repeat' (first | rfl | exact h0 _ | apply cond_cong | apply bind_cong | intro _ | split)
      · rfl
    · rename_i f hf; simp only [hf, Bool.false_eq_true] at ho
    · rfl
  · split
    · split
      · rfl
      · exact h0 _
      · rfl
    · rfl

theorem putK_cong {d : Option Tmp} {v : AVal} {K K' : St → Option R} (h : ∀ s, Base st s → K s = K' s) : putK d v st K = putK d v st K' := by
  cases d with
  | none => exact h _ (.refl _)
  | some d => exact cond_cong rfl (h _ ⟨rfl, rfl, rfl, rfl⟩)

theorem runOps_cong (hS : ∀ f s, E.sem f = some s → SemCong s) {all : List Oper} : ∀ {l : List Oper} {st : St} {K K' : St → Option R} {KP KP' : AVal → St → Option R}, (∀ s, Base st s → K s = K' s) → (∀ v s, Base st s → KP v s = KP' v s) →
    runOps E all l st K KP = runOps E all l st K' KP'
  | [], st, K, K', KP, KP', h, hp => h _ (.refl _)
  | o :: rest, st, K, K', KP, KP', h, hp => by
    have step : ∀ q, Base st q → exec1 E o q (fun v st' => putK o.dst v st' fun s => runOps E all rest s K KP) KP = exec1 E o q (fun v st' => putK o.dst v st' fun s => runOps E all rest s K' KP') KP' := fun q hq =>
      exec1_cong hS (fun v s hs => putK_cong fun s' hs' => runOps_cong hS (fun s'' hs'' => h _ (hq.trans (hs.trans (hs'.trans hs'')))) (fun v s'' hs'' => hp _ _ (hq.trans (hs.trans (hs'.trans hs''))))) (fun v s hs => hp _ _ (hq.trans hs))
    have skip : ∀ q, Base st q → putK o.dst (.one .und) q (fun s => runOps E all rest s K KP) = putK o.dst (.one .und) q (fun s => runOps E all rest s K' KP') := fun q hq =>
      putK_cong fun s hs => runOps_cong hS (fun s'' hs'' => h _ (hq.trans (hs.trans hs''))) (fun v s'' hs'' => hp _ _ (hq.trans (hs.trans hs'')))
    simp only [runOps]
    split
    · exact step _ (.refl _)
    · split
      · rfl
      · split
        · exact cond_cong (cond_cong (step _ ⟨rfl, rfl, rfl, rfl⟩) (skip _ ⟨rfl, rfl, rfl, rfl⟩)) (cond_cong (skip _ ⟨rfl, rfl, rfl, rfl⟩) (step _ ⟨rfl, rfl, rfl, rfl⟩))
        · exact skip _ (.refl _)
        · rfl

theorem stepD_cong (hS : ∀ f s, E.sem f = some s → SemCong s) {all : List Oper} {A : List (List Nat)} {i : Nat} {o : Oper} {log : List (Nat × List Pat)} {K K' : List (Nat × List Pat) → St → Option R} {KP KP' : AVal → St → Option R}
    (h : ∀ lg s, Base st s → K lg s = K' lg s) (hp : ∀ v s, Base st s → KP v s = KP' v s) : stepD E all A i o log st K KP = stepD E all A i o log st K' KP' := by
  unfold stepD
  refine cond_cong (cond_cong (exec1_cong hS (fun v s hs => putK_cong fun s' hs' => h _ _ (hs.trans hs')) fun v s hs => hp _ _ hs) rfl) (cond_cong (exec1_cong hS (fun v s hs => putK_cong fun s' hs' => h _ _ (hs.trans hs')) fun v s hs => rfl) rfl)
theorem runD_cong (hS : ∀ f s, E.sem f = some s → SemCong s) {all : List Oper} {A : List (List Nat)} : ∀ {l : List Nat} {log : List (Nat × List Pat)} {st : St} {K K' : St → Option R} {KP KP' : AVal → St → Option R}, (∀ s, Base st s → K s = K' s) → (∀ v s, Base st s → KP v s = KP' v s) →
    runD E all A l log st K KP = runD E all A l log st K' KP'
  | [], log, st, K, K', KP, KP', h, hp => h _ (.refl _)
  | i :: rest, log, st, K, K', KP, KP', h, hp => by
    have step : ∀ o q, Base st q → stepD E all A i o log q (fun lg s => runD E all A rest lg s K KP) KP = stepD E all A i o log q (fun lg s => runD E all A rest lg s K' KP') KP' := fun o q hq =>
      stepD_cong hS (fun lg s hs => runD_cong hS (fun s' hs' => h _ (hq.trans (hs.trans hs'))) (fun v s' hs' => hp _ _ (hq.trans (hs.trans hs')))) (fun v s hs => hp _ _ (hq.trans hs))
    have skip : ∀ (o : Oper) q, Base st q → putK o.dst (.one .und) q (fun s => runD E all A rest log s K KP) = putK o.dst (.one .und) q (fun s => runD E all A rest log s K' KP') := fun o q hq =>
      putK_cong fun s hs => runD_cong hS (fun s'' hs'' => h _ (hq.trans (hs.trans hs''))) (fun v s'' hs'' => hp _ _ (hq.trans (hs.trans hs'')))
    simp only [runD, runD1]
    split
    · rfl
    · split
      · exact step _ _ (.refl _)
      · split
        · rfl
        · split
          · exact cond_cong (cond_cong (step _ _ ⟨rfl, rfl, rfl, rfl⟩) (skip _ _ ⟨rfl, rfl, rfl, rfl⟩)) (cond_cong (skip _ _ ⟨rfl, rfl, rfl, rfl⟩) (step _ _ ⟨rfl, rfl, rfl, rfl⟩))
          · exact skip _ _ (.refl _)
          · rfl
theorem runR_cong (hS : ∀ f s, E.sem f = some s → SemCong s) {ops : List Oper} {K K' : St → Option R} {KP KP' : AVal → St → Option R} (h : ∀ s, Base st s → K s = K' s) (hp : ∀ v s, Base st s → KP v s = KP' v s) :
    runR E ops st K KP = runR E ops st K' KP' := by
  unfold runR
  refine cond_cong ?_ rfl
  split
  · exact cond_cong (runD_cong hS h hp) rfl
  · rfl

theorem runC_cong (hS : ∀ f s, E.sem f = some s → SemCong s) (hL : ∀ i L, E.loops i = some L → LoopCong L) (c : Code) : ∀ {st : St} {K K' : Exit → St → Option R} {KP KP' : AVal → St → Option R},
    (∀ e s, Base st s → K e s = K' e s) → (∀ v s, Base st s → KP v s = KP' v s) → runC E c st K KP = runC E c st K' KP' := by
  induction c with
  | skip => intro st K K' KP KP' h hp; exact h _ _ (.refl _)
  | region id ops draw =>
    intro st K K' KP KP' h hp
    refine cond_cong ?_ (runOps_cong hS (fun s hs => h _ s hs) hp)
    cases hl : E.loops (id + 1000000) with
    | some L => exact hL _ _ hl h hp
    | none => exact runR_cong hS (fun s hs => h _ s hs) hp
  | seq a b iha ihb =>
    intro st K K' KP KP' h hp
    refine iha (fun e s hs => ?_) hp
    cases e with
    | normal => exact ihb (fun e s' hs' => h e s' (hs.trans hs')) (fun v s' hs' => hp v s' (hs.trans hs'))
    | _ => exact h _ s hs
  | cond c t e iht ihe =>
    intro st K K' KP KP' h hp
    show (match (ev E st c).bool? with | some b => bif b then runC E t st K KP else runC E e st K KP | none => none) = (match (ev E st c).bool? with | some b => bif b then runC E t st K' KP' else runC E e st K' KP' | none => none)
    split
    · exact cond_cong (iht h hp) (ihe h hp)
    · rfl
  | block id b ih =>
    intro st K K' KP KP' h hp
    show (match E.loops id with
      | some L => L.run st K KP
      | none => runC E b st (fun e s => match e with | .exit i => (bif Nat.beq i id then K .normal s else K (.exit i) s) | e => K e s) KP) = (match E.loops id with
      | some L => L.run st K' KP'
      | none => runC E b st (fun e s => match e with | .exit i => (bif Nat.beq i id then K' .normal s else K' (.exit i) s) | e => K' e s) KP')
    split
    · rename_i L hl; exact hL _ _ hl h hp
    · refine ih (fun e s hs => ?_) hp
      cases e with
      | exit i => exact cond_cong (h _ s hs) (h _ s hs)
      | _ => exact h _ s hs
  | exit id => intro st K K' KP KP' h hp; exact h _ _ (.refl _)
  | ret => intro st K K' KP KP' h hp; exact h _ _ (.refl _)
  | _ => intros; rfl
end
end Go.Fx

/- The framework: an operation that only reads comes to the same wherever what it reads is the same. -/
namespace Go.Fx
set_option linter.unusedVariables false
set_option linter.unusedSimpArgs false

section
variable {E : Env} {st s : St} {o : Oper}

theorem out1_still (hD : ∀ f s, E.sem f = some s → SemDet s) (ho : isStill o.op = true) (hd : dynOk E o st = true) {u : Out} (h : out1 E o st = some u) : u = ⟨u.v, st, true⟩ := by
  have h1 : exec1 E o st (fun v _ => vOut v st) (fun _ _ => none) = some u := by
    exact (exec1_congS (E := E) (st := st) ho hd (K := vOut) (K' := fun v _ => vOut v st) (KP := pOut) (KP' := fun _ _ => none) (fun v => rfl)).symm.trans h
  rw [exec1_of_out hD h] at h1
  obtain ⟨v, q, b⟩ := u
  cases b with
  | false => cases h1
  | true => simp only [fin, cond_true, vOut, Option.some.injEq, Out.mk.injEq] at h1; rw [← h1.2.1]
theorem out1_upd (hD : ∀ f s, E.sem f = some s → SemDet s) (hS : ∀ f s, E.sem f = some s → SemCong s) {u : Out} (h : out1 E o st = some u) : Base st u.s ∧ (u.ok = true → Upd (writes E o st) st u.s) := by
  classical
  have h1 : exec1 E o st (fun v q => if Upd (writes E o st) st q then vOut v q else none) (fun v q => if Base st q then pOut v q else none) = some u := by
    rw [← h]
    exact (exec1_congU hS (fun v q hq => (if_pos hq).symm) (fun v q hq => (if_pos hq).symm)).symm
  rw [exec1_of_out hD h] at h1
  obtain ⟨v, q, b⟩ := u
  cases b with
  | false =>
    simp only [fin, cond_false] at h1
    split at h1
    · rename_i hb; exact ⟨hb, fun e => by cases e⟩
    · cases h1
  | true =>
    simp only [fin, cond_true] at h1
    split at h1
    · rename_i hb; exact ⟨hb.base, fun _ => hb⟩
    · cases h1

def KeepP (st s : St) : Pat → Prop
  | .o ob off n => ∀ ls, st.obj ob = some ls → ∃ ls', s.obj ob = some ls' ∧ ls'.length = ls.length ∧ ∀ j, off ≤ j → j < off + n → ls'[j]? = ls[j]?
  | .a a => ∀ A, st.arr a = some A → s.arr a = some A
theorem KeepP.refl (st : St) : ∀ p, KeepP st st p
  | .o _ _ _ => fun ls h => ⟨ls, h, rfl, fun _ _ _ => rfl⟩
  | .a _ => fun _ h => h
theorem KeepP.trans {a b c : St} : ∀ {p : Pat}, KeepP a b p → KeepP b c p → KeepP a c p
  | .o _ _ _, h, k => fun ls hl => by
    obtain ⟨l1, h1, h2, h3⟩ := h ls hl
    obtain ⟨l2, k1, k2, k3⟩ := k l1 h1
    exact ⟨l2, k1, k2.trans h2, fun j a b => (k3 j a b).trans (h3 j a b)⟩
  | .a _, h, k => fun A hA => k A (h A hA)
theorem Upd.keep {W : List Pat} (h : Upd W st s) {p : Pat} (hp : ∀ q ∈ W, disj p q = true) : KeepP st s p := by
  cases p with
  | o ob off n =>
    intro ls hl
    obtain ⟨l1, h1, h2, h3⟩ := h.obj ob ls hl
    refine ⟨l1, h1, h2, fun j a b => h3 j fun q hq hh => ?_⟩
    have := hp q hq
    cases q with
    | a x => exact hh
    | o ob' off' n' =>
      obtain ⟨rfl, h4, h5⟩ := hh
      simp only [disj, Nat.beq_refl, Bool.not_true, Bool.false_or, Bool.or_eq_true] at this
      rcases this with e | e <;> have := Nat.le_of_ble_eq_true e <;> omega
  | a x =>
    intro A hA
    refine h.arr x A hA fun hx => ?_
    have := hp _ hx
    simp [disj] at this
theorem keep_regs {st s : St} (h1 : s.objs = st.objs) (h2 : s.arrs = st.arrs) (h3 : s.barrs = st.barrs) (p : Pat) : KeepP st s p := by
  cases p with
  | o ob off n => exact fun ls hl => ⟨ls, by simpa only [St.obj, h1] using hl, rfl, fun _ _ _ => rfl⟩
  | a x => exact fun A hA => by simpa only [St.arr, h2, h3] using hA

theorem resl_slots {st s : St} {o off n : Nat} {ls ls' : List Leaf} {c : List Leaf} (hb : s.bleaves = st.bleaves) (hl : ls'.length = ls.length) (hj : ∀ j, off ≤ j → j < off + n → ls'[j]? = ls[j]?) (h : slots (st.resl o 0 ls) off n = some c) : slots (s.resl o 0 ls') off n = some c := by
  have get : ∀ (q : St) (l : List Leaf) (i j : Nat), (q.resl o i l)[j]? = (l[j]?).map (q.res o (i + j)) := by
    intro q l
    induction l with
    | nil => intro i j; simp [St.resl]
    | cons x l ih =>
      intro i j
      cases j with
      | zero => simp [St.resl]
      | succ j => simp only [St.resl, List.getElem?_cons_succ]; rw [ih, show i + 1 + j = i + (j + 1) by omega]
  have hres : ∀ j l, s.res o j l = st.res o j l := fun j l => by cases l <;> simp [St.res, hb]
  unfold slots at h ⊢
  rw [resl_length] at h ⊢
  rw [hl]
  cases hc : Nat.ble (off + n) ls.length with
  | false => simp [hc] at h
  | true =>
    simp only [hc, cond_true, Option.some.injEq] at h ⊢
    rw [← h]
    apply List.ext_getElem?
    intro k
    by_cases hk : k < n
    · rw [List.getElem?_take_of_lt hk, List.getElem?_take_of_lt hk, List.getElem?_drop, List.getElem?_drop, get, get, hj _ (by omega) (by omega)]
      congr 1
      funext l; exact hres _ l
    · rw [List.getElem?_eq_none (by simp; omega), List.getElem?_eq_none (by simp; omega)]

/-- What only reads, where what it reads is as it was. -/
theorem still_same (ho : isStill o.op = true) (hd : dynOk E o st = true) (hb : Base st s) (he : ∀ x ∈ o.op.operands, ev E s x = ev E st x) (hk : ∀ p ∈ reads E o st, KeepP st s p) :
    dynOk E o s = true ∧ ∀ {R : Type} {r : R} {K : AVal → Option R}, exec1 E o st (fun v _ => K v) (fun _ _ => none) = some r → exec1 E o s (fun v _ => K v) (fun _ _ => none) = some r := by
  have hbl : s.bleaves = st.bleaves := hb.2.2.1
  have hdl : ∀ {x : Operand} {a : Nat}, (ev E st x).leaf = .hdl a → (∀ p ∈ hdlsL [(ev E st x).leaf], KeepP st s p) → ∀ A, st.arr a = some A → s.arr a = some A := fun {x a} hx hh A hA => hh (.a a) (by rw [hx]; simp [hdlsL]) A hA
  constructor
  · unfold dynOk at hd ⊢
    split
    · rename_i T x lo hi mx hop
      simp only [hop] at hd
      rw [he x (by simp [hop, Op.operands])]
      split
      · rename_i a ha
        rw [ha] at hd
        simp only at hd
        cases hA : st.arr a with
        | none => simp [hA] at hd
        | some A => rw [hdl ha (fun p hp => hk p (by simp only [reads, hop]; exact hp)) A hA]; simpa [hA] using hd
      · rfl
    · rfl
  · intro R r K h
    unfold exec1 at h ⊢
    split at h <;> rename_i hop <;> simp only [hop, isStill, Bool.false_eq_true] at ho
    · rw [he _ (by simp [hop, Op.operands])]; exact h
    · rw [he _ (by simp [hop, Op.operands])]; exact h
    · rename_i c a b
      rw [he c (by simp [hop, Op.operands]), he a (by simp [hop, Op.operands]), he b (by simp [hop, Op.operands])]; exact h
    · rw [he _ (by simp [hop, Op.operands])]; exact h
    · rename_i T parts
      have : (parts.toList.map fun p => (p.1, ev E s p.2)) = parts.toList.map fun p => (p.1, ev E st p.2) := List.map_congr_left fun p hp => by
        rw [he p.2 (by simp [hop, Op.operands]; exact ⟨p.1, by simpa using hp⟩)]
      rw [this]; exact h
    · rename_i T x
      rw [he x (by simp [hop, Op.operands])]
      have hk : ∀ p ∈ (match (ev E st x).leaf with | .ptr ob off => [Pat.o ob off (sizeOfT E T)] | .elt a _ _ _ => [.a a] | _ => []), KeepP st s p := fun p hp => hk p (by simp only [reads, hop]; exact hp)
      unfold opLoad at h ⊢
      split at h
      · cases h
      · rename_i ti hT
        simp only [hT]
        split at h
        · rename_i ob off hx
          rw [hx] at hk
          split at h
          · rename_i ls hl
            obtain ⟨ls', h1, h2, h3⟩ := hk _ (List.mem_singleton.2 rfl) ls hl
            split at h
            · rename_i c hc
              have hsz : sizeOfT E T = ti.size := by simp [sizeOfT, hT]
              rw [hsz] at h3
              simp only [h1, resl_slots hbl h2 h3 hc]; exact h
            · cases h
          · cases h
        · exact h
        · exact h
        · rename_i a sz i off hx
          rw [hx] at hk
          split at h
          · rename_i A hA
            simp only [hk _ (List.mem_singleton.2 rfl) A hA]; exact h
          · cases h
        · cases h
    · rename_i op T x y ty
      rw [he x (by simp [hop, Op.operands]), he y (by simp [hop, Op.operands])]; exact h
    · rename_i op T x
      rw [he x (by simp [hop, Op.operands])]; exact h
    · rename_i S D x
      rw [he x (by simp [hop, Op.operands])]
      have hk : ∀ p ∈ hdlsL [(ev E st x).leaf], KeepP st s p := fun p hp => hk p (by simp only [reads, hop]; exact hp)
      have hA : ∀ a, (ev E st x).leaf = .hdl a → ∀ A, st.arr a = some A → s.arr a = some A := fun a hx => hdl hx hk
      revert h hA
      generalize ev E st x = X
      intro h hA
      unfold opConvert at h ⊢
      split at h
      · rename_i si di hS hD
        split at h
        · exact h
        · exact h
        · rename_i l
          split at h
          · exact h
          · rename_i a _
            split at h
            · rename_i A hA'
              have := hA a rfl A hA'
              simp only [this]; exact h
            · cases h
          · cases h
        · cases h
      · cases h
    · rename_i T x lo hi mx
      have hk : ∀ p ∈ hdlsL [(ev E st x).leaf], KeepP st s p := fun p hp => hk p (by simp only [reads, hop]; exact hp)
      rw [he x (by simp [hop, Op.operands])]
      have e1 : lo.map (ev E s) = lo.map (ev E st) := by cases lo <;> simp; exact he _ (by simp [hop, Op.operands])
      have e2 : hi.map (ev E s) = hi.map (ev E st) := by cases hi <;> simp; exact he _ (by simp [hop, Op.operands])
      have e3 : mx.map (ev E s) = mx.map (ev E st) := by cases mx <;> simp; exact he _ (by simp [hop, Op.operands])
      rw [e1, e2, e3]
      simp only [dynOk, hop] at hd
      have hA : ∀ a, (ev E st x).leaf = .hdl a → ∀ A, st.arr a = some A → s.arr a = some A := fun a hx => hdl hx hk
      revert hd h hA
      generalize (ev E st x) = X
      generalize lo.map (ev E st) = LO
      generalize hi.map (ev E st) = HI
      generalize mx.map (ev E st) = MX
      intro h hd hA
      unfold opSlice at h ⊢
      split at h
      · exact h
      · split at h
        · split at h
          · rename_i hX; simp only [hX]; exact h
          · rename_i a hX
            rw [hX] at hd
            split at h
            · rename_i A hA'
              have := hA a hX A hA'
              simp only [hA'] at hd
              simp only [hX, this]
              simp only [hd, cond_true] at h ⊢
              exact h
            · cases h
          · cases h
        · cases h
      · cases h
    · rename_i T x f
      rw [he x (by simp [hop, Op.operands])]; exact h
    · rename_i T x f
      rw [he x (by simp [hop, Op.operands])]; exact h
    · rename_i T x i
      have hk : ∀ p ∈ hdlsL [(ev E st x).leaf], KeepP st s p := fun p hp => hk p (by simp only [reads, hop]; exact hp)
      rw [he x (by simp [hop, Op.operands]), he i (by simp [hop, Op.operands])]
      have hA : ∀ a, (ev E st x).leaf = .hdl a → ∀ A, st.arr a = some A → s.arr a = some A := fun a hx => hdl hx hk
      revert h hA
      generalize ev E st x = X
      generalize ev E st i = Y
      intro h hA
      unfold opIndexAddr at h ⊢
      split at h
      · split at h
        · split at h
          · rename_i hX; simp only [hX]; exact h
          · rename_i a hX
            split at h
            · rename_i A hA'
              simp only [hX, hA a hX A hA']; exact h
            · cases h
          · cases h
        · cases h
      · cases h
    · rename_i T x i
      rw [he x (by simp [hop, Op.operands]), he i (by simp [hop, Op.operands])]; exact h
    · rename_i x n
      rw [he x (by simp [hop, Op.operands])]; exact h
    · rename_i c
      have hk : ∀ p ∈ hdlsV (c.args.toList.map (ev E st)), KeepP st s p := fun p hp => hk p (by simp only [reads, hop]; exact hp)
      have ea : c.args.toList.map (ev E s) = c.args.toList.map (ev E st) := List.map_congr_left fun x hx => he x (by simp [hop, Op.operands, Call.operands]; exact .inr (by simpa using hx))
      rw [ea]
      split at h
      · rename_i b hb
        simp only [hb] at ho ⊢
        have lenS : ∀ {v : AVal} {n : Int}, (∀ p ∈ v.hdls, KeepP st s p) → lenOf st v.leaf = some n → lenOf s v.leaf = some n := fun {v n} hv hn => by
          cases v with
          | one l =>
            cases l with
            | hdl a =>
              simp only [AVal.leaf, lenOf] at hn ⊢
              cases hA : st.arr a with
              | none => simp [hA] at hn
              | some A => rw [hv (.a a) (by simp [AVal.hdls, hdlsL]) A hA]; simpa [hA] using hn
            | dat t d => cases t <;> exact hn
            | _ => exact hn
          | _ => exact hn
        revert hk h
        generalize c.args.toList.map (ev E st) = vs
        intro hk h
        unfold opBuiltin at h ⊢
        split at h
        · rename_i v
          split at h
          · exact h
          · split at h
            · rename_i n h2 h3
              simp only [lenS (fun p hp => hk p (by simp [hdlsV, hp])) h2, h3]; exact h
            · cases h
          · cases h
        · simp at ho
        · exact h
        · exact h
        · cases h
      · rename_i f hf; simp only [hf, Bool.false_eq_true] at ho
      · cases h
    · rename_i T x
      rw [he x (by simp [hop, Op.operands])]; exact h
end
end Go.Fx
