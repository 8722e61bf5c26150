/- The framework, tenth text: an owned array is written, grows in place, or is cut short. -/
import Derived.Test.YtafpgfdjfnoagaaFx9
namespace Go.Fx
set_option linter.unusedVariables false
set_option linter.unusedSimpArgs false

/-- An array's head block has another content; its name stays, or is a new one. -/
theorem RelM.reArr {X : Ctx} {st st' : St} {G : Gh} {w w' : World} (hm : RelM X st G w) {a dst : Nat} {A A' : Arr} (hA : st.arr a = some A) (hs : A.sh = false) (hs' : A'.sh = false)
    {b len cap cap' : Nat} {arr arr' : Array Value} {elem : TypeId} {H' : Heap} (hψ : G.ψ a = .slice (some ⟨b, 0, none⟩) len cap) (hHA : G.HA a = (b, Obj.cells arr elem (0, 0)) :: H')
    (hown : OwnBody (RepL (Rep G.S A'.deep A'.t)) A'.t.size [.slice (some ⟨b, 0, none⟩) A'.l.length cap'] A'.l ((b, Obj.cells arr' elem (0, 0)) :: H'))
    (hw : w'.heap[b]? = some (.cells arr' elem (0, 0))) (hwo : ∀ k, k ≠ b → w'.heap[k]? = w.heap[k]?) (hsz : w'.heap.size = w.heap.size) (hos : w'.os = w.os) (htp : w'.tape = w.tape) (hout : w'.output = w.output)
    (hk : Kept st st') (harr : ∀ q, st'.arr q = if q = dst then some A' else if q = a then none else st.arr q)
    (hdst : (dst = a ∧ Value.slice (some ⟨b, 0, none⟩) A'.l.length cap' = G.ψ a) ∨ (dst ≠ a ∧ st.arr dst = none ∧ st.ment true dst = false)) :
    ∃ G', RelM X st' G' w' ∧ (∀ act, RelR G st act → RelR G' st' act) ∧ RelV G' (.one (.hdl dst)) (.slice (some ⟨b, 0, none⟩) A'.l.length cap') := by
  let hd : Value := .slice (some ⟨b, 0, none⟩) A'.l.length cap'
  let G' : Gh := { G with ψ := fun q => if q = dst then hd else G.ψ q, HA := fun q => if q = dst then (b, Obj.cells arr' elem (0, 0)) :: H' else G.HA q }
  have hownA : ∀ p ∈ G.HA a, Owns G st (true, a) p.1 := fun p hp => ⟨⟨A, hA, hs⟩, p, hp, rfl⟩
  have hb_own : Owns G st (true, a) b := hownA (b, Obj.cells arr elem (0, 0)) (by rw [hHA]; simp)
  -- leaves
  have hrel : ∀ (l : Leaf) (v : Value), (dst ≠ a → l.ment true dst = false) → RelL G l v → RelL G' l v := fun l v hl r => by
    by_cases e : dst = a
    · subst e
      have h2 : hd = G.ψ dst := by
        rcases hdst with ⟨_, h⟩ | ⟨h, _⟩
        · exact h
        · exact absurd rfl h
      have hψ' : G'.ψ = G.ψ := funext fun q => by
        by_cases hq : q = dst
        · subst hq; simp [G', h2]
        · simp [G', hq]
      cases l with
      | hdl q => simp only [RelL, hψ']; exact r
      | elt q s i off => simp only [RelL, hψ']; exact r
      | _ => exact r
    · have hle : G.Le G' true dst := ⟨fun _ _ h => h, fun _ _ => rfl, fun _ _ => rfl, fun q h => by simp [G', h rfl]⟩
      exact r.le hle (hl e)
  have hrelV : ∀ (v : AVal) (u : Value), (dst ≠ a → v.ment true dst = false) → RelV G v u → RelV G' v u := fun v u hl r => by
    by_cases e : dst = a
    · have hl' : ∀ l v, RelL G l v → RelL G' l v := fun l v => hrel l v (fun h => absurd e h)
      cases v with
      | one l => exact hl' _ _ r
      | agg ls => obtain ⟨cs, e, hr⟩ := r; exact ⟨cs, e, hr.imp fun _ _ => hl' _ _⟩
      | tup vs =>
        obtain ⟨us, e, hr⟩ := r
        refine ⟨us, e, hr.imp fun p u hpu => ?_⟩
        split at hpu
        · rename_i hc; simp only [hc, if_true]; obtain ⟨cs, e, hr⟩ := hpu; exact ⟨cs, e, hr.imp fun _ _ => hl' _ _⟩
        · rename_i hc
          obtain ⟨l, e, hr⟩ := hpu
          simp only [Bool.not_eq_true] at hc
          simp only [hc, Bool.false_eq_true, if_false]
          exact ⟨l, e, hl' _ _ hr⟩
      | ifc t ls => obtain ⟨u, cs, e1, e2, hr⟩ := r; exact ⟨u, cs, e1, e2, hr.imp fun _ _ => hl' _ _⟩
    · have hle : G.Le G' true dst := ⟨fun _ _ h => h, fun _ _ => rfl, fun _ _ => rfl, fun q h => by simp [G', h rfl]⟩
      exact r.le hle (hl e)
  have hmd : dst ≠ a → st.ment true dst = false := fun h => by rcases hdst with ⟨e, _⟩ | ⟨_, _, h⟩; exact absurd e h; exact h
  -- who owns
  have hOwn : ∀ x c, Owns G' st' x c → (x = (true, dst) ∧ Owns G st (true, a) c) ∨ (Owns G st x c ∧ x ≠ (true, a) ∧ x ≠ (true, dst)) := fun x c hx => by
    obtain ⟨k, n⟩ := x
    cases k with
    | false =>
      obtain ⟨⟨ls, hl⟩, rfl⟩ := hx
      rw [hk.obj] at hl
      exact .inr ⟨⟨⟨ls, hl⟩, rfl⟩, by simp, by simp⟩
    | true =>
      obtain ⟨⟨B, hB, hBs⟩, p, hp, rfl⟩ := hx
      rw [harr] at hB
      by_cases e : n = dst
      · subst e
        simp only [G', if_true, List.mem_cons] at hp
        refine .inl ⟨rfl, ?_⟩
        rcases hp with rfl | hp
        · exact hb_own
        · exact hownA p (by rw [hHA]; simp [hp])
      · simp only [e, if_false] at hB
        by_cases e2 : n = a
        · simp [e2] at hB
        · simp only [e2, if_false] at hB
          simp only [G', e, if_false] at hp
          exact .inr ⟨⟨⟨B, hB, hBs⟩, p, hp, rfl⟩, by simpa using e2, by simpa using e⟩
  have hnb : ∀ x c, Owns G st x c → x ≠ (true, a) → c ≠ b := fun x c h hx e => hx (hm.dis x (true, a) b (e ▸ h) hb_own)
  refine ⟨G', ?_, ?_, by simp [RelV, RelL, G', hd]⟩
  · refine { sl := ?_, sh := ?_, ob := ?_, ar := ?_, ah := ?_, nd := ?_, dis := ?_, dS := ?_, inn := ?_, s0 := hm.s0, sn := hm.sn, fr := ?_, sz := ?_, os := hos.trans hm.os, tp := htp.trans hm.tp, out := hout.trans hm.out, pin := fun o p h => (by obtain ⟨⟨l, h1⟩, h2⟩ := hm.pin o p h; exact ⟨⟨l, by rw [hk.obj]; exact h1⟩, h2⟩), bv := fun o j u h => (by obtain ⟨h1, ⟨l, h2, h3⟩, arr0, elem0, h4, h5⟩ := hm.bv o j u h; exact ⟨by rw [hk.bl]; exact h1, ⟨l, by rw [hk.obj]; exact h2, h3⟩, arr0, elem0, by rw [hwo _ (hnb (false, o) _ ⟨⟨l, h2⟩, rfl⟩ (by simp))]; exact h4, h5⟩) }
    · intro q
      by_cases e : q = dst
      · exact ⟨some ⟨b, 0, none⟩, A'.l.length, cap', by simp [G', e, hd]⟩
      · obtain ⟨b, n, c, h⟩ := hm.sl q; exact ⟨b, n, c, by simp [G', e, h]⟩
    · intro c o hc
      have : c ≠ b := fun e => by have := hm.dS _ _ hb_own; rw [← e] at this; rw [show G'.S = G.S from rfl, this] at hc; cases hc
      rw [hwo c this]; exact hm.sh c o hc
    · intro o ls ho
      rw [hk.obj] at ho
      obtain ⟨arr0, elem0, mid, g1, g2, g3⟩ := hm.ob o ls ho
      have hne : G.φ o ≠ b := hnb (false, o) _ ⟨⟨ls, ho⟩, rfl⟩ (by simp)
      refine ⟨arr0, elem0, mid, by rw [hwo _ hne]; exact g1, g2, ?_⟩
      unfold LeavesRel at g3 ⊢
      rw [resl_congr (st := st) (fun j l => hk.res o j l)]
      refine g3.impMem fun l v hl hr => hrel l v (fun hne => ?_) hr
      have := ment_obj (hmd hne) ho 0
      have := List.any_eq_false.1 this l hl
      simpa using this
    · intro q B hB
      rw [harr] at hB
      by_cases e : q = dst
      · subst e
        simp only [if_true, Option.some.injEq] at hB
        subst hB
        simp only [ArrRel, hs', Bool.false_eq_true, if_false]
        simpa [G', hd] using hown
      · simp only [e, if_false] at hB
        by_cases e2 : q = a
        · simp [e2] at hB
        · simp only [e2, if_false] at hB
          have := hm.ar q B hB
          simpa only [ArrRel, G', e, if_false] using this
    · intro q B hB hBs p hp
      rw [harr] at hB
      by_cases e : q = dst
      · subst e
        simp only [G', if_true, List.mem_cons] at hp
        rcases hp with rfl | hp
        · exact hw
        · have hpa : p ∈ G.HA a := by rw [hHA]; simp [hp]
          have hne : p.1 ≠ b := fun e => by
            have hnd := hm.nd a A hA hs
            rw [hHA] at hnd
            simp only [List.map_cons, List.nodup_cons] at hnd
            exact hnd.1 (by rw [← e]; exact List.mem_map_of_mem hp)
          rw [hwo _ hne]; exact hm.ah a A hA hs p hpa
      · simp only [e, if_false] at hB
        by_cases e2 : q = a
        · simp [e2] at hB
        · simp only [e2, if_false] at hB
          simp only [G', e, if_false] at hp
          have hne : p.1 ≠ b := hnb (true, q) _ ⟨⟨B, hB, hBs⟩, p, hp, rfl⟩ (by simpa using e2)
          rw [hwo _ hne]; exact hm.ah q B hB hBs p hp
    · intro q B hB hBs
      rw [harr] at hB
      by_cases e : q = dst
      · subst e
        simp only [G', if_true]
        have := hm.nd a A hA hs
        rw [hHA] at this; simpa using this
      · simp only [e, if_false] at hB
        by_cases e2 : q = a
        · simp [e2] at hB
        · simp only [e2, if_false] at hB
          simp only [G', e, if_false]
          exact hm.nd q B hB hBs
    · intro x y c hx hy
      rcases hOwn x c hx with ⟨rfl, h1⟩ | ⟨h1, h2, h2'⟩ <;> rcases hOwn y c hy with ⟨rfl, h3⟩ | ⟨h3, h4, h4'⟩
      · rfl
      · exact absurd (hm.dis y (true, a) c h3 h1) h4
      · exact absurd (hm.dis x (true, a) c h1 h3) h2
      · exact hm.dis x y c h1 h3
    · intro x c hx
      rcases hOwn x c hx with ⟨rfl, h1⟩ | ⟨h1, _⟩
      · exact hm.dS _ c h1
      · exact hm.dS x c h1
    · intro x c hx
      rcases hOwn x c hx with ⟨rfl, h1⟩ | ⟨h1, _⟩
      · exact hm.inn _ c h1
      · exact hm.inn x c h1
    · intro c hc hn
      have : c ≠ b := fun e => by
        rcases hm.inn _ _ hb_own with h | h
        · exact hn (e ▸ h)
        · omega
      rw [hwo c this]; exact hm.fr c hc hn
    · rw [hsz]; exact hm.sz
  · intro act r
    refine ⟨r.1, r.2.1.trans hk.n.symm, fun i v hv => ?_⟩
    rw [hk.reg] at hv
    exact hrelV v _ (fun hne => ment_reg (hmd hne) hv) (r.2.2 i v hv)

/-! ### Cells are written -/
theorem heap_setCell (w : World) (b o : Nat) (v : Value) {arr : Array Value} {elem : TypeId} {fz : Nat × Nat} (h : w.heap[b]? = some (.cells arr elem fz)) :
    (w.setCell ⟨b, o, none⟩ v).heap[b]? = some (.cells (arr.setIfInBounds o v) elem fz) := by
  simp [World.setCell, Array.getElem?_modify, h]
theorem heap_setCell_ne (w : World) (b o k : Nat) (v : Value) (h : k ≠ b) : (w.setCell ⟨b, o, none⟩ v).heap[k]? = w.heap[k]? := by
  simp only [World.setCell, Array.getElem?_modify]
  rw [if_neg (by omega)]

theorem heap_setCells (b : Nat) : ∀ (vs : List Value) (o : Nat) (w : World) {arr : Array Value} {elem : TypeId} {fz : Nat × Nat}, w.heap[b]? = some (.cells arr elem fz) → o + vs.length ≤ arr.size →
    ∃ arr', (w.setCells b o vs).heap[b]? = some (.cells arr' elem fz) ∧ arr'.toList = arr.toList.take o ++ (vs ++ arr.toList.drop (o + vs.length)) ∧ (∀ k, k ≠ b → (w.setCells b o vs).heap[k]? = w.heap[k]?) ∧
      (w.setCells b o vs).heap.size = w.heap.size ∧ (w.setCells b o vs).os = w.os ∧ (w.setCells b o vs).tape = w.tape ∧ (w.setCells b o vs).output = w.output
  | [], o, w, arr, elem, fz, h, hl => ⟨arr, h, by simp, fun _ _ => rfl, rfl, rfl, rfl, rfl⟩
  | v :: vs, o, w, arr, elem, fz, h, hl => by
    simp only [List.length_cons] at hl
    obtain ⟨arr', h1, h2, h3, h4, h5, h6, h7⟩ := heap_setCells b vs (o + 1) (w.setCell ⟨b, o, none⟩ v) (heap_setCell w b o v h) (by simp; omega)
    refine ⟨arr', h1, ?_, fun k hk => (h3 k hk).trans (heap_setCell_ne w b o k v hk), h4.trans (by simp [World.setCell]), h5, h6, h7⟩
    rw [h2, Array.toList_setIfInBounds]
    have hlen : o < arr.toList.length := by simp; omega
    have e1 : (arr.toList.set o v).take (o + 1) = arr.toList.take o ++ [v] := by
      rw [List.take_succ_eq_append_getElem (by simpa using hlen)]; simp [List.take_set_of_le]
    have e2 : (arr.toList.set o v).drop (o + 1 + vs.length) = arr.toList.drop (o + (vs.length + 1)) := by
      rw [List.drop_set_of_lt (by omega)]; congr 1; omega
    rw [e1, e2]; simp

theorem there_of {w : World} {b : Nat} {arr : Array Value} {elem : TypeId} (h : w.heap[b]? = some (.cells arr elem (0, 0))) {o n : Nat} (hn : o + n ≤ arr.size) : w.there b o n := by
  intro j hj
  have : (arr[o + j]?).isSome = true := by simp; omega
  exact ⟨by simp [World.cell?, h]; omega, by simp [World.frozen?, h]⟩

end Go.Fx
