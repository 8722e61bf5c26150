/- The framework, fourth text: steps that change the state alone (giving away), and the operations that change no memory. -/
import Derived.Test.YtafpgfdjfnoagaaFx3
import Derived.Deep.MidRow
import Derived.Laws.AppendOwn
import Derived.Laws.MakeOwn
import Derived.Laws.Strings
import Derived.Tactics
namespace Go.Fx
set_option linter.unusedVariables false
set_option linter.unusedSimpArgs false

/-! ### What is shared grows -/
structure Gh.Sub (G G' : Gh) : Prop where
  S : ∀ b o, G.S b = some o → G'.S b = some o
  φ : G'.φ = G.φ
  pre : G'.pre = G.pre
  post : G'.post = G.post
  ψ : G'.ψ = G.ψ
  HA : G'.HA = G.HA

theorem Gh.Sub.refl (G : Gh) : G.Sub G := ⟨fun _ _ h => h, rfl, rfl, rfl, rfl, rfl⟩
theorem Gh.Sub.trans {G G' G'' : Gh} (h : G.Sub G') (k : G'.Sub G'') : G.Sub G'' :=
  ⟨fun b o e => k.S b o (h.S b o e), k.φ.trans h.φ, k.pre.trans h.pre, k.post.trans h.post, k.ψ.trans h.ψ, k.HA.trans h.HA⟩

theorem RelL.sub {G G' : Gh} (h : G.Sub G') {l : Leaf} {v : Value} (r : RelL G l v) : RelL G' l v := by
  cases l with
  | any => trivial
  | bas => trivial
  | und => exact r
  | dat t d => obtain ⟨cs, e, hr⟩ := r; exact ⟨cs, e, hr.mono h.S⟩
  | nil => exact r
  | nilp => exact r
  | hdl a => simp only [RelL, h.ψ]; exact r
  | ptr o off => simp only [RelL, h.φ, h.pre]; exact r
  | elt a sz i off => simp only [RelL, h.ψ]; exact r
  | she t d off =>
    obtain ⟨b, arr, elem, fz, pre, cs, post, h1, h2, h3, h4⟩ := r
    exact ⟨b, arr, elem, fz, pre, cs, post, h.S _ _ h1, h2, h3.mono h.S, h4⟩
  | fn f => exact r

theorem RelV.sub {G G' : Gh} (h : G.Sub G') {a : AVal} {v : Value} (r : RelV G a v) : RelV G' a v := by
  cases a with
  | one l => exact RelL.sub h r
  | agg ls => obtain ⟨cs, e, hr⟩ := r; exact ⟨cs, e, hr.imp fun _ _ => RelL.sub h⟩
  | tup vs =>
    obtain ⟨us, e, hr⟩ := r
    refine ⟨us, e, hr.imp fun p u hpu => ?_⟩
    split at hpu
    · rename_i hc; simp only [hc, if_true]; obtain ⟨cs, e, hr⟩ := hpu; exact ⟨cs, e, hr.imp fun _ _ => RelL.sub h⟩
    · rename_i hc
      obtain ⟨l, e, hr⟩ := hpu
      simp only [Bool.not_eq_true] at hc
      simp only [hc, Bool.false_eq_true, if_false]
      exact ⟨l, e, hr.sub h⟩
  | ifc t ls => obtain ⟨u, cs, e1, e2, hr⟩ := r; exact ⟨u, cs, e1, e2, hr.imp fun _ _ => RelL.sub h⟩

theorem RelR.sub {G G' : Gh} (h : G.Sub G') {st st' : St} (hn : st'.n = st.n) (hreg : ∀ i, st'.reg i = st.reg i) {a : Act} (r : RelR G st a) : RelR G' st' a :=
  ⟨r.1, r.2.1.trans hn.symm, fun i v hv => (r.2.2 i v (by rw [← hreg i]; exact hv)).sub h⟩

/-- What a giving away keeps. -/
structure Kept (st st' : St) : Prop where
  n : st'.n = st.n
  reg : ∀ i, st'.reg i = st.reg i
  obj : ∀ o, st'.obj o = st.obj o
  res : ∀ o j l, st'.res o j l = st.res o j l
  bl : st'.bleaves = st.bleaves

theorem Kept.refl (st : St) : Kept st st := ⟨rfl, fun _ => rfl, fun _ => rfl, fun _ _ _ => rfl, rfl⟩
theorem Kept.trans {a b c : St} (h : Kept a b) (k : Kept b c) : Kept a c :=
  ⟨k.n.trans h.n, fun i => (k.reg i).trans (h.reg i), fun o => (k.obj o).trans (h.obj o), fun o j l => (k.res o j l).trans (h.res o j l), k.bl.trans h.bl⟩

theorem nodup_find {H : Heap} (hn : (H.map (·.1)).Nodup) {p : Nat × Obj} (hp : p ∈ H) : H.find? (fun q => q.1 == p.1) = some p := by
  induction H with
  | nil => cases hp
  | cons q H ih =>
    simp only [List.map_cons, List.nodup_cons] at hn
    rcases List.mem_cons.1 hp with rfl | hp
    · simp
    · have hne : q.1 ≠ p.1 := fun e => hn.1 (by rw [e]; exact List.mem_map_of_mem hp)
      simp [hne, ih hn.2 hp]

theorem share1_ok {X : Ctx} {st st' : St} {G : Gh} {w : World} {l : Leaf} (h : st.share1 l = some st') (hm : RelM X st G w) :
    ∃ G', RelM X st' G' w ∧ G.Sub G' ∧ Kept st st' := by
  have triv : st' = st → ∃ G', RelM X st' G' w ∧ G.Sub G' ∧ Kept st st' := fun e => by subst e; exact ⟨G, hm, .refl G, .refl _⟩
  cases l with
  | hdl a =>
    simp only [St.share1] at h
    cases hA : look st.arrs a with
    | none =>
      simp only [hA] at h
      cases hB : look st.barrs a with
      | none => simp [hB] at h
      | some A => cases hs : A.sh <;> simp [hB, hs] at h; exact triv h.symm
    | some A =>
      simp only [hA] at h
      cases hs : A.sh with
      | true => simp [hs] at h; exact triv h.symm
      | false =>
        simp only [hs, cond_false, Option.some.injEq] at h
        subst h
        have harr : st.arr a = some A := by simp [St.arr, hA]
        have hown : ∀ p ∈ G.HA a, Owns G st (true, a) p.1 := fun p hp => ⟨⟨A, harr, hs⟩, p, hp, rfl⟩
        have hnd := hm.nd a A harr hs
        let S' : Mem := fun b => match (G.HA a).find? (fun q => q.1 == b) with | some p => some p.2 | none => G.S b
        have hS' : ∀ p ∈ G.HA a, S' p.1 = some p.2 := fun p hp => by simp only [S', nodup_find hnd hp]
        have hSS : ∀ b o, G.S b = some o → S' b = some o := fun b o hb => by
          simp only [S']
          cases hf : (G.HA a).find? (fun q => q.1 == b) with
          | none => exact hb
          | some p =>
            have hp := List.mem_of_find?_eq_some hf
            have hpb : p.1 = b := by simpa using List.find?_some hf
            have := hm.dS _ _ (hown p hp)
            rw [hpb, hb] at this; cases this
        have hSc : ∀ b o, S' b = some o → G.S b = some o ∨ (b, o) ∈ G.HA a := fun b o hb => by
          simp only [S'] at hb
          cases hf : (G.HA a).find? (fun q => q.1 == b) with
          | none => rw [hf] at hb; exact .inl hb
          | some p =>
            rw [hf] at hb
            have hp := List.mem_of_find?_eq_some hf
            have hpb : p.1 = b := by simpa using List.find?_some hf
            cases hb; subst hpb; exact .inr hp
        have hsub : G.Sub { G with S := S' } := ⟨hSS, rfl, rfl, rfl, rfl, rfl⟩
        have hOwn : ∀ x b, Owns { G with S := S' } (st.setArr a { A with sh := true }) x b → Owns G st x b ∧ x ≠ (true, a) := fun x b hx => by
          obtain ⟨k, n⟩ := x
          cases k with
          | false => exact ⟨hx, by simp⟩
          | true =>
            obtain ⟨⟨B, hB, hBs⟩, hp⟩ := hx
            rw [arr_setArr] at hB
            by_cases e : a = n
            · simp only [e, if_true, Option.some.injEq] at hB; rw [← hB] at hBs; cases hBs
            · simp only [e, if_false] at hB
              exact ⟨⟨⟨B, hB, hBs⟩, hp⟩, by simp; exact fun h => e h.symm⟩
        refine ⟨{ G with S := S' }, ?_, hsub, ⟨rfl, fun _ => rfl, fun _ => rfl, fun o j l => by simp, rfl⟩⟩
        refine { sl := hm.sl, sh := ?_, ob := ?_, ar := ?_, ah := ?_, nd := ?_, dis := ?_, dS := ?_, inn := ?_, s0 := ?_, sn := ?_, fr := hm.fr, sz := hm.sz, os := hm.os, tp := hm.tp, out := hm.out, pin := hm.pin, bv := hm.bv }
        · intro b o hb
          rcases hSc b o hb with h | h
          · exact hm.sh b o h
          · exact hm.ah a A harr hs _ h
        · intro o ls ho
          obtain ⟨arr, elem, mid, h1, h2, h3⟩ := hm.ob o ls ho
          refine ⟨arr, elem, mid, h1, h2, ?_⟩
          unfold LeavesRel at h3 ⊢
          rw [resl_congr (st := st) (fun j l => by simp)]
          exact h3.imp fun _ _ => RelL.sub hsub
        · intro b B hB
          rw [arr_setArr] at hB
          by_cases e : a = b
          · subst e
            simp only [if_true, Option.some.injEq] at hB
            subst hB
            have h0 := hm.ar a A harr
            simp only [ArrRel, hs, if_false, Bool.false_eq_true] at h0
            simp only [ArrRel, if_true]
            rcases h0 with ⟨h1, h2, h3⟩ | ⟨b, cap, arr, elem, cells, rest, H', e1, e2, e3, e4, e5, e6⟩
            · exact ⟨rfl, .inl ⟨h1, none, 0, h3⟩⟩
            · refine ⟨rfl, .inr ⟨b, cap, arr, elem, (0, 0), [], cells, rest, e1, hS' (b, Obj.cells arr elem (0, 0)) (by rw [e2]; simp), e3, ?_, e5⟩⟩
              exact e6.share (S' := S') (fun c x H hp hr => Rep.share hSS hp hr) (fun p hp => hS' p (by rw [e2]; simp [hp]))
          · simp only [e, if_false] at hB
            have h0 := hm.ar b B hB
            unfold ArrRel at h0 ⊢
            split
            · rename_i hc; simp only [hc, if_true] at h0
              rcases h0 with ⟨h1, h2 | ⟨b, cap, arr, elem, fz, pre, cells, rest, e1, e2, e3, e4, elc⟩⟩
              · exact ⟨h1, .inl h2⟩
              · exact ⟨h1, .inr ⟨b, cap, arr, elem, fz, pre, cells, rest, e1, hSS _ _ e2, e3, e4.imp fun _ _ _ h => h.mono hSS, elc⟩⟩
            · rename_i hc; simp only [hc, if_false] at h0
              rcases h0 with h2 | ⟨b, cap, arr, elem, cells, rest, H', e1, e2, e3, e4, e5, e6⟩
              · exact .inl h2
              · exact .inr ⟨b, cap, arr, elem, cells, rest, H', e1, e2, e3, e4, e5, e6.imp fun _ _ _ h => h.mono hSS⟩
        · intro b B hB hBs
          rw [arr_setArr] at hB
          by_cases e : a = b
          · simp only [e, if_true, Option.some.injEq] at hB; rw [← hB] at hBs; cases hBs
          · simp only [e, if_false] at hB; exact hm.ah b B hB hBs
        · intro b B hB hBs
          rw [arr_setArr] at hB
          by_cases e : a = b
          · simp only [e, if_true, Option.some.injEq] at hB; rw [← hB] at hBs; cases hBs
          · simp only [e, if_false] at hB; exact hm.nd b B hB hBs
        · exact fun x y b hx hy => hm.dis x y b (hOwn x b hx).1 (hOwn y b hy).1
        · intro x b hx
          obtain ⟨h1, h2⟩ := hOwn x b hx
          cases hS : S' b with
          | none => exact hS
          | some o =>
            rcases hSc b o hS with h | h
            · rw [hm.dS x b h1] at h; cases h
            · exact absurd (hm.dis x (true, a) b h1 (hown (b, o) h)) h2
        · exact fun x b hx => hm.inn x b (hOwn x b hx).1
        · exact fun b o hb => hSS b o (hm.s0 b o hb)
        · intro b o hb
          rcases hSc b o hb with h | h
          · exact hm.sn b o h
          · exact .inr (hm.inn _ _ (hown (b, o) h))
  | _ => simp only [St.share1, Option.some.injEq] at h; exact triv h.symm

theorem shareL_ok {X : Ctx} {w : World} : ∀ {ls : List Leaf} {st st' : St} {G : Gh}, st.shareL ls = some st' → RelM X st G w →
    ∃ G', RelM X st' G' w ∧ G.Sub G' ∧ Kept st st'
  | [], st, st', G, h, hm => by
    simp only [St.shareL, Option.some.injEq] at h; subst h; exact ⟨G, hm, .refl G, .refl _⟩
  | l :: ls, st, st', G, h, hm => by
    simp only [St.shareL] at h
    cases h1 : st.share1 l with
    | none => simp [h1] at h
    | some st1 =>
      simp only [h1] at h
      obtain ⟨G1, m1, s1, k1⟩ := share1_ok h1 hm
      obtain ⟨G2, m2, s2, k2⟩ := shareL_ok h m1
      exact ⟨G2, m2, s1.trans s2, k1.trans k2⟩

theorem shared_ok {X : Ctx} {w : World} {v : AVal} {st st' : St} {G : Gh} (h : v.shared st = some st') (hm : RelM X st G w) :
    ∃ G', RelM X st' G' w ∧ G.Sub G' ∧ Kept st st' := by
  cases v with
  | one l => exact share1_ok h hm
  | agg ls => exact shareL_ok h hm
  | tup vs => cases h
  | ifc t ls => exact shareL_ok h hm

end Go.Fx
