/- The framework, twenty-second text: reading a state that is laid out is sound. -/
import Derived.Test.YtafpgfdjfnoagaaFx21
namespace Go.Fx
set_option linter.unusedVariables false
set_option linter.unusedSimpArgs false

theorem memN_iff : ∀ {x : Nat} {l : List Nat}, memN x l = true ↔ x ∈ l
  | x, [] => by simp [memN]
  | x, y :: r => by
    simp only [memN, Bool.or_eq_true, List.mem_cons, memN_iff (l := r)]
    constructor
    · rintro (h | h)
      · exact .inl (Nat.eq_of_beq_eq_true h)
      · exact .inr h
    · rintro (h | h)
      · left; subst h; simp
      · exact .inr h
theorem nodupN_iff : ∀ {l : List Nat}, nodupN l = true → l.Nodup
  | [], _ => List.nodup_nil
  | x :: r, h => by
    simp only [nodupN, Bool.and_eq_true, Bool.not_eq_true'] at h
    rw [List.nodup_cons]
    exact ⟨(fun hx => (by rw [memN_iff.2 hx] at h; cases h.1)), nodupN_iff h.2⟩

theorem look_of_mem {α : Type} : ∀ {l : List (Nat × α)} {k : Nat} {v : α}, (l.map (·.1)).Nodup → (k, v) ∈ l → look l k = some v
  | (k', v') :: r, k, v, hn, h => by
    rw [look_cons]
    rw [List.map_cons, List.nodup_cons] at hn
    by_cases e : k' = k
    · subst e
      rcases List.mem_cons.1 h with h | h
      · cases h; simp
      · exact absurd (List.mem_map_of_mem (f := (·.1)) h) hn.1
    · rw [if_neg e]
      rcases List.mem_cons.1 h with h | h
      · cases h; exact absurd rfl e
      · exact look_of_mem hn.2 h

theorem src_inj : ∀ {al : AL} {n n' a : Nat} {A A' : Arr}, (al.filterMap (·.2.1)).Nodup → (n, some a, A) ∈ al → (n', some a, A') ∈ al → n = n'
  | (k, src, B) :: r, n, n', a, A, A', hn, h, h' => by
    have hmem : ∀ {m : Nat} {C : Arr}, (m, some a, C) ∈ r → a ∈ r.filterMap (·.2.1) := fun {m C} hm => List.mem_filterMap.2 ⟨_, hm, rfl⟩
    rcases List.mem_cons.1 h with h1 | h1 <;> rcases List.mem_cons.1 h' with h2 | h2
    · cases h1; cases h2; rfl
    · cases h1
      simp only [List.filterMap_cons, List.nodup_cons] at hn
      exact absurd (hmem h2) hn.1
    · cases h2
      simp only [List.filterMap_cons, List.nodup_cons] at hn
      exact absurd (hmem h1) hn.1
    · refine src_inj (al := r) ?_ h1 h2
      cases src with
      | none => simpa using hn
      | some _ => simp only [List.filterMap_cons, List.nodup_cons] at hn; exact hn.2

/-- A name's source is what it is said to be. -/
def ALgood (s : St) (al : AL) : Prop := ∀ nm src A, (nm, src, A) ∈ al → A.sh = false ∧ (match src with | some a => s.arr a = some A | none => A.l = [])

structure Src (s : St) (al : AL) (p : Pl) (sp : Spec) (x : sp.V) : Prop where
  rel : ∀ X G w v, RelM X s G w → RelV G (s.at p) v → RelV (G.ren al) (.one (sp.leaf p.key x)) v
  arr : ∀ A, sp.arr x = some A → ∃ src, look al p.key = some (src, A)
def SrcAll (s : St) (al : AL) : (ps : Pls) → PV ps → Prop
  | [], _ => True
  | (p, sp) :: r, v => Src s al p sp v.1 ∧ SrcAll s al r v.2

theorem litEq_eq {l l' : Leaf} (h : litEq l l' = true) : l = l' := by
  cases l <;> cases l' <;> simp_all [litEq]
theorem lit_ren {G : Gh} {al : AL} {l l' : Leaf} {v : Value} (h : litEq l l' = true) (r : RelL G l' v) : RelL (G.ren al) l v := by
  rw [litEq_eq h]
  cases l' <;> first | exact r | (cases l <;> simp [litEq] at h)

theorem rd1_good {s : St} {p : Pl} {sp : Spec} {x : sp.V} {a : AL} (h : rd1 s p sp = some (x, a)) : ALgood s a := by
  cases sp with
  | any => simp only [rd1, Option.some.injEq, Prod.mk.injEq] at h; obtain ⟨_, rfl⟩ := h; intro _ _ _ hm; cases hm
  | d t =>
    simp only [rd1] at h
    split at h
    · simp only [Option.some.injEq, Prod.mk.injEq] at h; obtain ⟨_, rfl⟩ := h; intro _ _ _ hm; cases hm
    · cases h
  | lit l =>
    simp only [rd1] at h
    split at h
    · rename_i l' _
      cases he : litEq l l' <;> simp [he] at h
      subst h; intro _ _ _ hm; cases hm
    · cases h
  | h t =>
    simp only [rd1] at h
    split at h
    · simp only [Option.some.injEq, Prod.mk.injEq] at h
      obtain ⟨_, rfl⟩ := h
      intro nm src A hm
      simp only [List.mem_singleton, Prod.mk.injEq] at hm
      obtain ⟨_, rfl, rfl⟩ := hm
      exact ⟨rfl, rfl⟩
    · rename_i b _
      split at h
      · rename_i A hA
        cases hs : (A.sh || A.deep) with
        | true => simp [hs] at h
        | false =>
          simp only [hs, cond_false] at h
          simp only [Bool.or_eq_false_iff] at hs
          split at h
          · rename_i y hy
            simp only [Option.some.injEq, Prod.mk.injEq] at h
            obtain ⟨rfl, rfl⟩ := h
            intro nm src B hm
            simp only [List.mem_singleton, Prod.mk.injEq] at hm
            obtain ⟨_, rfl, rfl⟩ := hm
            obtain ⟨ec, el⟩ := cast?_some hy
            obtain ⟨t', dp, sh, ll⟩ := A
            simp only [Ty.slice.injEq] at ec
            subst ec
            simp only at el hs
            obtain ⟨rfl, rfl⟩ := hs
            subst el
            exact ⟨rfl, hA⟩
          · cases h
      · cases h
    · cases h

theorem rd1_src {s : St} {p : Pl} {sp : Spec} {x : sp.V} {a al : AL} (h : rd1 s p sp = some (x, a)) (hsub : ∀ e ∈ a, e ∈ al) (hn : (al.map (·.1)).Nodup) : Src s al p sp x := by
  cases sp with
  | any => exact ⟨fun _ _ _ _ _ _ => trivial, fun A hA => by cases hA⟩
  | d t =>
    simp only [rd1] at h
    split at h
    · rename_i y hy
      simp only [Option.some.injEq, Prod.mk.injEq] at h
      obtain ⟨rfl, _⟩ := h
      exact ⟨fun X G w v hm hv => avget_ok hm hy hv, fun A hA => by cases hA⟩
    · cases h
  | lit l =>
    simp only [rd1] at h
    split at h
    · rename_i l' hl'
      cases he : litEq l l' <;> simp [he] at h
      refine ⟨fun X G w v hm hv => ?_, fun A hA => by cases hA⟩
      rw [hl'] at hv
      exact lit_ren he hv
    · cases h
  | h t =>
    simp only [rd1] at h
    split at h
    · rename_i hat
      simp only [Option.some.injEq, Prod.mk.injEq] at h
      obtain ⟨rfl, rfl⟩ := h
      have hl := look_of_mem hn (hsub _ (List.mem_singleton.2 rfl))
      refine ⟨fun X G w v hm hv => ?_, fun A hA => ⟨none, by rw [hl]; simp [Spec.arr] at hA; rw [hA]⟩⟩
      rw [hat] at hv
      show v = (G.ren al).ψ p.key
      simp only [Gh.ren, hl]
      exact hv
    · rename_i b hat
      split at h
      · rename_i A hA
        cases hs : (A.sh || A.deep) with
        | true => simp [hs] at h
        | false =>
          simp only [hs, cond_false] at h
          split at h
          · rename_i y hy
            simp only [Option.some.injEq, Prod.mk.injEq] at h
            obtain ⟨rfl, rfl⟩ := h
            have hl := look_of_mem hn (hsub _ (List.mem_singleton.2 rfl))
            refine ⟨fun X G w v hm hv => ?_, fun A hA => ⟨some b, by rw [hl]; simp [Spec.arr] at hA; rw [hA]⟩⟩
            rw [hat] at hv
            show v = (G.ren al).ψ p.key
            simp only [Gh.ren, hl]
            exact hv
          · cases h
      · cases h
    · cases h

theorem rdAll_good {s : St} : ∀ {ps : Pls} {v : PV ps} {a : AL}, rdAll s ps = some (v, a) → ALgood s a
  | [], v, a, h => by simp only [rdAll, Option.some.injEq, Prod.mk.injEq] at h; obtain ⟨_, rfl⟩ := h; intro _ _ _ hm; cases hm
  | (p, sp) :: r, v, a, h => by
    simp only [rdAll] at h
    split at h
    · rename_i x a1 h1
      split at h
      · rename_i xs b h2
        simp only [Option.some.injEq, Prod.mk.injEq] at h
        obtain ⟨_, rfl⟩ := h
        intro nm src A hm
        rcases List.mem_append.1 hm with hm | hm
        · exact rd1_good h1 nm src A hm
        · exact rdAll_good h2 nm src A hm
      · cases h
    · cases h
theorem rdAll_src {s : St} {al : AL} (hn : (al.map (·.1)).Nodup) : ∀ {ps : Pls} {v : PV ps} {a : AL}, rdAll s ps = some (v, a) → (∀ e ∈ a, e ∈ al) → SrcAll s al ps v
  | [], v, a, h, _ => trivial
  | (p, sp) :: r, v, a, h, hsub => by
    simp only [rdAll] at h
    split at h
    · rename_i x a1 h1
      split at h
      · rename_i xs b h2
        simp only [Option.some.injEq, Prod.mk.injEq] at h
        obtain ⟨rfl, rfl⟩ := h
        exact ⟨rd1_src h1 (fun e he => hsub e (List.mem_append_left _ he)) hn, rdAll_src hn h2 (fun e he => hsub e (List.mem_append_right _ he))⟩
      · cases h
    · cases h

theorem arrsOf_src {s : St} {al : AL} : ∀ {ps : Pls} {v : PV ps} {nm : Nat} {A : Arr}, SrcAll s al ps v → look (arrsOf ps v) nm = some A → ∃ src, look al nm = some (src, A)
  | [], v, nm, A, _, h => by cases h
  | (p, sp) :: r, v, nm, A, hs, h => by
    simp only [arrsOf] at h
    split at h
    · rename_i B hB
      rw [look_cons] at h
      by_cases e : p.key = nm
      · simp only [e, if_true, Option.some.injEq] at h
        subst h; subst e
        exact hs.1.arr _ hB
      · simp only [e, if_false] at h; exact arrsOf_src hs.2 h
    · exact arrsOf_src hs.2 h
theorem regsOf_src {s : St} {al : AL} : ∀ {ps : Pls} {v : PV ps} {i : Nat} {tv : AVal}, SrcAll s al ps v → look (regsOf ps v) i = some tv → ∀ X G w u, RelM X s G w → RelV G (s.regD i) u → RelV (G.ren al) tv u
  | [], v, i, tv, _, h => by cases h
  | (.r j, sp) :: r, v, i, tv, hs, h => by
    simp only [regsOf] at h
    rw [look_cons] at h
    by_cases e : j = i
    · simp only [e, if_true, Option.some.injEq] at h
      subst h; subst e
      exact hs.1.rel
    · simp only [e, if_false] at h; exact regsOf_src hs.2 h
  | (.l o j, sp) :: r, v, i, tv, hs, h => regsOf_src (ps := r) hs.2 h
theorem leavesOf_src {s : St} {al : AL} : ∀ {ps : Pls} {v : PV ps} {o j : Nat} {lf : Leaf}, SrcAll s al ps v → lookL (leavesOf ps v) o j = some lf → ∀ X G w u, RelM X s G w → RelV G (s.at (.l o j)) u → RelL (G.ren al) lf u
  | [], v, o, j, lf, _, h => by cases h
  | (.r _, sp) :: r, v, o, j, lf, hs, h => leavesOf_src (ps := r) hs.2 h
  | (.l o' j', sp) :: r, v, o, j, lf, hs, h => by
    simp only [leavesOf, lookL] at h
    cases hb : (Nat.beq o' o && Nat.beq j' j) with
    | true =>
      simp only [hb, cond_true, Option.some.injEq] at h
      simp only [Bool.and_eq_true] at hb
      have e1 := Nat.eq_of_beq_eq_true hb.1
      have e2 := Nat.eq_of_beq_eq_true hb.2
      subst h; subst e1; subst e2
      exact fun X G w u hm hu => hs.1.rel X G w u hm hu
    | false => simp only [hb, cond_false] at h; exact leavesOf_src hs.2 h

theorem look_objs {cl vl : List (Nat × Nat × Leaf)} : ∀ {objs : List (Nat × Nat)} {o : Nat} {tl : List Leaf}, look (objs.map fun p => (p.1, shapeL cl vl p.1 0 p.2)) o = some tl → ∃ len, (o, len) ∈ objs ∧ tl = shapeL cl vl o 0 len
  | [], o, tl, h => by cases h
  | (q, len) :: r, o, tl, h => by
    simp only [List.map_cons, look_cons] at h
    by_cases e : q = o
    · simp only [e, if_true, Option.some.injEq] at h
      subst h; subst e; exact ⟨len, by simp, rfl⟩
    · simp only [e, if_false] at h
      obtain ⟨len, h1, h2⟩ := look_objs h
      exact ⟨len, List.mem_cons_of_mem _ h1, h2⟩
theorem look_map_some {α β : Type} {f : Nat × α → β} : ∀ {l : List (Nat × α)} {o : Nat}, o ∈ l.map (·.1) → ∃ b, look (l.map fun p => (p.1, f p)) o = some b
  | [], o, h => by cases h
  | p :: r, o, h => by
    simp only [List.map_cons, look_cons]
    by_cases e : p.1 = o
    · simp [e]
    · simp only [e, if_false]
      rcases List.mem_cons.1 h with h | h
      · exact absurd h.symm e
      · exact look_map_some h

theorem shape_src {s : St} {al : AL} {L : Lay} {c : PV L.cs} {v : PV L.vs} (hc : SrcAll s al L.cs c) (hv : SrcAll s al L.vs v) {o : Nat} {sl : List Leaf} (ho : s.obj o = some sl) : ∀ (k j : Nat) (l : List Leaf), l.length = k → (∀ i, sl[j + i]? = l[i]?) →
    All2 (fun a b => ∀ X G w u, RelM X s G w → RelL G a u → RelL (G.ren al) b u) (s.resl o j l) ((L.st c v).resl o j (shapeL (leavesOf L.cs c) (leavesOf L.vs v) o j k))
  | 0, j, [], _, _ => trivial
  | k + 1, j, a :: l, hl, hi => by
    refine ⟨fun X G w u hm hu => ?_, shape_src hc hv ho k (j + 1) l (by simpa using hl) (fun i => by have := hi (i + 1); rw [show j + (i + 1) = j + 1 + i by omega] at this; simpa using this)⟩
    have hat : s.at (.l o j) = .one (s.res o j a) := by
      have h0 : sl[j]? = some a := by simpa using hi 0
      simp [St.at, ho, h0]
    have hu' : RelV G (s.at (.l o j)) u := by rw [hat]; exact hu
    cases hcl : lookL (leavesOf L.cs c) o j with
    | some lf =>
      simp only [hcl, St.res]
      have : (L.st c v).bleaves = leavesOf L.cs c := rfl
      rw [this, hcl]
      exact leavesOf_src hc hcl X G w u hm hu'
    | none =>
      simp only [hcl]
      cases hvl : lookL (leavesOf L.vs v) o j with
      | none => exact trivial
      | some lf =>
        simp only
        have h1 := leavesOf_src hv hvl X G w u hm hu'
        cases lf with
        | bas =>
          simp only [St.res]
          have : (L.st c v).bleaves = leavesOf L.cs c := rfl
          rw [this, hcl]; trivial
        | _ => exact h1

theorem shapeL_get {cl vl : List (Nat × Nat × Leaf)} {o : Nat} : ∀ {k i j : Nat} {lf : Leaf}, j < k → lookL cl o (i + j) = some lf → (shapeL cl vl o i k)[j]? = some .bas
  | k + 1, i, 0, lf, _, h => by simp only [shapeL]; rw [Nat.add_zero] at h; simp [h]
  | k + 1, i, j + 1, lf, hj, h => by
    simp only [shapeL, List.getElem?_cons_succ]
    exact shapeL_get (by omega) (by rw [show i + 1 + j = i + (j + 1) by omega]; exact h)
theorem norm_of {s : St} {al : AL} {L : Lay} {c : PV L.cs} {v : PV L.vs} (hc : SrcAll s al L.cs c) (hv : SrcAll s al L.vs v) (hg : ALgood s al) (hal : alOk al = true) (ho : objsOk L.objs s = true) (hn : L.n = s.n) (hbl : ∀ o j lf, lookL s.bleaves o j = some lf → ∃ lf', lookL (leavesOf L.cs c) o j = some lf') : Norm s (L.st c v) al := by
  simp only [alOk, Bool.and_eq_true] at hal
  simp only [objsOk, Bool.and_eq_true] at ho
  refine { n := hn, arr := fun nm A h => ?_, src := fun nm a A h => ?_, nil := fun nm A h => ?_, inj := fun nm nm' a A A' h h' => ?_, reg := fun i tv h => ?_, obj := fun o tl h => ?_, pin := fun o sl hlt h => ?_, bas := fun o j lf sl hlt hl h hj => ?_ }
  · unfold St.arr at h
    split at h
    · rename_i B hB; cases h; exact arrsOf_src hv hB
    · exact arrsOf_src hc h
  · exact hg nm (some a) A (look_mem h)
  · exact hg nm none A (look_mem h)
  · exact src_inj (nodupN_iff hal.2) (look_mem h) (look_mem h')
  · unfold St.reg at h
    split at h
    · rename_i B hB; cases h; exact regsOf_src hv hB
    · exact regsOf_src hc h
  · obtain ⟨len, h1, rfl⟩ := look_objs h
    have h2 := List.all_eq_true.1 ho.1 _ h1
    split at h2
    · rename_i sl hsl
      exact ⟨sl, hsl, shape_src hc hv hsl len 0 sl (Nat.eq_of_beq_eq_true h2) (fun i => by rw [Nat.zero_add])⟩
    · cases h2
  · have h2 := List.all_eq_true.1 ho.2 _ (look_mem h)
    simp only [Bool.or_eq_true] at h2
    rcases h2 with h2 | h2
    · have := Nat.le_of_ble_eq_true h2; omega
    · exact look_map_some (f := fun p => shapeL (leavesOf L.cs c) (leavesOf L.vs v) p.1 0 p.2) (memN_iff.1 h2)
  · have h2 := List.all_eq_true.1 ho.2 _ (look_mem h)
    simp only [Bool.or_eq_true] at h2
    obtain ⟨lf', hlf⟩ := hbl o j lf hl
    refine ⟨⟨lf', hlf⟩, ?_⟩
    rcases h2 with h2 | h2
    · have := Nat.le_of_ble_eq_true h2; omega
    · obtain ⟨tl, htl⟩ := look_map_some (f := fun p => shapeL (leavesOf L.cs c) (leavesOf L.vs v) p.1 0 p.2) (memN_iff.1 h2)
      refine ⟨tl, htl, ?_⟩
      obtain ⟨len, h1, rfl⟩ := look_objs htl
      have h3 := List.all_eq_true.1 ho.1 _ h1
      simp only [h] at h3
      have h3 : sl.length = len := Nat.eq_of_beq_eq_true h3
      have hjl : j < sl.length := (List.getElem?_eq_some_iff.1 hj).1
      exact shapeL_get (by omega) (by rw [Nat.zero_add]; exact hlf)
end Go.Fx
