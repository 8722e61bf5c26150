/- The framework, twenty-fourth text: behind a loop. -/
import Derived.Test.YtafpgfdjfnoagaaFx23
namespace Go.Fx
set_option linter.unusedVariables false
set_option linter.unusedSimpArgs false

def okSpec (st : St) (k : Nat) : Spec → AVal → Bool
  | .d _, .one (.dat _ _) => true
  | .h _, .one (.hdl a) => Nat.beq a k && (look st.arrs k).isNone
  | .lit l, .one l' => litEq l l'
  | _, _ => false
def baseP (st : St) : Pl → Spec → Bool
  | .r i, s => (match look st.bregs i with | none => true | some tv => (look st.regs i).isNone && okSpec st (Pl.r i).key s tv)
  | .l o j, s => (match lookL st.bleaves o j with | none => true | some lf => (match st.obj o with | some ls => (match ls[j]? with | some .bas => true | _ => false) | none => false) && okSpec st (Pl.l o j).key s (.one lf))
def hasR (i : Nat) : Pls → Bool
  | [] => false
  | (.r j, _) :: r => Nat.beq j i || hasR i r
  | _ :: r => hasR i r
def hasL (o j : Nat) : Pls → Bool
  | [] => false
  | (.l o' j', _) :: r => (Nat.beq o' o && Nat.beq j' j) || hasL o j r
  | _ :: r => hasL o j r
def hasA (st : St) (nm : Nat) : Pls → Bool
  | [] => false
  | (p, .h _) :: r => (Nat.beq p.key nm && (match p with | .r i => (look st.bregs i).isSome | .l o j => (lookL st.bleaves o j).isSome)) || hasA st nm r
  | _ :: r => hasA st nm r
/-- What did not change outside does not change inside. -/
def baseIn (cs : Pls) (st : St) : Bool :=
  nodupN (cs.map fun p => p.1.key) && cs.all (fun p => baseP st p.1 p.2) && st.bregs.all (fun p => hasR p.1 cs) && st.bleaves.all (fun p => hasL p.1 p.2.1 cs) && st.barrs.all (fun p => hasA st p.1 cs)

def flatL (cl bl : List (Nat × Nat × Leaf)) (o : Nat) : Nat → List Leaf → List Leaf
  | _, [] => []
  | j, l :: r => (match l with | .bas => (match lookL bl o j with | some _ => .bas | none => match lookL cl o j with | some l => l | none => .any) | l => l) :: flatL cl bl o (j + 1) r
def aft (L : Lay) (c : PV L.cs) (v : PV L.vs) (st : St) : St :=
  ⟨L.n, regsOf L.vs v ++ (regsOf L.cs c).filter (fun p => (look st.bregs p.1).isNone), (L.st c v).objs.map (fun p => (p.1, flatL (leavesOf L.cs c) st.bleaves p.1 0 p.2)),
    arrsOf L.vs v ++ (arrsOf L.cs c).filter (fun p => (look st.barrs p.1).isNone), st.bregs, st.bleaves, st.barrs⟩

theorem look_append {α : Type} : ∀ (l m : List (Nat × α)) (k : Nat), look (l ++ m) k = (match look l k with | some v => some v | none => look m k)
  | [], m, k => rfl
  | (k', v) :: r, m, k => by
    simp only [List.cons_append, look_cons]
    by_cases e : k' = k
    · simp [e]
    · simp only [e, if_false]; exact look_append r m k
theorem look_filter {α : Type} (f : Nat → Bool) : ∀ (l : List (Nat × α)) (k : Nat), look (l.filter fun p => f p.1) k = if f k = true then look l k else none
  | [], k => by simp [look]
  | (k', v) :: r, k => by
    have ih := look_filter f r k
    by_cases hf : f k' = true
    · simp only [List.filter_cons, hf, if_true, look_cons]
      by_cases e : k' = k
      · subst e; simp [hf]
      · simp only [e, if_false]; exact ih
    · simp only [List.filter_cons, hf, look_cons]
      by_cases e : k' = k
      · subst e; simp only [Bool.false_eq_true, if_false]; rw [ih]; simp [hf]
      · simp only [e, if_false, Bool.false_eq_true]; exact ih

/-- All that did not change outside is found, as it is, in what does not change inside. -/
structure BSub (st : St) (L : Lay) (c : PV L.cs) : Prop where
  reg : ∀ i tv, look st.bregs i = some tv → look (regsOf L.cs c) i = some tv
  leaf : ∀ o j lf, lookL st.bleaves o j = some lf → lookL (leavesOf L.cs c) o j = some lf
  arr : ∀ nm A, look st.barrs nm = some A → look (arrsOf L.cs c) nm = some A

theorem okSpec_eq {s : St} {p : Pl} {sp : Spec} {x : sp.V} {a : AL} {tv : AVal} (h : rd1 s p sp = some (x, a)) (hat : s.at p = tv) (hk : okSpec s p.key sp tv = true) : tv = .one (sp.leaf p.key x) := by
  cases sp with
  | any => cases tv <;> simp [okSpec] at hk
  | d t =>
    cases tv with
    | one l =>
      cases l with
      | dat t' y =>
        simp only [rd1, hat, AVal.get, Leaf.get] at h
        cases hc : cast? t' t y with
        | none => simp [hc] at h
        | some z =>
          simp only [hc, Option.some.injEq, Prod.mk.injEq] at h
          obtain ⟨rfl, _⟩ := h
          obtain ⟨rfl, rfl⟩ := cast?_some hc
          rfl
      | _ => simp [okSpec] at hk
    | _ => simp [okSpec] at hk
  | lit l =>
    cases tv with
    | one l' => simp only [okSpec] at hk; rw [litEq_eq hk]; rfl
    | _ => simp [okSpec] at hk
  | h t =>
    cases tv with
    | one l =>
      cases l with
      | hdl b => simp only [okSpec, Bool.and_eq_true] at hk; rw [Nat.eq_of_beq_eq_true hk.1]; rfl
      | _ => simp [okSpec] at hk
    | _ => simp [okSpec] at hk

theorem okSpec_arr {s : St} {p : Pl} {t : Ty} {x : (Spec.h t).V} {a : AL} {tv : AVal} (h : rd1 s p (.h t) = some (x, a)) (hat : s.at p = tv) (hk : okSpec s p.key (.h t) tv = true) {A : Arr} (hA : look s.barrs p.key = some A) : A = ⟨t, false, false, x⟩ := by
  cases tv with
  | one l =>
    cases l with
    | hdl b =>
      simp only [okSpec, Bool.and_eq_true] at hk
      have e := Nat.eq_of_beq_eq_true hk.1
      subst e
      have hno : look s.arrs p.key = none := by simpa using hk.2
      simp only [rd1, hat, St.arr, hno, hA] at h
      cases hs : (A.sh || A.deep) with
      | true => simp [hs] at h
      | false =>
        simp only [hs, cond_false] at h
        simp only [Bool.or_eq_false_iff] at hs
        split at h
        · rename_i y hy
          simp only [Option.some.injEq, Prod.mk.injEq] at h
          obtain ⟨rfl, _⟩ := h
          obtain ⟨ec, el⟩ := cast?_some hy
          obtain ⟨t', dp, sh, ll⟩ := A
          simp only [Ty.slice.injEq] at ec
          subst ec
          simp only at el hs
          obtain ⟨rfl, rfl⟩ := hs
          subst el
          rfl
        · cases h
    | _ => simp [okSpec] at hk
  | _ => simp [okSpec] at hk

theorem bsub_go {s : St} {full : (ps : Pls) × PV ps} : ∀ {ps : Pls} {v : PV ps} {a : AL}, rdAll s ps = some (v, a) → FoundAll full ps v → (ps.all fun p => baseP s p.1 p.2) = true →
    (∀ i tv, hasR i ps = true → look s.bregs i = some tv → look (regsOf full.1 full.2) i = some tv) ∧
    (∀ o j lf, hasL o j ps = true → lookL s.bleaves o j = some lf → lookL (leavesOf full.1 full.2) o j = some lf) ∧
    (∀ nm A, hasA s nm ps = true → look s.barrs nm = some A → look (arrsOf full.1 full.2) nm = some A)
  | [], v, a, _, _, _ => ⟨(fun _ _ h _ => (by cases h)), (fun _ _ _ h _ => (by cases h)), (fun _ _ h _ => (by cases h))⟩
  | (p, sp) :: r, v, a, h, hf, hb => by
    simp only [rdAll] at h
    split at h
    · rename_i x a1 h1
      split at h
      · rename_i xs b h2
        simp only [Option.some.injEq, Prod.mk.injEq] at h
        obtain ⟨rfl, rfl⟩ := h
        simp only [List.all_cons, Bool.and_eq_true] at hb
        obtain ⟨b1, b2⟩ := hb
        have f3 : FoundAll full r xs := by cases p <;> exact hf.2.2
        have f2 : ∀ A, sp.arr x = some A → look (arrsOf full.1 full.2) p.key = some A := by cases p <;> exact hf.2.1
        obtain ⟨g1, g2, g3⟩ := bsub_go h2 f3 b2
        refine ⟨fun i tv hh hl => ?_, fun o j lf hh hl => ?_, fun nm A hh hl => ?_⟩
        · cases p with
          | l o j => exact g1 i tv hh hl
          | r k =>
            simp only [hasR, Bool.or_eq_true] at hh
            rcases hh with hh | hh
            · obtain rfl := Nat.eq_of_beq_eq_true hh
              simp only [baseP, hl, Bool.and_eq_true] at b1
              have hno : look s.regs k = none := by simpa using b1.1
              have := okSpec_eq h1 (tv := tv) (by simp [St.at, St.regD, St.reg, hno, hl]) b1.2
              rw [this]; exact hf.1
            · exact g1 i tv hh hl
        · cases p with
          | r k => exact g2 o j lf hh hl
          | l o' j' =>
            simp only [hasL, Bool.or_eq_true] at hh
            rcases hh with hh | hh
            · simp only [Bool.and_eq_true] at hh
              obtain rfl := Nat.eq_of_beq_eq_true hh.1
              obtain rfl := Nat.eq_of_beq_eq_true hh.2
              simp only [baseP, hl, Bool.and_eq_true] at b1
              obtain ⟨b3, b4⟩ := b1
              have hat : s.at (.l o' j') = .one lf := by
                split at b3
                · rename_i ls ho
                  split at b3
                  · rename_i hj; simp [St.at, ho, hj, St.res, hl]
                  · cases b3
                · cases b3
              have := okSpec_eq h1 (tv := .one lf) hat b4
              simp only [AVal.one.injEq] at this
              rw [this]; exact hf.1
            · exact g2 o j lf hh hl
        · cases sp with
          | h t =>
            simp only [hasA, Bool.or_eq_true, Bool.and_eq_true] at hh
            rcases hh with ⟨hk, hh⟩ | hh
            · obtain rfl := Nat.eq_of_beq_eq_true hk
              rw [f2 _ rfl]
              have key : ∀ tv, s.at p = tv → okSpec s p.key (.h t) tv = true → some (⟨t, false, false, x⟩ : Arr) = some A := fun tv hat hk => by rw [okSpec_arr h1 hat hk hl]
              cases p with
              | r k =>
                obtain ⟨tv, htv⟩ := Option.isSome_iff_exists.1 hh
                simp only [baseP, htv, Bool.and_eq_true] at b1
                have hno : look s.regs k = none := by simpa using b1.1
                exact key tv (by simp [St.at, St.regD, St.reg, hno, htv]) b1.2
              | l o j =>
                obtain ⟨lf, hlf⟩ := Option.isSome_iff_exists.1 hh
                simp only [baseP, hlf, Bool.and_eq_true] at b1
                obtain ⟨b3, b4⟩ := b1
                refine key (.one lf) ?_ b4
                split at b3
                · rename_i ls ho
                  split at b3
                  · rename_i hj; simp [St.at, ho, hj, St.res, hlf]
                  · cases b3
                · cases b3
            · exact g3 nm A hh hl
          | _ => exact g3 nm A hh hl
      · cases h
    · cases h

theorem bsub_of {s : St} {L : Lay} {c : PV L.cs} {a : AL} (h : rdAll s L.cs = some (c, a)) (hb : baseIn L.cs s = true) : BSub s L c := by
  simp only [baseIn, Bool.and_eq_true] at hb
  obtain ⟨⟨⟨⟨h1, h2⟩, h3⟩, h4⟩, h5⟩ := hb
  obtain ⟨g1, g2, g3⟩ := bsub_go (full := ⟨L.cs, c⟩) h (foundAll (nodupN_iff h1)) h2
  exact ⟨fun i tv hl => g1 i tv (List.all_eq_true.1 h3 _ (look_mem hl)) hl, fun o j lf hl => g2 o j lf (List.all_eq_true.1 h4 _ (lookL_mem hl)) hl, fun nm A hl => g3 nm A (List.all_eq_true.1 h5 _ (look_mem hl)) hl⟩

theorem BSub.base {s st : St} {L : Lay} {c : PV L.cs} (h : BSub s L c) (b : Base st s) : BSub st L c :=
  ⟨fun i tv hl => h.reg i tv (by rw [b.2.1]; exact hl), fun o j lf hl => h.leaf o j lf (by rw [b.2.2.1]; exact hl), fun nm A hl => h.arr nm A (by rw [b.2.2.2]; exact hl)⟩

theorem flat_weak {L : Lay} {c : PV L.cs} {v : PV L.vs} {st : St} (hs : BSub st L c) {o : Nat} : ∀ (ls : List Leaf) (j : Nat),
    All2 (fun a b => ∀ G u, RelL G a u → RelL G b u) ((L.st c v).resl o j ls) ((aft L c v st).resl o j (flatL (leavesOf L.cs c) st.bleaves o j ls))
  | [], j => trivial
  | l :: r, j => by
    refine ⟨fun G u hu => ?_, flat_weak hs r (j + 1)⟩
    have hb1 : (L.st c v).bleaves = leavesOf L.cs c := rfl
    have hb2 : (aft L c v st).bleaves = st.bleaves := rfl
    have nb : ∀ l' : Leaf, (match l' with | .bas => False | _ => True) → (aft L c v st).res o j l' = l' := fun l' h => by cases l' <;> first | exact h.elim | rfl
    cases l with
    | bas =>
      simp only [St.res, hb1] at hu
      simp only
      cases hl : lookL st.bleaves o j with
      | some lf =>
        simp only [St.res, hb2, hl]
        rw [hs.leaf o j lf hl] at hu; exact hu
      | none =>
        simp only
        cases hc : lookL (leavesOf L.cs c) o j with
        | none => trivial
        | some lf =>
          rw [hc] at hu
          simp only
          cases lf with
          | bas => simp only [St.res, hb2, hl]; trivial
          | _ => exact hu
    | _ => exact hu

theorem look_map_val {f : Nat → List Leaf → List Leaf} : ∀ {l : List (Nat × List Leaf)} {o : Nat} {tl : List Leaf}, look (l.map fun p => (p.1, f p.1 p.2)) o = some tl → ∃ sl, look l o = some sl ∧ tl = f o sl
  | [], o, tl, h => by cases h
  | (q, ls) :: r, o, tl, h => by
    simp only [List.map_cons, look_cons] at h
    rw [look_cons]
    by_cases e : q = o
    · simp only [e, if_true, Option.some.injEq] at h ⊢
      subst h; exact ⟨ls, rfl, rfl⟩
    · simp only [e, if_false] at h ⊢
      exact look_map_val h
theorem look_map_val' {f : Nat → List Leaf → List Leaf} : ∀ {l : List (Nat × List Leaf)} {o : Nat} {sl : List Leaf}, look l o = some sl → look (l.map fun p => (p.1, f p.1 p.2)) o = some (f o sl)
  | (q, ls) :: r, o, sl, h => by
    rw [look_cons] at h
    simp only [List.map_cons, look_cons]
    by_cases e : q = o
    · simp only [e, if_true, Option.some.injEq] at h ⊢; rw [h]
    · simp only [e, if_false] at h ⊢
      exact look_map_val' h

theorem flatL_bas {cl bl : List (Nat × Nat × Leaf)} {o : Nat} : ∀ {ls : List Leaf} {i j : Nat} {lf : Leaf}, lookL bl o (i + j) = some lf → ls[j]? = some .bas → (flatL cl bl o i ls)[j]? = some .bas
  | [], i, j, lf, _, h => by simp at h
  | l :: r, i, 0, lf, hl, h => by
    simp only [List.getElem?_cons_zero, Option.some.injEq] at h
    subst h
    rw [Nat.add_zero] at hl
    simp [flatL, hl]
  | l :: r, i, j + 1, lf, hl, h => by
    simp only [flatL, List.getElem?_cons_succ] at h ⊢
    exact flatL_bas (by rw [show i + 1 + j = i + (j + 1) by omega]; exact hl) h
theorem aft_weak {L : Lay} {c : PV L.cs} {v : PV L.vs} {st : St} (hs : BSub st L c) : Weak (L.st c v) (aft L c v st) := by
  refine { n := rfl, arr := fun nm A h => ?_, reg := fun i tv h G u hu => ?_, obj := fun o tl h => ?_, pin := fun o sl _ h => ⟨_, look_map_val' (f := fun o ls => flatL (leavesOf L.cs c) st.bleaves o 0 ls) h⟩, bas := fun o j lf sl hl h hj => ⟨_, look_map_val' (f := fun o ls => flatL (leavesOf L.cs c) st.bleaves o 0 ls) h, flatL_bas (by rw [Nat.zero_add]; exact hl) hj⟩ }
  · have e1 : (aft L c v st).arr nm = (match look (arrsOf L.vs v ++ (arrsOf L.cs c).filter fun p => (look st.barrs p.1).isNone) nm with | some v => some v | none => look st.barrs nm) := rfl
    have e2 : (L.st c v).arr nm = (match look (arrsOf L.vs v) nm with | some v => some v | none => look (arrsOf L.cs c) nm) := rfl
    rw [e1, look_append] at h
    rw [e2]
    cases h1 : look (arrsOf L.vs v) nm with
    | some B => simp only [h1] at h ⊢; exact h
    | none =>
      simp only [h1] at h ⊢
      rw [look_filter (fun k => (look st.barrs k).isNone)] at h
      cases h2 : look st.barrs nm with
      | none =>
        simp only [h2, Option.isNone_none, if_true] at h
        cases h3 : look (arrsOf L.cs c) nm with
        | none => simp [h3] at h
        | some B => simpa [h3] using h
      | some B =>
        rw [h2] at h
        simp only [Option.isNone_some, Bool.false_eq_true, if_false] at h
        rw [hs.arr nm B h2]; exact h
  · have e1 : (aft L c v st).reg i = (match look (regsOf L.vs v ++ (regsOf L.cs c).filter fun p => (look st.bregs p.1).isNone) i with | some v => some v | none => look st.bregs i) := rfl
    have e2 : (L.st c v).reg i = (match look (regsOf L.vs v) i with | some v => some v | none => look (regsOf L.cs c) i) := rfl
    have : (L.st c v).reg i = some tv := by
      rw [e1, look_append] at h
      rw [e2]
      cases h1 : look (regsOf L.vs v) i with
      | some B => simp only [h1] at h ⊢; exact h
      | none =>
        simp only [h1] at h ⊢
        rw [look_filter (fun k => (look st.bregs k).isNone)] at h
        cases h2 : look st.bregs i with
        | none =>
          simp only [h2, Option.isNone_none, if_true] at h
          cases h3 : look (regsOf L.cs c) i with
          | none => simp [h3] at h
          | some B => simpa [h3] using h
        | some B =>
          rw [h2] at h
          simp only [Option.isNone_some, Bool.false_eq_true, if_false] at h
          rw [hs.reg i B h2]; exact h
    simpa [St.regD, this] using hu
  · obtain ⟨sl, h1, rfl⟩ := look_map_val (f := fun o ls => flatL (leavesOf L.cs c) st.bleaves o 0 ls) h
    exact ⟨sl, h1, flat_weak hs sl 0⟩
end Go.Fx
