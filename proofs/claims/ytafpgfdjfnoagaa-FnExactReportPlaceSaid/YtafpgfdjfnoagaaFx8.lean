/- The framework, eighth text: structs that are built. -/
import Derived.Test.YtafpgfdjfnoagaaFx7
namespace Go.Fx
set_option linter.unusedVariables false
set_option linter.unusedSimpArgs false

theorem fold_place_list (off : Nat) : ∀ (l : List Value) (k : Nat) (c : Array Value), off + k + l.length ≤ c.size →
    ((l.zipIdx k).foldl (fun (cs : Array Value) (x : Value × Nat) => cs.setIfInBounds (off + x.2) x.1) c).toList = c.toList.take (off + k) ++ (l ++ c.toList.drop (off + k + l.length))
  | [], k, c, hk => by simp
  | x :: l, k, c, hk => by
    simp only [List.length_cons] at hk
    rw [List.zipIdx_cons, List.foldl_cons, fold_place_list off l (k + 1) _ (by simp; omega)]
    rw [Array.toList_setIfInBounds]
    have hlen : off + k < c.toList.length := by simp; omega
    have e1 : (c.toList.set (off + k) x).take (off + (k + 1)) = c.toList.take (off + k) ++ [x] := by
      rw [show off + (k + 1) = off + k + 1 by omega, List.take_succ_eq_append_getElem (by simpa using hlen)]
      simp [List.take_set_of_le]
    have e2 : (c.toList.set (off + k) x).drop (off + (k + 1) + l.length) = c.toList.drop (off + k + (l.length + 1)) := by
      rw [List.drop_set_of_lt (by omega)]; congr 1; omega
    rw [e1, e2]; simp

theorem fold_place (u : Array Value) (cs : List Value) (off : Nat) (h : off + u.size ≤ cs.length) :
    u.zipIdx.foldl (fun (cs : Array Value) (x : Value × Nat) => cs.setIfInBounds (off + x.2) x.1) cs.toArray = (cs.take off ++ (u.toList ++ cs.drop (off + u.toList.length))).toArray := by
  apply Array.ext'
  have := fold_place_list off u.toList 0 cs.toArray (by simpa using h)
  simp only [Nat.add_zero] at this
  rw [← Array.foldl_toList, Array.toList_zipIdx]
  rw [this]

theorem run_mapM_list {P : Program} {w : World} {α β : Type} (g : α → Sem β) (f : α → β) : ∀ (l : List α), (∀ x ∈ l, (g x).run P w = .ok (f x) w) → (l.mapM g).run P w = .ok (l.map f) w
  | [], _ => by simp
  | x :: l, h => by
    have ih := run_mapM_list g f l (fun y hy => h y (by simp [hy]))
    have hx := h x (by simp)
    simp [hx, ih]
theorem run_mapM {P : Program} {w : World} {α β : Type} (g : α → Sem β) (f : α → β) (xs : Array α) (h : ∀ x ∈ xs, (g x).run P w = .ok (f x) w) : (xs.mapM g).run P w = .ok (xs.map f) w := by
  rw [Array.mapM_eq_mapM_toList]
  have := run_mapM_list (P := P) (w := w) g f xs.toList (fun x hx => h x (by simpa using hx))
  rw [Sem.run_map, this]
  simp only [Result.andThen_ok]
  congr 1
  apply Array.ext'; simp

theorem zero_ok {G : Gh} : ∀ l : List Value, All2 (RelL G) (l.map zeroLeaf) l
  | [] => trivial
  | v :: l => by
    refine ⟨?_, zero_ok l⟩
    cases v with
    | int k n => exact ⟨_, by simp [Ty.agg], rfl, rfl⟩
    | bool b => exact ⟨_, by simp [Ty.agg], rfl, rfl⟩
    | string s => exact ⟨_, by simp [Ty.agg]; rfl, by simp [Rep, strV]⟩
    | slice a n c =>
      cases a with
      | none => cases n <;> cases c <;> simp [zeroLeaf, RelL]
      | some a => simp [zeroLeaf, RelL]
    | pointer a => cases a <;> simp [zeroLeaf, RelL]
    | _ => simp [zeroLeaf, RelL]

theorem fill_ok {P : Program} {E : Env} (hE : TabOk P E.tab) {X : Ctx} {st : St} {G : Gh} {w : World} (hm : RelM X st G w) {fields : Array Field} {fs : List (Nat × TypeId)}
    (hfs : fs = fields.toList.map fun f => (f.offset, f.type)) (sz : TypeId → Nat) (hsz : ∀ t ti, E.tab t = some ti → sz t = ti.size) {ls : List Leaf} :
    ∀ {parts : List (Nat × AVal)} {vs : List (Nat × Value)} {zs : List Leaf} {cs : List Value}, All2 (fun (p : Nat × AVal) (q : Nat × Value) => p.1 = q.1 ∧ RelV G p.2 q.2) parts vs →
      All2 (RelL G) zs cs → buildParts E fs zs parts = some ls →
      ∃ cs', Instr.fill ((fields.map fun f => (f.offset, sz f.type))[·]?) cs.toArray vs = some cs'.toArray ∧ All2 (RelL G) ls cs'
  | [], [], zs, cs, hp, hz, hb => by simp only [buildParts, Option.some.injEq] at hb; subst hb; exact ⟨cs, rfl, hz⟩
  | [], _ :: _, _, _, hp, _, _ => hp.elim
  | _ :: _, [], _, _, hp, _, _ => hp.elim
  | (j, v) :: parts, (j', u) :: vs, zs, cs, hp, hz, hb => by
    obtain ⟨⟨hj, hv⟩, hp⟩ := hp
    simp only at hj hv
    subst hj
    simp only [buildParts] at hb
    cases hf : fs[j]? with
    | none => simp [hf] at hb
    | some f =>
      obtain ⟨off, ft⟩ := f
      cases hl : v.leaves with
      | none => simp [hf, hl] at hb
      | some lv =>
        simp only [hf, hl] at hb
        cases hF : E.tab ft with
        | none => simp [hF] at hb
        | some fi =>
          simp only [hF] at hb
          cases hc : (Nat.beq lv.length fi.size && Nat.ble (off + lv.length) zs.length) with
          | false => simp [hc] at hb
          | true =>
            simp only [hc, cond_true] at hb
            simp only [Bool.and_eq_true] at hc
            have hc1 : lv.length = fi.size := Nat.eq_of_beq_eq_true hc.1
            have hc2 : off + lv.length ≤ zs.length := Nat.le_of_ble_eq_true hc.2
            have hal := leaves_ok hm hl hv
            have hlen := hal.length
            have hzl := hz.length
            have hul : u.cells.size = fi.size := by rw [← hc1, hlen]; simp
            have hplace : All2 (RelL G) (place zs off lv) (cs.take off ++ (u.cells.toList ++ cs.drop (off + u.cells.toList.length))) := by
              unfold place
              rw [hlen]
              exact (hz.take off).append (hal.append (hz.drop _))
            obtain ⟨cs', g1, g2⟩ := fill_ok hE hm hfs sz hsz hp hplace hb
            refine ⟨cs', ?_, g2⟩
            have hfld : (fields.map fun f => (f.offset, sz f.type))[j]? = some (off, fi.size) := by
              rw [hfs, List.getElem?_map, Array.getElem?_toList] at hf
              cases hq : fields[j]? with
              | none => simp [hq] at hf
              | some fld =>
                simp [hq] at hf
                obtain ⟨rfl, rfl⟩ := hf
                simp [hq, hsz _ _ hF]
            have hcond : (u.cells.size ≠ fi.size || decide (off + u.cells.size > cs.toArray.size)) = false := by
              simp [hul]; omega
            have hstep : Instr.fill ((fields.map fun f => (f.offset, sz f.type))[·]?) cs.toArray ((j, u) :: vs) =
                Instr.fill ((fields.map fun f => (f.offset, sz f.type))[·]?) (u.cells.zipIdx.foldl (fun (cs : Array Value) (x : Value × Nat) => cs.setIfInBounds (off + x.2) x.1) cs.toArray) vs := by
              conv => lhs; unfold Instr.fill
              simp only [hfld]
              rw [if_neg (by simpa using hcond)]
            rw [hstep, fold_place u.cells cs off (by rw [hul, ← hc1, ← hzl]; exact hc2)]
            exact g1

theorem opBuild_ok {P : Program} {E : Env} (hE : TabOk P E.tab) {X : Ctx} {st : St} {G : Gh} {w : World} {R : Type} {r : R} {T : TypeId} {parts : List (Nat × AVal)} {vs : List (Nat × Value)} {K : AVal → St → Option R} (h : opBuild E T parts st K = some r) (hm : RelM X st G w)
    (hp : All2 (fun (p : Nat × AVal) (q : Nat × Value) => p.1 = q.1 ∧ RelV G p.2 q.2) parts vs) :
    ∃ av v, (Instr.build T vs.toArray).run P w = .ok v w ∧ RelV G av v ∧ K av st = some r := by
  unfold opBuild at h
  cases hT : E.tab T with
  | none => simp [hT] at h
  | some ti =>
    simp only [hT] at h
    split at h
    · rename_i fs hd
      cases hall : (fs.all fun p => (E.tab p.2).isSome) with
      | false => simp [hall] at h
      | true =>
        simp only [hall, cond_true] at h
        cases hb : buildParts E fs (ti.zero.map zeroLeaf) parts with
        | none => simp [hb] at h
        | some ls =>
          simp only [hb] at h
          obtain ⟨i, d, z, h1, h2, h3, h4, h5, h6, h7, h8, h9⟩ := hE T ti hT
          rw [hd] at h7
          cases d with
          | struct fields =>
            simp only [TDok] at h7
            let sz : TypeId → Nat := fun t => match E.tab t with | some ti => ti.size | none => 0
            have hsz : ∀ t ti, E.tab t = some ti → sz t = ti.size := fun t ti ht => by simp [sz, ht]
            obtain ⟨cs', g1, g2⟩ := fill_ok hE hm h7 sz hsz hp (zero_ok ti.zero) hb
            refine ⟨.agg ls, .agg cs'.toArray, ?_, ⟨cs', rfl, g2⟩, h⟩
            have hplaces : (fields.mapM fun f => (Prod.mk f.offset <$> sizeOf f.type : Sem (Nat × Nat))).run P w = .ok (fields.map fun f => (f.offset, sz f.type)) w := by
              refine run_mapM _ _ _ fun f hf => ?_
              have : (E.tab f.type).isSome = true := by
                have := List.all_eq_true.1 hall (f.offset, f.type) (by rw [h7]; exact List.mem_map.2 ⟨f, by simpa using hf, rfl⟩)
                exact this
              obtain ⟨fi, hfi⟩ := Option.isSome_iff_exists.1 this
              simp [(hE _ _ hfi).size w, hsz _ _ hfi]
            have hzc : z.cells = ti.zero.toArray := by rw [← h6]
            simp only [Array.getElem?_map] at g1
            simp [Instr.build, zeroValue, typeInfo, h1, h5, run_underlying h2, hplaces, hzc, g1]
          | _ => simp [TDok] at h7
    · cases h

end Go.Fx
