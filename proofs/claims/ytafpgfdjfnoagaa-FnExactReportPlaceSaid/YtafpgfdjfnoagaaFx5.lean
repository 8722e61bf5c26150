/- The framework, fifth text: what is known of the program's types; reading; the operations that change no memory. -/
import Derived.Test.YtafpgfdjfnoagaaFx4
namespace Go.Fx
set_option linter.unusedVariables false
set_option linter.unusedSimpArgs false

def TDok : TD → TypeDesc → Prop
  | .int k, .int k' => k = k'
  | .bool, .bool => True
  | .str, .string => True
  | .slice e, .slice e' => e = e'
  | .struct fs, .struct fields => fs = fields.toList.map fun f => (f.offset, f.type)
  | .ptr e, .pointer e' => e = e'
  | .other, d => d.isRow = false ∧ (match d with | .int _ | .string | .slice _ => False | _ => True)
  | _, _ => False

def TIok (P : Program) (t : TypeId) (ti : TI) : Prop :=
  ∃ i d z, P.info? t = some i ∧ P.underlying t = some d ∧ i.size = ti.size ∧ i.bytes = ti.bytes ∧ i.zero = some z ∧ z.cells.toList = ti.zero ∧ TDok ti.desc d ∧
    (ti.desc.agg = false → ti.size = 1) ∧ ti.zero.length = ti.size

def TabOk (P : Program) (tab : Nat → Option TI) : Prop := ∀ t ti, tab t = some ti → TIok P t ti

theorem TDok.row {x : TD} {d : TypeDesc} (h : TDok x d) : d.isRow = x.agg := by
  cases x <;> cases d <;> simp_all [TDok, TypeDesc.isRow, TD.agg]

/-! ### Reading -/
theorem explode_ok {G : Gh} : ∀ {t : Ty} {d : t.den} {cs : List Value}, Rep G.S false t cs d [] → All2 (RelL G) (explode t d) cs
  | .int k, d, cs, h => by rw [h.1]; exact ⟨⟨_, by simp [Ty.agg], rfl, rfl⟩, trivial⟩
  | .bool, d, cs, h => by rw [h.1]; exact ⟨⟨_, by simp [Ty.agg], rfl, rfl⟩, trivial⟩
  | .str, d, cs, h => by rw [h.1]; exact ⟨⟨_, by simp [Ty.agg], rfl, rfl⟩, trivial⟩
  | .slice t, d, cs, h => by
    have hs := Rep.size h
    match cs, hs, h with
    | [v], _, h => exact ⟨⟨[v], by simp [Ty.agg], h⟩, trivial⟩
  | .pair a b, d, cs, h => by
    obtain ⟨c1, c2, H1, H2, rfl, hH, h1, h2⟩ := h
    obtain ⟨rfl, rfl⟩ := List.append_eq_nil_iff.1 hH.symm
    exact (explode_ok h1).append (explode_ok h2)
  | .one a, d, cs, h => by exact explode_ok (t := a) h

theorem get_ok {X : Ctx} {st : St} {G : Gh} {w : World} (hm : RelM X st G w) {t : Ty} {l : Leaf} {d : t.den} {v : Value} (h : l.get st t = some d) (r : RelL G l v) : RelL G (.dat t d) v := by
  cases l with
  | dat u e =>
    obtain ⟨rfl, rfl⟩ := cast?_some h
    exact r
  | nil =>
    cases t with
    | slice t =>
      simp only [Leaf.get, Option.some.injEq] at h; subst h
      simp only [RelL] at r; subst r
      exact ⟨_, by simp [Ty.agg], rfl, .inl ⟨rfl, none, 0, rfl⟩⟩
    | _ => simp [Leaf.get] at h
  | hdl a =>
    simp only [Leaf.get] at h
    cases hA : st.arr a with
    | none => simp [hA] at h
    | some A =>
      cases hs : A.sh with
      | false => simp [hA, hs] at h
      | true =>
        simp only [hA, hs, if_true] at h
        obtain ⟨e, hd⟩ := cast?_some h
        subst e
        subst hd
        have := hm.ar a A hA
        simp only [ArrRel, hs, if_true] at this
        simp only [RelL] at r; subst r
        exact ⟨[G.ψ a], by simp [Ty.agg], this⟩
  | _ => simp [Leaf.get] at h

theorem get_leaf {X : Ctx} {st : St} {G : Gh} {w : World} (hm : RelM X st G w) {t : Ty} (ht : t.agg = false) {l : Leaf} {d : t.den} {v : Value} (h : l.get st t = some d) (r : RelL G l v) :
    Rep G.S false t [v] d [] := by
  obtain ⟨cs, e, hr⟩ := get_ok hm h r
  simp only [ht, Bool.false_eq_true, if_false] at e
  subst e; exact hr

theorem implode_ok {X : Ctx} {st : St} {G : Gh} {w : World} (hm : RelM X st G w) : ∀ {t : Ty} {ls r : List Leaf} {d : t.den} {vs : List Value}, implode st t ls = some (d, r) → All2 (RelL G) ls vs →
    ∃ c1 c2, vs = c1 ++ c2 ∧ Rep G.S false t c1 d [] ∧ All2 (RelL G) r c2 := by
  have leaf : ∀ {t : Ty}, t.agg = false → ∀ {ls r : List Leaf} {d : t.den} {vs : List Value},
      (match ls with | [] => none | l :: r => (l.get st t).map fun d => (d, r)) = some (d, r) → All2 (RelL G) ls vs →
      ∃ c1 c2, vs = c1 ++ c2 ∧ Rep G.S false t c1 d [] ∧ All2 (RelL G) r c2 := by
    intro t ht ls r d vs h a
    match ls, vs, h, a with
    | l :: ls, v :: vs, h, a =>
      simp only [Option.map_eq_some_iff, Prod.mk.injEq] at h
      obtain ⟨d', hd, rfl, rfl⟩ := h
      exact ⟨[v], vs, rfl, get_leaf hm ht hd a.1, a.2⟩
    | [], _, h, _ => simp at h
  intro t
  induction t with
  | int k => exact fun h a => leaf rfl h a
  | bool => exact fun h a => leaf rfl h a
  | str => exact fun h a => leaf rfl h a
  | slice t _ => exact fun h a => leaf rfl h a
  | pair a b iha ihb =>
    intro ls r d vs h al
    simp only [implode] at h
    cases h1 : implode st a ls with
    | none => simp [h1] at h
    | some p =>
      obtain ⟨x, r1⟩ := p
      simp only [h1] at h
      cases h2 : implode st b r1 with
      | none => simp [h2] at h
      | some q =>
        obtain ⟨y, r2⟩ := q
        simp only [h2, Option.some.injEq, Prod.mk.injEq] at h
        obtain ⟨rfl, rfl⟩ := h
        obtain ⟨c1, c2, rfl, g1, a1⟩ := iha h1 al
        obtain ⟨c3, c4, rfl, g2, a2⟩ := ihb h2 a1
        exact ⟨c1 ++ c3, c4, by simp, ⟨c1, c3, [], [], rfl, rfl, g1, g2⟩, a2⟩
  | one a iha =>
    intro ls r d vs h al
    exact iha h al

theorem avget_ok {X : Ctx} {st : St} {G : Gh} {w : World} (hm : RelM X st G w) {t : Ty} {v : AVal} {d : t.den} {x : Value} (h : v.get st t = some d) (r : RelV G v x) : RelL G (.dat t d) x := by
  cases v with
  | one l => exact get_ok hm h r
  | agg ls =>
    simp only [AVal.get] at h
    cases ht : t.agg with
    | false => simp [ht] at h
    | true =>
      simp only [ht, cond_true] at h
      cases hi : implode st t ls with
      | none => simp [hi] at h
      | some p =>
        obtain ⟨e, r'⟩ := p
        cases r' with
        | cons => simp [hi] at h
        | nil =>
          simp only [hi, Option.some.injEq] at h; subst h
          obtain ⟨cs, rfl, ha⟩ := r
          obtain ⟨c1, c2, rfl, g1, a1⟩ := implode_ok hm hi ha
          cases c2 with
          | cons => exact a1.elim
          | nil => exact ⟨c1, by simp [ht], g1⟩
  | tup vs => simp [AVal.get] at h
  | ifc t' ls => simp [AVal.get] at h

theorem cell_val {X : Ctx} {st : St} {G : Gh} {w : World} (hm : RelM X st G w) {l : Leaf} {v : Value} (hc : l.cell = true) (r : RelL G l v) : v.oneCell' = true ∧ v.cells = #[v] := by
  cases l with
  | any => cases hc
  | bas => cases hc
  | und => cases hc
  | dat t d =>
    obtain ⟨cs, e, hr⟩ := r
    simp only [Leaf.cell, Bool.not_eq_true'] at hc
    simp only [hc, Bool.false_eq_true, if_false] at e
    subst e
    cases t with
    | int k => cases hr.1; exact ⟨rfl, rfl⟩
    | bool => cases hr.1; exact ⟨rfl, rfl⟩
    | str => cases hr.1; exact ⟨rfl, rfl⟩
    | slice t =>
      rcases hr with ⟨_, ⟨_, base, cap, h⟩ | ⟨b, cap, arr, elem, fz, pre, cells, rest, h, _⟩⟩ <;> cases h <;> exact ⟨rfl, rfl⟩
    | pair a b => cases hc
    | one a => cases hc
  | nil => cases r; exact ⟨rfl, rfl⟩
  | nilp => cases r; exact ⟨rfl, rfl⟩
  | hdl a => obtain ⟨b, n, c, h⟩ := hm.sl a; simp only [RelL] at r; rw [r, h]; exact ⟨rfl, rfl⟩
  | ptr o off => cases r; exact ⟨rfl, rfl⟩
  | elt a sz i off => obtain ⟨b, len, cap, h1, h2, rfl⟩ := r; exact ⟨rfl, rfl⟩
  | she t d off => obtain ⟨b, arr, elem, fz, pre, cs, post, h1, h2, h3, rfl⟩ := r; exact ⟨rfl, rfl⟩
  | fn f => cases r; exact ⟨rfl, rfl⟩

theorem leaves_ok {X : Ctx} {st : St} {G : Gh} {w : World} (hm : RelM X st G w) {v : AVal} {ls : List Leaf} {x : Value} (h : v.leaves = some ls) (r : RelV G v x) : All2 (RelL G) ls x.cells.toList := by
  have key : ∀ l : Leaf, v = .one l → l.cell = true → ls = [l] → All2 (RelL G) ls x.cells.toList := fun l hv hc hl => by
    subst hv hl
    rw [(cell_val hm hc r).2]; exact ⟨r, trivial⟩
  have dt : ∀ (t : Ty) (d : t.den), v = .one (.dat t d) → t.agg = true → ls = explode t d → All2 (RelL G) ls x.cells.toList := fun t d hv ht hl => by
    subst hv hl
    obtain ⟨cs, e, hr⟩ := r
    simp only [ht, if_true] at e
    subst e
    exact explode_ok hr
  unfold AVal.leaves at h
  split at h
  · simp only [Option.some.injEq] at h; exact dt _ _ rfl rfl h.symm
  · simp only [Option.some.injEq] at h; exact dt _ _ rfl rfl h.symm
  · rename_i l _ _
    cases hc : l.cell <;> simp [hc] at h
    exact key l rfl hc h.symm
  · simp only [Option.some.injEq] at h; subst h
    obtain ⟨cs, rfl, ha⟩ := r
    exact ha
  · cases h

theorem slots_ok {α β : Type} {R : α → β → Prop} {ls : List α} {vs : List β} {off n : Nat} {c : List α} (a : All2 R ls vs) (h : (bif Nat.ble (off + n) ls.length then some ((ls.drop off).take n) else none) = some c) :
    ∃ pre mid post, vs = pre ++ (mid ++ post) ∧ pre.length = off ∧ mid.length = n ∧ All2 R c mid := by
  cases hb : Nat.ble (off + n) ls.length with
  | false => simp [hb] at h
  | true =>
    have hle : off + n ≤ ls.length := Nat.le_of_ble_eq_true hb
    simp only [hb, cond_true, Option.some.injEq] at h
    subst h
    have hl := a.length
    refine ⟨vs.take off, (vs.drop off).take n, (vs.drop off).drop n, ?_, by simp; omega, by simp; omega, (a.drop off).take n⟩
    rw [List.take_append_drop, List.take_append_drop]

theorem packV_ok {G : Gh} {c : List Leaf} {mid : List Value} (a : All2 (RelL G) c mid) : RelV G (packV true c) (.agg mid.toArray) := ⟨mid, rfl, a⟩
theorem packV_one {G : Gh} {c : List Leaf} {v : Value} (a : All2 (RelL G) c [v]) : RelV G (packV false c) v := by
  match c, a with
  | [l], a => exact a.1

/-- A value that is loaded from some cells: of the type's kind. -/
def pval (agg : Bool) (mid : List Value) : Value := if agg then .agg mid.toArray else mid.headD undef
theorem packV_pval {G : Gh} {g : Bool} {c : List Leaf} {mid : List Value} (hg : g = false → mid.length = 1) (a : All2 (RelL G) c mid) : RelV G (packV g c) (pval g mid) := by
  cases g with
  | true => exact packV_ok a
  | false =>
    match mid, hg rfl with
    | [v], _ => exact packV_one a

theorem run_loadAt {P : Program} {w : World} {t : TypeId} {ti : TI} (hT : TIok P t ti) {b o : Nat} {mid : List Value} (hl : mid.length = ti.size) (hc : w.rangeAt b o mid) :
    (Instr.loadAt t (.pointer (some ⟨b, o, none⟩))).run P w = .ok (pval ti.desc.agg mid) w := by
  obtain ⟨i, d, z, h1, h2, h3, h4, h5, h6, h7, h8, h9⟩ := hT
  have hrow := h7.row
  cases hg : ti.desc.agg with
  | true =>
    exact run_loadAt_mid w b o t mid d hc h2 (hrow.trans hg) (by rw [h1, hl, ← h3]; rfl)
  | false =>
    have h1' := h8 hg
    rw [h1'] at hl
    match mid, hl, hc with
    | [v], _, hc =>
      have hcell := hc 0 v rfl
      have hagg : (isAgg t).run P w = .ok false w := by
        unfold isAgg
        rw [Sem.run_bind, run_underlying h2 w]
        rw [hg] at hrow
        cases d <;> simp_all [TypeDesc.isRow]
      simp only [Nat.add_zero] at hcell
      simp [Instr.loadAt, Instr.sureAddr, loadVar, hagg, hcell, pval]

theorem rangeAt_of {w : World} {b o : Nat} {arr : Array Value} {elem : TypeId} {fz : Nat × Nat} {pre mid post : List Value} (h : w.heap[b]? = some (.cells arr elem fz)) (ha : arr.toList = pre ++ (mid ++ post)) (ho : pre.length = o) : w.rangeAt b o mid := by
  intro j v hj
  have hlt : j < mid.length := (List.getElem?_eq_some_iff.1 hj).1
  simp only [World.cell?, h, Option.isSome_none, Bool.false_eq_true, if_false]
  rw [← Array.getElem?_toList, ha, ← ho, List.getElem?_append_right (by omega), Nat.add_sub_cancel_left, List.getElem?_append_left hlt, hj]

/-! ### load -/
section ops
variable {P : Program} {E : Env} (hE : TabOk P E.tab) {X : Ctx} {st : St} {G : Gh} {w : World} {R : Type} {r : R}
include hE

theorem opLoad_ok {T : TypeId} {x : AVal} {vx : Value} {K : AVal → St → Option R} (h : opLoad E T x st K = some r) (hm : RelM X st G w) (hx : RelV G x vx) :
    ∃ av v, (Instr.loadAt T vx).run P w = .ok v w ∧ RelV G av v ∧ K av st = some r := by
  unfold opLoad at h
  cases hT : E.tab T with
  | none => simp [hT] at h
  | some ti =>
    simp only [hT] at h
    have hti := hE T ti hT
    have h1 : ti.desc.agg = false → ti.size = 1 := by obtain ⟨_, _, _, _, _, _, _, _, _, _, h8, _⟩ := hti; exact h8
    cases x with
    | agg ls => simp [AVal.leaf] at h
    | tup ls => simp [AVal.leaf] at h
    | ifc t ls => simp [AVal.leaf] at h
    | one l =>
      simp only [AVal.leaf] at h
      cases l with
      | ptr o off =>
        simp only at h
        cases ho : st.obj o with
        | none => simp [ho] at h
        | some ls =>
          simp only [ho] at h
          cases hs : slots (st.resl o 0 ls) off ti.size with
          | none => simp [hs] at h
          | some c =>
            simp only [hs] at h
            obtain ⟨arr, elem, mid, e1, e2, e3⟩ := hm.ob o ls ho
            obtain ⟨p1, m, q1, rfl, f2, f3, f4⟩ := slots_ok e3 hs
            cases hx
            refine ⟨_, _, run_loadAt hti f3 (rangeAt_of (pre := G.pre o ++ p1) (post := q1 ++ G.post o) e1 (by rw [e2]; simp) (by simp [f2])), packV_pval (fun hg => by rw [f3, h1 hg]) f4, h⟩
      | she t d off =>
        simp only at h
        cases hs : slots (explode t d) off ti.size with
        | none => simp [hs] at h
        | some c =>
          simp only [hs] at h
          obtain ⟨b, arr, elem, fz, pre, cs, post, e1, e2, e3, rfl⟩ := hx
          obtain ⟨p1, m, q1, rfl, f2, f3, f4⟩ := slots_ok (explode_ok e3) hs
          refine ⟨_, _, run_loadAt hti f3 (rangeAt_of (pre := pre ++ p1) (post := q1 ++ post) (hm.sh _ _ e1) (by rw [e2]; simp) (by simp [f2])), packV_pval (fun hg => by rw [f3, h1 hg]) f4, h⟩
      | elt a sz i off =>
        simp only at h
        cases hA : st.arr a with
        | none => simp [hA] at h
        | some A =>
          simp only [hA] at h
          cases hb : (A.deep || A.sh || !Nat.beq sz A.t.size) with
          | true => simp [hb] at h
          | false =>
            simp only [hb, cond_false] at h
            simp only [Bool.or_eq_false_iff, Bool.not_eq_false'] at hb
            obtain ⟨⟨hd, hsh⟩, hsz⟩ := hb
            have hsz : sz = A.t.size := Nat.eq_of_beq_eq_true hsz
            obtain ⟨d, hd1, h⟩ := Option.bind_eq_some_iff.1 h
            cases hs : slots (explode A.t d) off ti.size with
            | none => simp [hs] at h
            | some c =>
              simp only [hs] at h
              obtain ⟨b, len, cap, g1, g2, rfl⟩ := hx
              have har := hm.ar a A hA
              simp only [ArrRel, hsh, Bool.false_eq_true, if_false, hd] at har
              have hi : A.l[i]? = some d := by simpa [idx] using hd1
              rcases har with ⟨e1, e2, e3⟩ | ⟨b', cap', arr, elem, cells, rest, H', e1, e2, e3, e4, e5, e6⟩
              · rw [e1] at hi; simp at hi
              · simp only [List.cons.injEq, and_true] at e1
                rw [e1] at g1
                cases g1
                have hblk := hm.ah a A hA hsh (b, Obj.cells arr elem (0, 0)) (by rw [e2]; simp)
                obtain ⟨pre, cc, post, Hp, Hc, Hq, k1, k2, k3, k4, k5⟩ := RepL.at (fun c x H hr => Rep.size hr) e6 hi
                have k4' : Rep G.S false A.t cc d [] := by have e := Rep.noHeap k4; rw [e] at k4; exact k4
                obtain ⟨p1, m, q1, rfl, f2, f3, f4⟩ := slots_ok (explode_ok k4') hs
                refine ⟨_, _, run_loadAt hti f3 (rangeAt_of (pre := pre ++ p1) (post := q1 ++ (post ++ rest)) hblk (by rw [e3, k1]; simp) (by simp [k2, f2, hsz])), packV_pval (fun hg => by rw [f3, h1 hg]) f4, h⟩
      | _ => simp at h
end ops
end Go.Fx
