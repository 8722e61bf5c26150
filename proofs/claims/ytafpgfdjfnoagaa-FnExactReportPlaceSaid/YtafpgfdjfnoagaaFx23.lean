/- The framework, twenty-third text: entering a loop, going round, leaving. -/
import Derived.Test.YtafpgfdjfnoagaaFx22
namespace Go.Fx
set_option linter.unusedVariables false
set_option linter.unusedSimpArgs false

theorem shareAll_ok {X : Ctx} {w : World} : ∀ {ps : Pls} {st st' : St} {G : Gh}, shareAll ps st = some st' → RelM X st G w → ∃ G', RelM X st' G' w ∧ G.Sub G' ∧ Kept st st'
  | [], st, st', G, h, hm => by simp only [shareAll, Option.some.injEq] at h; subst h; exact ⟨G, hm, .refl G, .refl _⟩
  | (p, sp) :: r, st, st', G, h, hm => by
    cases sp with
    | d t =>
      simp only [shareAll] at h
      split at h
      · rename_i s1 h1
        obtain ⟨G1, m1, a1, k1⟩ := shared_ok h1 hm
        obtain ⟨G2, m2, a2, k2⟩ := shareAll_ok h m1
        exact ⟨G2, m2, a1.trans a2, k1.trans k2⟩
      · cases h
    | _ => exact shareAll_ok (ps := r) h hm
theorem shareAll_base : ∀ {ps : Pls} {st st' : St}, shareAll ps st = some st' → Base st st'
  | [], st, st', h => by simp only [shareAll, Option.some.injEq] at h; subst h; exact .refl _
  | (p, sp) :: r, st, st', h => by
    cases sp with
    | d t =>
      simp only [shareAll] at h
      split at h
      · rename_i s1 h1; exact (shared_base h1).trans (shareAll_base h)
      · cases h
    | _ => exact shareAll_base (ps := r) h
theorem kept_regs {G G' : Gh} {st st' : St} (k : Kept st st') (h : G.Sub G') {act : Act} (r : RelR G st act) : RelR G' st' act := r.sub h k.n k.reg

theorem ent_ok {L : Lay} {st s : St} {c : PV L.cs} {v : PV L.vs} (h : ent L st = some (c, v, s)) (hbl : ∀ o j lf, lookL s.bleaves o j = some lf → ∃ lf', lookL (leavesOf L.cs c) o j = some lf') {X : Ctx} {G : Gh} {w : World} {act : Act} (hm : RelM X st G w) (hr : RelR G st act) :
    ∃ G', RelM X (L.st c v) G' w ∧ RelR G' (L.st c v) act := by
  unfold ent at h
  split at h
  · cases h
  · rename_i s1 h1
    split at h
    · cases h
    · rename_i s2 h2
      split at h
      · cases h
      · rename_i c' a hc
        split at h
        · cases h
        · rename_i v' b hv
          cases hk : (Nat.beq L.n s2.n && alOk (a ++ b) && objsOk L.objs s2) with
          | false => simp [hk] at h
          | true =>
            simp only [hk, cond_true, Option.some.injEq, Prod.mk.injEq] at h
            obtain ⟨rfl, rfl, rfl⟩ := h
            simp only [Bool.and_eq_true] at hk
            obtain ⟨⟨k1, k2⟩, k3⟩ := hk
            obtain ⟨G1, m1, a1, q1⟩ := shareAll_ok h1 hm
            obtain ⟨G2, m2, a2, q2⟩ := shareAll_ok h2 m1
            have hn : ((a ++ b).map (·.1)).Nodup := by
              have := k2; simp only [alOk, Bool.and_eq_true] at this; exact nodupN_iff this.1
            have N := norm_of (L := L) (rdAll_src hn hc (fun e he => List.mem_append_left _ he)) (rdAll_src hn hv (fun e he => List.mem_append_right _ he))
              (fun nm src A hmem => by
                rcases List.mem_append.1 hmem with hmem | hmem
                · exact rdAll_good hc nm src A hmem
                · exact rdAll_good hv nm src A hmem) k2 k3 (Nat.eq_of_beq_eq_true k1) hbl
            exact ⟨_, N.ok m2, N.regs m2 (kept_regs q2 a2 (kept_regs q1 a1 hr))⟩

/-! ### What does not change -/
/-- Each place is found where the lists say. -/
def FoundAll (full : (ps : Pls) × PV ps) : (ps : Pls) → PV ps → Prop
  | [], _ => True
  | (.r i, sp) :: r, v => look (regsOf full.1 full.2) i = some (.one (sp.leaf (Pl.r i).key v.1)) ∧ (∀ A, sp.arr v.1 = some A → look (arrsOf full.1 full.2) (Pl.r i).key = some A) ∧ FoundAll full r v.2
  | (.l o j, sp) :: r, v => lookL (leavesOf full.1 full.2) o j = some (sp.leaf (Pl.l o j).key v.1) ∧ (∀ A, sp.arr v.1 = some A → look (arrsOf full.1 full.2) (Pl.l o j).key = some A) ∧ FoundAll full r v.2

def cons1 (p : Pl × Spec) (x : p.2.V) (f : (ps : Pls) × PV ps) : (ps : Pls) × PV ps := ⟨p :: f.1, (x, f.2)⟩

theorem FoundAll.cons {p : Pl × Spec} {x : p.2.V} {full : (ps : Pls) × PV ps} : ∀ {ps : Pls} {v : PV ps}, FoundAll full ps v → p.1.key ∉ ps.map (fun p => p.1.key) → FoundAll (cons1 p x full) ps v
  | [], v, _, _ => trivial
  | (.r i, sp) :: r, v, h, hn => by
    obtain ⟨h1, h2, h3⟩ := h
    simp only [List.map_cons, List.mem_cons, not_or] at hn
    refine ⟨?_, fun A hA => ?_, FoundAll.cons h3 hn.2⟩
    · obtain ⟨q, sq⟩ := p
      cases q with
      | r j =>
        have : j ≠ i := fun e => hn.1 (by rw [e])
        simp only [cons1, regsOf, look_cons, if_neg this]; exact h1
      | l o j => exact h1
    · have := h2 A hA
      simp only [cons1, arrsOf]
      split
      · rw [look_cons, if_neg hn.1]; exact this
      · exact this
  | (.l o j, sp) :: r, v, h, hn => by
    obtain ⟨h1, h2, h3⟩ := h
    simp only [List.map_cons, List.mem_cons, not_or] at hn
    refine ⟨?_, fun A hA => ?_, FoundAll.cons h3 hn.2⟩
    · obtain ⟨q, sq⟩ := p
      cases q with
      | r i => exact h1
      | l o' j' =>
        have : (Nat.beq o' o && Nat.beq j' j) = false := by
          cases hb : (Nat.beq o' o && Nat.beq j' j) with
          | false => rfl
          | true =>
            simp only [Bool.and_eq_true] at hb
            exact absurd (by rw [Nat.eq_of_beq_eq_true hb.1, Nat.eq_of_beq_eq_true hb.2]) hn.1
        simp only [cons1, leavesOf, lookL, this, cond_false]; exact h1
    · have := h2 A hA
      simp only [cons1, arrsOf]
      split
      · rw [look_cons, if_neg hn.1]; exact this
      · exact this

theorem foundAll : ∀ {ps : Pls} {v : PV ps}, (ps.map fun p => p.1.key).Nodup → FoundAll ⟨ps, v⟩ ps v
  | [], v, _ => trivial
  | p :: r, v, hn => by
    rw [List.map_cons, List.nodup_cons] at hn
    have ih := FoundAll.cons (p := p) (x := v.1) (foundAll (v := v.2) hn.2) hn.1
    obtain ⟨q, sq⟩ := p
    cases q with
    | r i =>
      refine ⟨by simp [regsOf, look_cons], fun A hA => ?_, ih⟩
      simp only at hA
      simp [arrsOf, hA, look_cons]
    | l o j =>
      refine ⟨by simp [leavesOf, lookL], fun A hA => ?_, ih⟩
      simp only at hA
      simp [arrsOf, hA, look_cons]

def BaseOf (L : Lay) (c : PV L.cs) (s : St) : Prop := L.n = s.n ∧ s.bregs = regsOf L.cs c ∧ s.bleaves = leavesOf L.cs c ∧ s.barrs = arrsOf L.cs c

theorem keep_one {s : St} {al : AL} {p : Pl} {sp : Spec} {x : sp.V} (hat : s.at p = .one (sp.leaf p.key x)) (hl : ∀ l, sp = .lit l → litEq l l = true) (ha : ∀ A, sp.arr x = some A → look al p.key = some (some p.key, A)) : Src s al p sp x := by
  refine ⟨fun X G w u hm hu => ?_, fun A hA => ⟨_, ha A hA⟩⟩
  rw [hat] at hu
  cases sp with
  | any => trivial
  | d t => exact hu
  | lit l => exact lit_ren (hl l rfl) hu
  | h t =>
    have := ha _ rfl
    show u = (G.ren al).ψ p.key
    simp only [Gh.ren, this]; exact hu

theorem keep_src {s : St} {al : AL} {full : (ps : Pls) × PV ps} (h1 : s.bregs = regsOf full.1 full.2) (h2 : s.bleaves = leavesOf full.1 full.2) (hn : (al.map (·.1)).Nodup) :
    ∀ {ps : Pls} {v : PV ps}, FoundAll full ps v → (ps.all fun p => keep1 s p.1 p.2) = true → (∀ e ∈ keepAL ps v, e ∈ al) → SrcAll s al ps v
  | [], v, _, _, _ => trivial
  | (.r i, sp) :: r, v, hf, hk, hs => by
    obtain ⟨f1, f2, f3⟩ := hf
    simp only [List.all_cons, Bool.and_eq_true] at hk
    obtain ⟨k12, k3⟩ := hk
    simp only [keep1, Bool.and_eq_true] at k12
    obtain ⟨k1, k2⟩ := k12
    have hlr : look s.regs i = none := by simpa using k1
    refine ⟨keep_one (by simp [St.at, St.regD, St.reg, hlr, h1, f1]) (fun l e => by subst e; exact k2) (fun A hA => ?_), keep_src h1 h2 hn f3 (by simpa using k3) (fun e he => hs e ?_)⟩
    · exact look_of_mem hn (hs _ (by simp [keepAL, hA]))
    · simp only [keepAL]; split <;> simp [he]
  | (.l o j, sp) :: r, v, hf, hk, hs => by
    obtain ⟨f1, f2, f3⟩ := hf
    simp only [List.all_cons, Bool.and_eq_true] at hk
    obtain ⟨k12, k3⟩ := hk
    simp only [keep1, Bool.and_eq_true] at k12
    obtain ⟨k1, k2⟩ := k12
    refine ⟨keep_one ?_ (fun l e => by subst e; exact k2) (fun A hA => ?_), keep_src h1 h2 hn f3 (by simpa using k3) (fun e he => hs e ?_)⟩
    · split at k1
      · rename_i ls ho
        split at k1
        · rename_i hj
          simp [St.at, ho, hj, St.res, h2, f1]
        · cases k1
      · cases k1
    · exact look_of_mem hn (hs _ (by simp [keepAL, hA]))
    · simp only [keepAL]; split <;> simp [he]

theorem arr_spec {sp : Spec} {x : sp.V} {A : Arr} (h : sp.arr x = some A) : A.sh = false ∧ ∃ t, sp = .h t := by
  cases sp <;> simp [Spec.arr] at h
  subst h; exact ⟨rfl, _, rfl⟩

theorem keep_good {s : St} {full : (ps : Pls) × PV ps} (h3 : s.barrs = arrsOf full.1 full.2) :
    ∀ {ps : Pls} {v : PV ps}, FoundAll full ps v → (ps.all fun p => keep1 s p.1 p.2) = true → ALgood s (keepAL ps v)
  | [], v, _, _ => by intro _ _ _ h; cases h
  | (p, sp) :: r, v, hf, hk => by
    simp only [List.all_cons, Bool.and_eq_true] at hk
    obtain ⟨k1, k3⟩ := hk
    have f2 : ∀ A, sp.arr v.1 = some A → look (arrsOf full.1 full.2) p.key = some A := by
      cases p <;> exact hf.2.1
    have f3 : FoundAll full r v.2 := by cases p <;> exact hf.2.2
    intro nm src A hm
    simp only [keepAL] at hm
    split at hm
    · rename_i B hB
      rcases List.mem_cons.1 hm with hm | hm
      · simp only [Prod.mk.injEq] at hm
        obtain ⟨rfl, rfl, rfl⟩ := hm
        obtain ⟨e1, t, e2⟩ := arr_spec hB
        refine ⟨e1, ?_⟩
        have hno : look s.arrs p.key = none := by
          subst e2
          cases p <;> (simp only [keep1, Bool.and_eq_true] at k1; simpa using k1.2)
        simp [St.arr, hno, h3, f2 _ hB]
      · exact keep_good h3 f3 (by simpa using k3) nm src A hm
    · exact keep_good h3 f3 (by simpa using k3) nm src A hm

theorem BaseOf.base {L : Lay} {c : PV L.cs} {s s' : St} (h : BaseOf L c s) (b : Base s s') : BaseOf L c s' := ⟨h.1.trans b.1.symm, b.2.1.trans h.2.1, b.2.2.1.trans h.2.2.1, b.2.2.2.trans h.2.2.2⟩

theorem rnd_ok {L : Lay} {c : PV L.cs} {s : St} {v : PV L.vs} (hb : BaseOf L c s) (h : rnd L (keepAL L.cs c) s = some v) {X : Ctx} {G : Gh} {w : World} {act : Act} (hm : RelM X s G w) (hr : RelR G s act) :
    ∃ G', RelM X (L.st c v) G' w ∧ RelR G' (L.st c v) act := by
  unfold rnd at h
  split at h
  · cases h
  · rename_i s1 h1
    split at h
    · cases h
    · rename_i v' b hv
      cases hk : (keepAll s1 L.cs && alOk (keepAL L.cs c ++ b) && objsOk L.objs s1) with
      | false => simp [hk] at h
      | true =>
        simp only [hk, cond_true, Option.some.injEq] at h
        subst h
        simp only [Bool.and_eq_true, keepAll] at hk
        obtain ⟨⟨⟨k0, k1⟩, k2⟩, k3⟩ := hk
        have hb1 := hb.base (shareAll_base h1)
        obtain ⟨G1, m1, a1, q1⟩ := shareAll_ok h1 hm
        have hn : ((keepAL L.cs c ++ b).map (·.1)).Nodup := by
          have := k2; simp only [alOk, Bool.and_eq_true] at this; exact nodupN_iff this.1
        have hf := foundAll (v := c) (nodupN_iff k0)
        have N := norm_of (L := L) (keep_src (full := ⟨L.cs, c⟩) hb1.2.1 hb1.2.2.1 hn hf k1 (fun e he => List.mem_append_left _ he)) (rdAll_src hn hv (fun e he => List.mem_append_right _ he))
          (fun nm src A hmem => by
            rcases List.mem_append.1 hmem with hmem | hmem
            · exact keep_good (full := ⟨L.cs, c⟩) hb1.2.2.2 hf k1 nm src A hmem
            · exact rdAll_good hv nm src A hmem) k2 k3 hb1.1 (fun o j lf hl => ⟨lf, by rw [← hb1.2.2.1]; exact hl⟩)
        exact ⟨_, N.ok m1, N.regs m1 (kept_regs q1 a1 hr)⟩
end Go.Fx
