/- The framework, twenty-sixth text: functions on data alone. -/
import Derived.Test.YtafpgfdjfnoagaaFx25
namespace Go.Fx
set_option linter.unusedVariables false
set_option linter.unusedSimpArgs false

@[reducible] def DL : List Ty → Type
  | [] => Unit
  | t :: r => t.den × DL r
def shareVs : List AVal → St → Option St
  | [], st => some st
  | v :: r, st => (match v.shared st with | some st' => shareVs r st' | none => none)
def getVs (st : St) : (ts : List Ty) → List AVal → Option (DL ts)
  | [], [] => some ()
  | t :: ts, v :: vs => (match v.get st t with | some x => (match getVs st ts vs with | some r => some (x, r) | none => none) | none => none)
  | _, _ => none
def entD : (ts : List Ty) → Nat → DL ts → List (Nat × AVal)
  | [], _, _ => []
  | t :: r, i, d => (i, .one (.dat t d.1)) :: entD r (i + 1) d.2
def stD (n : Nat) (ts : List Ty) (d : DL ts) : St := ⟨n, entD ts 0 d, [], [], [], [], []⟩

def resV (st : St) : List ResultVar → Option (List AVal)
  | [] => some []
  | .tmp t :: r => (match resV st r with | some l => some (st.regD t :: l) | none => none)
  | _ => none
/-- What a function on data tells when it ends. -/
def retD (rv : List ResultVar) (rs : List Ty) (st : St) : Option (DL rs) :=
  match resV st rv with
  | some vs => (match shareVs vs st with | some st' => getVs st' rs vs | none => none)
  | none => none

def tupD : (rs : List Ty) → DL rs → List (Bool × List Leaf)
  | [], _ => []
  | t :: r, d => (t.agg, explode t d.1) :: tupD r d.2
def outD (rs : List Ty) (d : DL rs) : AVal :=
  match rs, d with
  | [t], d => .one (.dat t d.1)
  | rs, d => .tup (tupD rs d)

/-- A function on data alone, called. -/
def semD (ts rs : List Ty) {W : Type} (F : DL ts → Option W) (dec : W → DL rs) : CSem where
  run _ args st K _ := (match shareVs args st with
    | some st' => (match getVs st' ts args with
      | some d => (F d).bind fun r => K (outD rs (dec r)) st'
      | none => none)
    | none => none)
  foot _ _ := ([], [])

theorem shareVs_base : ∀ {vs : List AVal} {st st' : St}, shareVs vs st = some st' → Base st st'
  | [], st, st', h => by cases h; exact .refl _
  | v :: r, st, st', h => by
    simp only [shareVs] at h
    split at h
    · rename_i s1 h1; exact (shared_base h1).trans (shareVs_base h)
    · cases h
theorem semD_cong (ts rs : List Ty) {W : Type} (F : DL ts → Option W) (dec : W → DL rs) : SemCong (semD ts rs F dec) := by
  intro R dst args st K K' KP KP' hK hP
  simp only [semD]
  split
  · rename_i st' hs
    split
    · exact bind_cong fun r => hK _ _ (shareVs_base hs)
    · rfl
  · rfl

theorem shareVs_ok {X : Ctx} {w : World} : ∀ {vs : List AVal} {st st' : St} {G : Gh}, shareVs vs st = some st' → RelM X st G w → ∃ G', RelM X st' G' w ∧ G.Sub G' ∧ Kept st st'
  | [], st, st', G, h, hm => by cases h; exact ⟨G, hm, .refl G, .refl _⟩
  | v :: r, st, st', G, h, hm => by
    simp only [shareVs] at h
    split at h
    · rename_i s1 h1
      obtain ⟨G1, m1, a1, k1⟩ := shared_ok h1 hm
      obtain ⟨G2, m2, a2, k2⟩ := shareVs_ok h m1
      exact ⟨G2, m2, a1.trans a2, k1.trans k2⟩
    · cases h

def DRel (G : Gh) : (ts : List Ty) → DL ts → List Value → Prop
  | [], _, [] => True
  | t :: r, d, v :: vs => RelL G (.dat t d.1) v ∧ DRel G r d.2 vs
  | _, _, _ => False

theorem getVs_ok {X : Ctx} {st : St} {G : Gh} {w : World} (hm : RelM X st G w) : ∀ {ts : List Ty} {avs : List AVal} {d : DL ts} {vs : List Value}, getVs st ts avs = some d → All2 (RelV G) avs vs → DRel G ts d vs
  | [], [], d, [], _, _ => trivial
  | t :: ts, a :: avs, d, v :: vs, h, hr => by
    simp only [getVs] at h
    split at h
    · rename_i x hx
      split at h
      · rename_i r hr'
        simp only [Option.some.injEq] at h
        subst h
        exact ⟨avget_ok hm hx hr.1, getVs_ok hm hr' hr.2⟩
      · cases h
    · cases h
  | [], [], d, _ :: _, _, hr => hr.elim
  | [], _ :: _, d, _, h, _ => by cases h
  | _ :: _, [], d, _, h, _ => by cases h
  | _ :: _, _ :: _, d, [], _, hr => hr.elim

theorem DRel.regs {G : Gh} {n : Nat} : ∀ {ts : List Ty} {d : DL ts} {vs : List Value} (pre : List Value), DRel G ts d vs → ∀ i v, look (entD ts pre.length d) i = some v → RelV G v ((pre ++ vs).getD i undef)
  | [], d, [], pre, _, i, v, h => by cases h
  | t :: r, d, u :: vs, pre, hd, i, v, h => by
    simp only [entD, look_cons] at h
    by_cases e : pre.length = i
    · simp only [e, if_true, Option.some.injEq] at h
      subst h; subst e
      have : (pre ++ u :: vs).getD pre.length undef = u := by simp [List.getD_eq_getElem?_getD]
      rw [this]; exact hd.1
    · simp only [e, if_false] at h
      have := DRel.regs (n := n) (pre ++ [u]) hd.2 i v (by simpa using h)
      simpa using this
  | [], d, _ :: _, _, h, _, _, _ => h.elim
  | _ :: _, d, [], _, h, _, _, _ => h.elim

theorem DRel.length {G : Gh} : ∀ {ts : List Ty} {d : DL ts} {vs : List Value}, DRel G ts d vs → vs.length = ts.length
  | [], d, [], _ => rfl
  | t :: r, d, u :: vs, hd => by simp [DRel.length hd.2]
  | [], d, _ :: _, h => h.elim
  | _ :: _, d, [], h => h.elim

def ctxD (S : Mem) (w : World) : Ctx := ⟨S, fun _ => False, w, fun _ => none, (fun _ _ h => (by cases h)), fun _ _ => none, (fun _ _ _ h => (by cases h))⟩
def ghD (S : Mem) : Gh := ⟨S, fun _ => 0, fun _ => [], fun _ => [], fun _ => .slice none 0 0, fun _ => []⟩

theorem stD_ok {S : Mem} {w : World} (hS : ∀ b o, S b = some o → w.heap[b]? = some o) (n : Nat) (ts : List Ty) (d : DL ts) : RelM (ctxD S w) (stD n ts d) (ghD S) w := by
  have no : ∀ x b, ¬ Owns (ghD S) (stD n ts d) x b := fun x b hx => by
    obtain ⟨k, m⟩ := x
    cases k with
    | false => obtain ⟨⟨ls, h⟩, _⟩ := hx; cases h
    | true => obtain ⟨⟨A, h, _⟩, _⟩ := hx; cases h
  refine { sl := fun _ => ⟨_, _, _, rfl⟩, sh := hS, ob := fun o ls h => (by cases h), ar := fun a A h => (by cases h), ah := fun a A h => (by cases h), nd := fun a A h => (by cases h), dis := fun x y b h => (no x b h).elim, dS := fun x b h => (no x b h).elim, inn := fun x b h => (no x b h).elim, s0 := fun b o h => h, sn := fun b o h => .inl h, fr := fun b _ _ => rfl, sz := Nat.le_refl _, os := rfl, tp := rfl, out := rfl, pin := fun o p h => (by cases h), bv := fun o j u h => (by cases h) }

/-- The caller's state stands, behind a call that owned nothing. -/
theorem RelM.call0 {X : Ctx} {st : St} {G : Gh} {w w' : World} (hm : RelM X st G w) {t : St} {G3 : Gh} (h3 : RelM (ctxD G.S w) t G3 w') : RelM X st { G with S := G3.S } w' ∧ G.Sub { G with S := G3.S } := by
  have hS : ∀ b o, G.S b = some o → G3.S b = some o := h3.s0
  have hsub : G.Sub { G with S := G3.S } := ⟨hS, rfl, rfl, rfl, rfl, rfl⟩
  have hfr : ∀ b, b < w.heap.size → w'.heap[b]? = w.heap[b]? := fun b hb => h3.fr b hb (fun h => h)
  have own : ∀ x b, Owns { G with S := G3.S } st x b → Owns G st x b := fun x b hx => by
    obtain ⟨k, m⟩ := x; cases k <;> exact hx
  refine ⟨{ sl := hm.sl, sh := h3.sh, ob := fun o ls h => ?_, ar := fun a A h => ?_, ah := fun a A h hs p hp => ?_, nd := hm.nd, dis := fun x y b hx hy => hm.dis x y b (own x b hx) (own y b hy), dS := fun x b hx => ?_, inn := fun x b hx => hm.inn x b (own x b hx), s0 := fun b o h => hS b o (hm.s0 b o h), sn := fun b o h => ?_, fr := fun b h1 h2 => ?_, sz := Nat.le_trans hm.sz h3.sz, os := h3.os.trans hm.os, tp := h3.tp.trans hm.tp, out := h3.out.trans hm.out, pin := hm.pin, bv := fun o j u h => (by obtain ⟨h1, ⟨l, h2, h5⟩, arr0, elem0, h4, h6⟩ := hm.bv o j u h; exact ⟨h1, ⟨l, h2, h5⟩, arr0, elem0, by rw [hfr _ (Owns.lt hm (x := (false, o)) ⟨⟨l, h2⟩, rfl⟩)]; exact h4, h6⟩) }, hsub⟩
  · obtain ⟨arr, elem, mid, g1, g2, g3⟩ := hm.ob o ls h
    exact ⟨arr, elem, mid, by rw [hfr _ (Owns.lt hm (x := (false, o)) ⟨⟨ls, h⟩, rfl⟩)]; exact g1, g2, sub_allDat hsub g3⟩
  · have := hm.ar a A h
    simp only [ArrRel] at this ⊢
    split
    · rename_i hs
      simp only [hs, if_true] at this
      rcases this with ⟨e, h1 | ⟨b, cap, arr, elem, fz, pre, cells, rest, q1, q2, q3, q4, q5⟩⟩
      · exact ⟨e, .inl h1⟩
      · exact ⟨e, .inr ⟨b, cap, arr, elem, fz, pre, cells, rest, q1, hS _ _ q2, q3, q4.imp (fun c x H hr => hr.mono hS), q5⟩⟩
    · rename_i hs
      simp only [hs, if_false, Bool.false_eq_true] at this
      rcases this with h1 | ⟨b, cap, arr, elem, cells, rest, H', q1, q2, q3, q4, q5, q6⟩
      · exact .inl h1
      · exact .inr ⟨b, cap, arr, elem, cells, rest, H', q1, q2, q3, q4, q5, q6.imp (fun c x H hr => hr.mono hS)⟩
  · rw [hfr p.1 (Owns.lt hm (x := (true, a)) ⟨⟨A, h, hs⟩, p, hp, rfl⟩)]; exact hm.ah a A h hs p hp
  · have hx' := own x b hx
    have hlt := Owns.lt hm hx'
    cases hc : G3.S b with
    | none => rfl
    | some o =>
      rcases h3.sn b o hc with h | h | h
      · have := hm.dS x b hx'; rw [show G.S b = some o from h] at this; cases this
      · exact h.elim
      · have h : w.heap.size ≤ b := h; omega
  · rcases h3.sn b o h with h | h | h
    · exact hm.sn b o h
    · exact h.elim
    · have := hm.sz; have h : w.heap.size ≤ b := h; exact .inr (.inr (by omega))
  · rw [hfr b (by have := hm.sz; omega)]; exact hm.fr b h1 h2

def valOf (tmps : Array Value) : ResultVar → Value
  | .tmp t => tmps.getD t undef
  | _ => undef
theorem resV_ok : ∀ {rv : List ResultVar} {st : St} {avs : List AVal} {G : Gh} {act : Act}, resV st rv = some avs → RelR G st act → (∀ x ∈ rv, ∃ t, x = .tmp t) ∧ All2 (RelV G) avs (rv.map (valOf act.tmps))
  | [], st, avs, G, act, h, hr => by cases h; exact ⟨by simp, trivial⟩
  | .tmp t :: r, st, avs, G, act, h, hr => by
    simp only [resV] at h
    split at h
    · rename_i l hl
      cases h
      obtain ⟨h1, h2⟩ := resV_ok hl hr
      refine ⟨fun x hx => ?_, ?_, h2⟩
      · rcases List.mem_cons.1 hx with rfl | hx
        · exact ⟨t, rfl⟩
        · exact h1 x hx
      · unfold St.regD
        cases hs : st.reg t with
        | none => trivial
        | some sv => exact hr.2.2 t sv hs
    · cases h
  | .cell _ _ :: _, _, _, _, _, h, _ => by cases h

theorem run_results {P : Program} {w : World} {fn : Func} {tmps : Array Value} (h : ∀ x ∈ fn.results.toList, ∃ t, x = .tmp t) :
    (results fn tmps).run P w = .ok (match fn.results.toList.map (valOf tmps) with | [v] => v | vs => .tuple vs.toArray) w := by
  obtain ⟨g, h1, h2⟩ : ∃ g : ResultVar → Sem Value, results fn tmps = (do let vs ← fn.results.mapM g; pure (if h : vs.size = 1 then vs[0] else .tuple vs)) ∧ ∀ t, g (.tmp t) = pure (tmps.getD t undef) := ⟨_, rfl, fun _ => rfl⟩
  rw [h1, Sem.run_bind, run_mapM g (valOf tmps) fn.results (fun x hx => by
    obtain ⟨t, rfl⟩ := h x (by simpa using hx)
    rw [h2]; rfl)]
  simp only [Result.andThen_ok, Sem.run_pure]
  have : fn.results.map (valOf tmps) = (fn.results.toList.map (valOf tmps)).toArray := by rw [← Array.toList_map]
  rw [this]
  generalize fn.results.toList.map (valOf tmps) = l
  congr 1
  match l with
  | [] => rfl
  | [v] => rfl
  | v :: u :: r => simp

theorem tupD_ok {G : Gh} : ∀ {rs : List Ty} {d : DL rs} {vs : List Value}, DRel G rs d vs → All2 (fun (p : Bool × List Leaf) u => if p.1 = true then ∃ cs : List Value, u = .agg cs.toArray ∧ All2 (RelL G) p.2 cs else ∃ l, p.2 = [l] ∧ RelL G l u) (tupD rs d) vs
  | [], d, [], _ => trivial
  | t :: r, d, v :: vs, h => by
    refine ⟨?_, tupD_ok h.2⟩
    obtain ⟨cs, e1, e2⟩ := h.1
    cases ha : t.agg with
    | true => simp only [ha, if_true] at e1 ⊢; exact ⟨cs, e1, explode_ok e2⟩
    | false =>
      simp only [ha, Bool.false_eq_true, if_false] at e1 ⊢
      cases t <;> simp [Ty.agg] at ha <;> exact ⟨_, rfl, _, by simp [Ty.agg, e1], e2⟩
  | [], d, _ :: _, h => h.elim
  | _ :: _, d, [], h => h.elim

section
variable {P : Program} {E : Env} (hE : EnvOk P E)
include hE

theorem fn_data {f : FuncId} {fn : Func} {c : Code} {ts rs : List Ty} {W : Type} {F : DL ts → Option W} (pack : DL rs → W) {dec : W → DL rs} (hdec : ∀ r, dec (pack r) = r) (hf : P.funcs[f]? = some fn) (hb : fn.body = some c) (hcall : ∀ args w, (callFunc f args).run P w = .ok (.enter f args) w) (hL : LoopsOk P E c)
    (hn : ts.length ≤ fn.ntmps)
    (h : ∀ d, F d = runC E c (stD fn.ntmps ts d) (fun e s => match e with | .normal => (retD fn.results.toList rs s).map pack | .ret => (retD fn.results.toList rs s).map pack | _ => none) (fun _ _ => none)) : SemOk P f (semD ts rs F dec) := by
  intro R r X st G w dst args vs K KP hr hm ha
  simp only [semD] at hr
  split at hr
  · rename_i st1 hs
    split at hr
    · rename_i d hd
      obtain ⟨y, hx, hr⟩ := Option.bind_eq_some_iff.1 hr
      obtain ⟨G1, m1, a1, k1⟩ := shareVs_ok hs hm
      have hdr := getVs_ok m1 hd (ha.imp fun a v h => h.sub a1)
      refine ⟨hcall _ _, calls_of_wp hf hb ?_⟩
      have hreg : RelR (ghD G1.S) (stD fn.ntmps ts d) { tmps := vs.toArray ++ Array.replicate (fn.ntmps - vs.toArray.size) undef, defers := [] } := by
        have hl := hdr.length
        refine ⟨rfl, by simp [stD]; omega, fun i v hv => ?_⟩
        have hdr' : DRel (ghD G1.S) ts d vs := by
          have key : ∀ {ts : List Ty} {d : DL ts} {vs : List Value}, DRel G1 ts d vs → DRel (ghD G1.S) ts d vs := by
            intro ts
            induction ts with
            | nil => intro d vs h; cases vs <;> exact h
            | cons t r ih => intro d vs h; cases vs with
              | nil => exact h
              | cons v vs => exact ⟨h.1, ih h.2⟩
          exact key hdr
        have h1 : (stD fn.ntmps ts d).reg i = look (entD ts 0 d) i := by
          simp only [St.reg, stD]
          cases look (entD ts 0 d) i <;> rfl
        rw [h1] at hv
        have h2 := DRel.regs (n := 0) [] hdr' i v hv
        simp only [List.nil_append] at h2
        have hi : i < vs.length := by
          rw [hl]
          have : ∀ {ts : List Ty} {d : DL ts} {k i : Nat} {v : AVal}, look (entD ts k d) i = some v → i < k + ts.length := by
            intro ts
            induction ts with
            | nil => intro d k i v h; cases h
            | cons t r ih =>
              intro d k i v h
              simp only [entD, look_cons] at h
              by_cases e : k = i
              · subst e; simp
              · simp only [e, if_false] at h
                have := ih h; simp only [List.length_cons]; omega
          have := this hv; omega
        rw [Array.getD_eq_getD_getElem?, Array.getElem?_append_left (by simpa using hi)]
        simpa [List.getD_eq_getElem?_getD] using h2
      have hres : ∀ s G w' act, RelM (ctxD G1.S w) s G w' → RelR G s act → (retD fn.results.toList rs s).map pack = some y → act.defers = [] ∧ ∃ v, (results fn act.tmps).run P w' = .ok v w' ∧
          ∃ av st' G', RelM X st' G' w' ∧ (∀ act, RelR _ st act → RelR G' st' act) ∧ RelV G' av v ∧ K av st' = some r := fun s G3 w' act m3 r3 hret => by
        refine ⟨r3.1, ?_⟩
        obtain ⟨x, hret', hy⟩ := Option.map_eq_some_iff.1 hret
        clear hret
        rw [← hy, hdec] at hr
        have hret := hret'
        unfold retD at hret
        split at hret
        · rename_i avs hav
          split at hret
          · rename_i s' hs'
            obtain ⟨h1, h2⟩ := resV_ok hav r3
            have hrun := run_results (P := P) (w := w') h1 (tmps := act.tmps)
            generalize fn.results.toList.map (valOf act.tmps) = vs' at h2 hrun
            obtain ⟨G4, m4, a4, k4⟩ := shareVs_ok hs' m3
            have hdr2 := getVs_ok m4 hret (h2.imp fun a v h => h.sub a4)
            obtain ⟨mc, subc⟩ := m1.call0 m4
            have hdr3 : DRel { G1 with S := G4.S } rs x vs' := by
              have key : ∀ {ts : List Ty} {d : DL ts} {vs : List Value}, DRel G4 ts d vs → DRel { G1 with S := G4.S } ts d vs := by
                intro ts
                induction ts with
                | nil => intro d vs h; cases vs <;> exact h
                | cons t r ih => intro d vs h; cases vs with
                  | nil => exact h
                  | cons v vs => exact ⟨h.1, ih h.2⟩
              exact key hdr2
            refine ⟨_, hrun, outD rs x, st1, _, mc, fun act ra => (kept_regs k1 a1 ra).sub subc rfl (fun _ => rfl), ?_, hr⟩
            cases rs with
            | nil =>
              cases vs' with
              | nil => exact ⟨[], rfl, trivial⟩
              | cons _ _ => exact hdr3.elim
            | cons t rs =>
              cases vs' with
              | nil => exact hdr3.elim
              | cons v vs' =>
                cases rs with
                | nil =>
                  cases vs' with
                  | nil => exact hdr3.1
                  | cons _ _ => exact hdr3.2.elim
                | cons t2 rs =>
                  cases vs' with
                  | nil => exact hdr3.2.elim
                  | cons v2 vs' => exact ⟨v :: v2 :: vs', by simp, tupD_ok hdr3⟩
          · cases hret
        · cases hret
      rw [h] at hx
      refine runC_ok hE c hL hx (stD_ok m1.sh _ _ _) hreg (fun e s G3 w' act m3 r3 hk => ?_) (fun av v s G3 w' act m3 r3 hv hk => by cases hk)
      cases e with
      | normal => exact hres s G3 w' act m3 r3 hk
      | ret => exact hres s G3 w' act m3 r3 hk
      | _ => cases hk
    · cases hr
  · cases hr
end
end Go.Fx
