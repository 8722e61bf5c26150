/- Parts: Fx26, Fx27, Fx28, Fx29, Fx30, Fx31, Fx42, Fx43, Fx44, Fx45, Fx46, Fx47. -/
import Derived.Test.YtafpgfdjfnoagaaDoorFxc
/- The framework, twenty-sixth text: functions on data alone. -/
namespace Go.Fx
set_option linter.unusedVariables false
set_option linter.unusedSimpArgs false

@[reducible] def DL : List Ty → Type
  | [] => Unit
  | t :: r => t.den × DL r
def shareVs : List AVal → St → Option St
  | [], st => some st
  | v :: r, st => (match v.shared st with | some st' => shareVs r st' | none => none)
def getVs (st : St) : (ts : List Ty) → List AVal → Option (DL ts)
  | [], [] => some ()
  | t :: ts, v :: vs => (match v.get st t with | some x => (match getVs st ts vs with | some r => some (x, r) | none => none) | none => none)
  | _, _ => none
def entD : (ts : List Ty) → Nat → DL ts → List (Nat × AVal)
  | [], _, _ => []
  | t :: r, i, d => (i, .one (.dat t d.1)) :: entD r (i + 1) d.2
def stD (n : Nat) (ts : List Ty) (d : DL ts) : St := ⟨n, entD ts 0 d, [], [], [], [], []⟩

/-- The results as they stand: in temporaries, or in variables. -/
def resV (E : Env) (st : St) : List ResultVar → Option (List AVal)
  | [] => some []
  | .tmp t :: r => (match resV E st r with | some l => some (st.regD t :: l) | none => none)
  | .cell t T :: r => (match st.regD t with
    | .one (.ptr o off) => (match opLoad E T (.one (.ptr o off)) st (fun v _ => some v), resV E st r with | some v, some l => some (v :: l) | _, _ => none)
    | _ => none)
/-- What a function on data tells when it ends. -/
def retD (E : Env) (rv : List ResultVar) (rs : List Ty) (st : St) : Option (DL rs) :=
  match resV E st rv with
  | some vs => (match shareVs vs st with | some st' => getVs st' rs vs | none => none)
  | none => none

def tupD : (rs : List Ty) → DL rs → List (Bool × List Leaf)
  | [], _ => []
  | t :: r, d => (t.agg, explode t d.1) :: tupD r d.2
def outD (rs : List Ty) (d : DL rs) : AVal :=
  match rs, d with
  | [t], d => .one (.dat t d.1)
  | rs, d => .tup (tupD rs d)

/-- Data without slices: it hangs on no memory. -/
def Ty.noSl : Ty → Bool
  | .int _ => true | .bool => true | .str => true | .slice _ => false | .pair a b => a.noSl && b.noSl | .one a => a.noSl | .arr _ t => t.noSl
theorem rep_noSl {S S' : Mem} {m m' : Bool} : ∀ {t : Ty} {cs : List Value} {d : t.den} {H : Heap}, t.noSl = true → Rep S m t cs d H → Rep S' m' t cs d H
  | .int _, _, _, _, _, h => h
  | .bool, _, _, _, _, h => h
  | .str, _, _, _, _, h => h
  | .slice _, _, _, _, e, _ => by cases e
  | .pair a b, cs, d, H, e, h => by
    simp only [Ty.noSl, Bool.and_eq_true] at e
    obtain ⟨c1, c2, H1, H2, rfl, rfl, h1, h2⟩ := h
    exact ⟨c1, c2, H1, H2, rfl, rfl, rep_noSl e.1 h1, rep_noSl e.2 h2⟩
  | .one a, cs, d, H, e, h => by exact rep_noSl (t := a) e h
  | .arr n t, cs, d, H, e, h => ⟨h.1.imp fun c x H hx => rep_noSl (t := t) e hx, h.2⟩

/-- A function on data alone, called. Where what comes out hangs on no memory, what goes in is but lent. -/
def semD (ts rs : List Ty) {W : Type} (F : DL ts → Option W) (dec : W → DL rs) : CSem where
  run _ args st K _ := (match shareVs args st with
    | some st' => (match getVs st' ts args with
      | some d => (F d).bind fun r => K (outD rs (dec r)) (bif rs.all Ty.noSl then st else st')
      | none => none)
    | none => none)
  foot args _ := bif rs.all Ty.noSl then [] else hdlsV args

theorem shareVs_upd : ∀ {vs : List AVal} {st st' : St}, shareVs vs st = some st' → Upd (hdlsV vs) st st'
  | [], st, st', h => by cases h; exact .refl _ _
  | v :: r, st, st', h => by
    simp only [shareVs] at h
    split at h
    · rename_i s1 h1; exact ((shared_upd h1).mono fun q hq => List.mem_append_left _ hq).trans ((shareVs_upd h).mono fun q hq => List.mem_append_right _ hq)
    · cases h
theorem shareVs_base : ∀ {vs : List AVal} {st st' : St}, shareVs vs st = some st' → Base st st'
  | [], st, st', h => by cases h; exact .refl _
  | v :: r, st, st', h => by
    simp only [shareVs] at h
    split at h
    · rename_i s1 h1; exact (shared_base h1).trans (shareVs_base h)
    · cases h
theorem semD_cong (ts rs : List Ty) {W : Type} (F : DL ts → Option W) (dec : W → DL rs) : SemCong (semD ts rs F dec) := by
  intro R dst args st K K' KP KP' hK hP
  simp only [semD] at hK ⊢
  split
  · rename_i st' hs
    split
    · refine bind_cong fun r => hK _ _ ?_
      cases rs.all Ty.noSl with
      | true => exact .refl _ _
      | false => exact shareVs_upd hs
    · rfl
  · rfl
theorem semD_det (ts rs : List Ty) {W : Type} (F : DL ts → Option W) (dec : W → DL rs) : SemDet (semD ts rs F dec) := by
  intro R dst args st K KP
  simp only [semD]
  repeat' (first | rfl | apply bind_det | intro _ | split)

theorem shareVs_ok {X : Ctx} {w : World} : ∀ {vs : List AVal} {st st' : St} {G : Gh}, shareVs vs st = some st' → RelM X st G w → ∃ G', RelM X st' G' w ∧ G.Sub G' ∧ Kept st st'
  | [], st, st', G, h, hm => by cases h; exact ⟨G, hm, .refl G, .refl _⟩
  | v :: r, st, st', G, h, hm => by
    simp only [shareVs] at h
    split at h
    · rename_i s1 h1
      obtain ⟨G1, m1, a1, k1⟩ := shared_ok h1 hm
      obtain ⟨G2, m2, a2, k2⟩ := shareVs_ok h m1
      exact ⟨G2, m2, a1.trans a2, k1.trans k2⟩
    · cases h

def DRel (G : Gh) : (ts : List Ty) → DL ts → List Value → Prop
  | [], _, [] => True
  | t :: r, d, v :: vs => RelL G (.dat t d.1) v ∧ DRel G r d.2 vs
  | _, _, _ => False

theorem getVs_ok {X : Ctx} {st : St} {G : Gh} {w : World} (hm : RelM X st G w) : ∀ {ts : List Ty} {avs : List AVal} {d : DL ts} {vs : List Value}, getVs st ts avs = some d → All2 (RelV G) avs vs → DRel G ts d vs
  | [], [], d, [], _, _ => trivial
  | t :: ts, a :: avs, d, v :: vs, h, hr => by
    simp only [getVs] at h
    split at h
    · rename_i x hx
      split at h
      · rename_i r hr'
        simp only [Option.some.injEq] at h
        subst h
        exact ⟨avget_ok hm hx hr.1, getVs_ok hm hr' hr.2⟩
      · cases h
    · cases h
  | [], [], d, _ :: _, _, hr => hr.elim
  | [], _ :: _, d, _, h, _ => by cases h
  | _ :: _, [], d, _, h, _ => by cases h
  | _ :: _, _ :: _, d, [], _, hr => hr.elim

theorem DRel.regs {G : Gh} {n : Nat} : ∀ {ts : List Ty} {d : DL ts} {vs : List Value} (pre : List Value), DRel G ts d vs → ∀ i v, look (entD ts pre.length d) i = some v → RelV G v ((pre ++ vs).getD i undef)
  | [], d, [], pre, _, i, v, h => by cases h
  | t :: r, d, u :: vs, pre, hd, i, v, h => by
    simp only [entD, look_cons] at h
    by_cases e : pre.length = i
    · simp only [e, if_true, Option.some.injEq] at h
      subst h; subst e
      have : (pre ++ u :: vs).getD pre.length undef = u := by simp [List.getD_eq_getElem?_getD]
      rw [this]; exact hd.1
    · simp only [e, if_false] at h
      have := DRel.regs (n := n) (pre ++ [u]) hd.2 i v (by simpa using h)
      simpa using this
  | [], d, _ :: _, _, h, _, _, _ => h.elim
  | _ :: _, d, [], _, h, _, _, _ => h.elim

theorem DRel.length {G : Gh} : ∀ {ts : List Ty} {d : DL ts} {vs : List Value}, DRel G ts d vs → vs.length = ts.length
  | [], d, [], _ => rfl
  | t :: r, d, u :: vs, hd => by simp [DRel.length hd.2]
  | [], d, _ :: _, h => h.elim
  | _ :: _, d, [], h => h.elim

def ctxD (S : Mem) (w : World) : Ctx := ⟨S, fun _ => False, w, fun _ => none, (fun _ _ h => (by cases h)), fun _ _ => none, (fun _ _ _ h => (by cases h))⟩
def ghD (S : Mem) : Gh := ⟨S, fun _ => 0, fun _ => [], fun _ => [], fun _ => .slice none 0 0, fun _ => []⟩

theorem stD_ok {S : Mem} {w : World} (hS : ∀ b o, S b = some o → w.heap[b]? = some o) (n : Nat) (ts : List Ty) (d : DL ts) : RelM (ctxD S w) (stD n ts d) (ghD S) w := by
  have no : ∀ x b, ¬ Owns (ghD S) (stD n ts d) x b := fun x b hx => by
    obtain ⟨k, m⟩ := x
    cases k with
    | false => obtain ⟨⟨ls, h⟩, _⟩ := hx; cases h
    | true => obtain ⟨⟨A, h, _⟩, _⟩ := hx; cases h
  refine { sl := fun _ => .inl ⟨_, _, _, rfl⟩, sh := hS, ob := fun o ls h => (by cases h), ar := fun a A h => (by cases h), ah := fun a A h => (by cases h), nd := fun a A h => (by cases h), dis := fun x y b h => (no x b h).elim, dS := fun x b h => (no x b h).elim, inn := fun x b h => (no x b h).elim, s0 := fun b o h => h, sn := fun b o h => .inl h, fr := fun b _ _ => rfl, sz := Nat.le_refl _, os := rfl, tp := rfl, out := rfl, pin := fun o p h => (by cases h), bv := fun o j u h => (by cases h) }

/-- The caller's state stands, behind a call that owned nothing. -/
theorem RelM.call0 {X : Ctx} {st : St} {G : Gh} {w w' : World} (hm : RelM X st G w) {t : St} {G3 : Gh} (h3 : RelM (ctxD G.S w) t G3 w') : RelM X st { G with S := G3.S } w' ∧ G.Sub { G with S := G3.S } := by
  have hS : ∀ b o, G.S b = some o → G3.S b = some o := h3.s0
  have hsub : G.Sub { G with S := G3.S } := ⟨hS, rfl, rfl, rfl, rfl, rfl⟩
  have hfr : ∀ b, b < w.heap.size → w'.heap[b]? = w.heap[b]? := fun b hb => h3.fr b hb (fun h => h)
  have own : ∀ x b, Owns { G with S := G3.S } st x b → Owns G st x b := fun x b hx => by
    obtain ⟨k, m⟩ := x; cases k <;> exact hx
  refine ⟨{ sl := hm.sl, sh := h3.sh, ob := fun o ls h => ?_, ar := fun a A h => ?_, ah := fun a A h hs p hp => ?_, nd := hm.nd, dis := fun x y b hx hy => hm.dis x y b (own x b hx) (own y b hy), dS := fun x b hx => ?_, inn := fun x b hx => hm.inn x b (own x b hx), s0 := fun b o h => hS b o (hm.s0 b o h), sn := fun b o h => ?_, fr := fun b h1 h2 => ?_, sz := Nat.le_trans hm.sz h3.sz, os := h3.os.trans hm.os, tp := h3.tp.trans hm.tp, out := h3.out.trans hm.out, pin := hm.pin, bv := fun o j u h => (by obtain ⟨h1, ⟨l, h2, h5⟩, arr0, elem0, h4, h6⟩ := hm.bv o j u h; exact ⟨h1, ⟨l, h2, h5⟩, arr0, elem0, by rw [hfr _ (Owns.lt hm (x := (false, o)) ⟨⟨l, h2⟩, rfl⟩)]; exact h4, h6⟩) }, hsub⟩
  · obtain ⟨arr, elem, mid, g1, g2, g3⟩ := hm.ob o ls h
    exact ⟨arr, elem, mid, by rw [hfr _ (Owns.lt hm (x := (false, o)) ⟨⟨ls, h⟩, rfl⟩)]; exact g1, g2, sub_allDat hsub g3⟩
  · exact (hm.ar a A h).mono (G := G) (a := a) (G' := { G with S := G3.S }) (a' := a) hS rfl rfl (fun _ _ _ => ⟨rfl, rfl, rfl⟩)
  · rw [hfr p.1 (Owns.lt hm (x := (true, a)) ⟨⟨A, h, hs⟩, p, hp, rfl⟩)]; exact hm.ah a A h hs p hp
  · have hx' := own x b hx
    have hlt := Owns.lt hm hx'
    cases hc : G3.S b with
    | none => rfl
    | some o =>
      rcases h3.sn b o hc with h | h | h
      · have := hm.dS x b hx'; rw [show G.S b = some o from h] at this; cases this
      · exact h.elim
      · have h : w.heap.size ≤ b := h; omega
  · rcases h3.sn b o h with h | h | h
    · exact hm.sn b o h
    · exact h.elim
    · have := hm.sz; have h : w.heap.size ≤ b := h; exact .inr (.inr (by omega))
  · rw [hfr b (by have := hm.sz; omega)]; exact hm.fr b h1 h2

def retval : List Value → Value
  | [v] => v
  | vs => .tuple vs.toArray
theorem drel_S {G G' : Gh} (hS : G'.S = G.S) : ∀ {ts : List Ty} {d : DL ts} {vs : List Value}, DRel G ts d vs → DRel G' ts d vs
  | [], d, [], _ => trivial
  | t :: r, d, v :: vs, h => by
    obtain ⟨cs, e1, e2⟩ := h.1
    exact ⟨⟨cs, e1, by rw [hS]; exact e2⟩, drel_S hS h.2⟩
  | [], d, _ :: _, h => h.elim
  | _ :: _, d, [], h => h.elim
theorem drel_noSl {G G' : Gh} : ∀ {ts : List Ty} {d : DL ts} {vs : List Value}, ts.all Ty.noSl = true → DRel G ts d vs → DRel G' ts d vs
  | [], d, [], _, _ => trivial
  | t :: r, d, v :: vs, hn, h => by
    simp only [List.all_cons, Bool.and_eq_true] at hn
    obtain ⟨cs, e1, e2⟩ := h.1
    exact ⟨⟨cs, e1, rep_noSl hn.1 e2⟩, drel_noSl hn.2 h.2⟩
  | [], d, _ :: _, _, h => h.elim
  | _ :: _, d, [], _, h => h.elim
theorem list_results {P : Program} {E : Env} (hE : TabOk P E.tab) {X : Ctx} {st : St} {G : Gh} {w : World} {act : Act} (hm : RelM X st G w) (hr : RelR G st act) : ∀ {rv : List ResultVar} {avs : List AVal}, resV E st rv = some avs →
    ∃ vals : List Value, (rv.mapM fun (x : ResultVar) => (match x with
      | .tmp t => pure (act.tmps.getD t undef)
      | .cell a t => do loadVar t (← asAddr (act.tmps.getD a undef)) : Sem Value)).run P w = .ok vals w ∧ All2 (RelV G) avs vals
  | [], avs, h => by cases h; exact ⟨[], rfl, trivial⟩
  | .tmp t :: r, avs, h => by
    simp only [resV] at h
    split at h
    · rename_i l hl
      cases h
      obtain ⟨vals, h1, h2⟩ := list_results hE hm hr hl
      refine ⟨act.tmps.getD t undef :: vals, ?_, ?_, h2⟩
      · rw [List.mapM_cons, Sem.run_bind]
        simp only [Sem.run_pure, Result.andThen_ok]
        rw [Sem.run_bind, h1]
        rfl
      · unfold St.regD
        cases hs : st.reg t with
        | none => trivial
        | some sv => exact hr.2.2 t sv hs
    · cases h
  | .cell t T :: r, avs, h => by
    simp only [resV] at h
    split at h
    · rename_i o off hreg
      split at h
      · rename_i v l hv hl
        simp only [Option.some.injEq] at h
        subst h
        obtain ⟨vals, h1, h2⟩ := list_results hE hm hr hl
        have hp : RelV G (.one (.ptr o off)) (act.tmps.getD t undef) := by
          rw [← hreg]
          unfold St.regD
          cases hs : st.reg t with
          | none => rw [St.regD, hs] at hreg; cases hreg
          | some sv => exact hr.2.2 t sv hs
        obtain ⟨av, u, h3, h4, h5⟩ := opLoad_ok hE hv hm hp
        cases h5
        have hq : ∃ a, act.tmps.getD t undef = .pointer (some a) := ⟨_, hp⟩
        obtain ⟨a, ha⟩ := hq
        rw [ha] at h3
        refine ⟨u :: vals, ?_, h4, h2⟩
        have h3' : (do loadVar T (← asAddr (act.tmps.getD t undef)) : Sem Value).run P w = .ok u w := by
          rw [ha]
          have := h3
          simpa [Instr.loadAt, Instr.sureAddr, asAddr] using this
        rw [List.mapM_cons, Sem.run_bind]
        dsimp only
        rw [h3']
        simp only [Result.andThen_ok]
        rw [Sem.run_bind, h1]
        rfl
      · cases h
    · cases h
theorem run_results {P : Program} {E : Env} (hE : TabOk P E.tab) {X : Ctx} {st : St} {G : Gh} {w : World} {act : Act} {fn : Func} {avs : List AVal} (hm : RelM X st G w) (hr : RelR G st act) (h : resV E st fn.results.toList = some avs) :
    ∃ vals : List Value, (results fn act.tmps).run P w = .ok (retval vals) w ∧ All2 (RelV G) avs vals := by
  obtain ⟨vals, h1, h2⟩ := list_results hE hm hr h
  refine ⟨vals, ?_, h2⟩
  obtain ⟨g, g1, g2⟩ : ∃ g : ResultVar → Sem Value, results fn act.tmps = (do let vs ← fn.results.mapM g; pure (if h : vs.size = 1 then vs[0] else .tuple vs)) ∧ g = fun (x : ResultVar) => (match x with
      | .tmp t => pure (act.tmps.getD t undef)
      | .cell a t => do loadVar t (← asAddr (act.tmps.getD a undef)) : Sem Value) := ⟨_, rfl, by funext x; cases x <;> rfl⟩
  rw [g1, Array.mapM_eq_mapM_toList, g2, Sem.run_bind, Sem.run_map, h1]
  simp only [Result.andThen_ok, Sem.run_pure]
  congr 1
  match vals with
  | [] => rfl
  | [v] => rfl
  | v :: u :: r => simp [retval]

theorem tupD_ok {G : Gh} : ∀ {rs : List Ty} {d : DL rs} {vs : List Value}, DRel G rs d vs → All2 (fun (p : Bool × List Leaf) u => if p.1 = true then ∃ cs : List Value, u = .agg cs.toArray ∧ All2 (RelL G) p.2 cs else ∃ l, p.2 = [l] ∧ RelL G l u) (tupD rs d) vs
  | [], d, [], _ => trivial
  | t :: r, d, v :: vs, h => by
    refine ⟨?_, tupD_ok h.2⟩
    obtain ⟨cs, e1, e2⟩ := h.1
    cases ha : t.agg with
    | true => simp only [ha, if_true] at e1 ⊢; exact ⟨cs, e1, explode_ok e2⟩
    | false =>
      simp only [ha, Bool.false_eq_true, if_false] at e1 ⊢
      cases t <;> simp [Ty.agg] at ha <;> exact ⟨_, rfl, _, by simp [Ty.agg, e1], e2⟩
  | [], d, _ :: _, h => h.elim
  | _ :: _, d, [], h => h.elim

theorem outD_ok {G : Gh} {rs : List Ty} {x : DL rs} {vs : List Value} (h : DRel G rs x vs) : RelV G (outD rs x) (retval vs) := by
  cases rs with
  | nil =>
    cases vs with
    | nil => exact ⟨[], rfl, trivial⟩
    | cons _ _ => exact h.elim
  | cons t rs =>
    cases vs with
    | nil => exact h.elim
    | cons v vs =>
      cases rs with
      | nil =>
        cases vs with
        | nil => exact h.1
        | cons _ _ => exact h.2.elim
      | cons t2 rs =>
        cases vs with
        | nil => exact h.2.elim
        | cons v2 vs => exact ⟨v :: v2 :: vs, rfl, tupD_ok h⟩

section
variable {P : Program} {E : Env} (hE : EnvOk P E)
include hE

omit hE in
/-- All that was is as it was, and there is more of it. -/
theorem RelM.grow {X : Ctx} {st : St} {G : Gh} {w w' : World} (hm : RelM X st G w) (hfr : ∀ b, b < w.heap.size → w'.heap[b]? = w.heap[b]?) (hsz : w.heap.size ≤ w'.heap.size) (hos : w'.os = w.os) (htp : w'.tape = w.tape) (hout : w'.output = w.output) : RelM X st G w' := by
  have old : ∀ {b : Nat} {o : Obj}, w.heap[b]? = some o → w'.heap[b]? = some o := fun {b o} h => by rw [hfr b (lt_of_heap h)]; exact h
  exact { sl := hm.sl, sh := fun b o h => old (hm.sh b o h), ob := fun o ls h => (by obtain ⟨arr, elem, mid, g1, g2, g3⟩ := hm.ob o ls h; exact ⟨arr, elem, mid, old g1, g2, g3⟩), ar := hm.ar, ah := fun a A h hs p hp => old (hm.ah a A h hs p hp), nd := hm.nd, dis := hm.dis, dS := hm.dS, inn := hm.inn, s0 := hm.s0, sn := hm.sn, fr := fun b h1 h2 => (by rw [hfr b (by have := hm.sz; omega)]; exact hm.fr b h1 h2), sz := Nat.le_trans hm.sz hsz, os := hos.trans hm.os, tp := htp.trans hm.tp, out := hout.trans hm.out, pin := hm.pin
          bv := fun o j u h => (by obtain ⟨h1, h2, arr0, elem0, h4, h5⟩ := hm.bv o j u h; exact ⟨h1, h2, arr0, elem0, old h4, h5⟩) }

theorem fn_data {f : FuncId} {fn : Func} {c : Code} {ts rs : List Ty} {W : Type} {F : DL ts → Option W} (pack : DL rs → W) {dec : W → DL rs} (hdec : ∀ r, dec (pack r) = r) (hf : P.funcs[f]? = some fn) (hb : fn.body = some c) (hcall : ∀ args w, (callFunc f args).run P w = .ok (.enter f args) w) (hL : LoopsOk P E c)
    (hn : ts.length ≤ fn.ntmps)
    (h : ∀ d, F d = runC E c (stD fn.ntmps ts d) (fun e s => match e with | .normal => (retD E fn.results.toList rs s).map pack | .ret => (retD E fn.results.toList rs s).map pack | _ => none) (fun _ _ => none)) : SemOk P E.gt f (semD ts rs F dec) := by
  intro R r X st G w dst args vs K KP hr hg0 hm ha
  simp only [semD] at hr
  split at hr
  · rename_i st1 hs
    split at hr
    · rename_i d hd
      obtain ⟨y, hx, hr⟩ := Option.bind_eq_some_iff.1 hr
      obtain ⟨G1, m1, a1, k1⟩ := shareVs_ok hs hm
      have hg1 : GlobIn E.gt (ctxD G1.S w).S0 := hg0.mono m1.s0
      have hdr := getVs_ok m1 hd (ha.imp fun a v h => h.sub a1)
      refine ⟨hcall _ _, calls_of_wp hf hb ?_⟩
      have hreg : RelR (ghD G1.S) (stD fn.ntmps ts d) { tmps := vs.toArray ++ Array.replicate (fn.ntmps - vs.toArray.size) undef, defers := [] } := by
        have hl := hdr.length
        refine ⟨rfl, by simp [stD]; omega, fun i v hv => ?_⟩
        have hdr' : DRel (ghD G1.S) ts d vs := by
          have key : ∀ {ts : List Ty} {d : DL ts} {vs : List Value}, DRel G1 ts d vs → DRel (ghD G1.S) ts d vs := by
            intro ts
            induction ts with
            | nil => intro d vs h; cases vs <;> exact h
            | cons t r ih => intro d vs h; cases vs with
              | nil => exact h
              | cons v vs => exact ⟨h.1, ih h.2⟩
          exact key hdr
        have h1 : (stD fn.ntmps ts d).reg i = look (entD ts 0 d) i := by
          simp only [St.reg, stD]
          cases look (entD ts 0 d) i <;> rfl
        rw [h1] at hv
        have h2 := DRel.regs (n := 0) [] hdr' i v hv
        simp only [List.nil_append] at h2
        have hi : i < vs.length := by
          rw [hl]
          have : ∀ {ts : List Ty} {d : DL ts} {k i : Nat} {v : AVal}, look (entD ts k d) i = some v → i < k + ts.length := by
            intro ts
            induction ts with
            | nil => intro d k i v h; cases h
            | cons t r ih =>
              intro d k i v h
              simp only [entD, look_cons] at h
              by_cases e : k = i
              · subst e; simp
              · simp only [e, if_false] at h
                have := ih h; simp only [List.length_cons]; omega
          have := this hv; omega
        rw [Array.getD_eq_getD_getElem?, Array.getElem?_append_left (by simpa using hi)]
        simpa [List.getD_eq_getElem?_getD] using h2
      have hres : ∀ s G w' act, RelM (ctxD G1.S w) s G w' → RelR G s act → (retD E fn.results.toList rs s).map pack = some y → act.defers = [] ∧ ∃ v, (results fn act.tmps).run P w' = .ok v w' ∧
          ∃ av st' G', RelM X st' G' w' ∧ (∀ act, RelR _ st act → RelR G' st' act) ∧ RelV G' av v ∧ K av st' = some r := fun s G3 w' act m3 r3 hret => by
        refine ⟨r3.1, ?_⟩
        obtain ⟨x, hret', hy⟩ := Option.map_eq_some_iff.1 hret
        clear hret
        rw [← hy, hdec] at hr
        have hret := hret'
        unfold retD at hret
        split at hret
        · rename_i avs hav
          split at hret
          · rename_i s' hs'
            obtain ⟨vs', hrun, h2⟩ := run_results hE.tab m3 r3 hav
            obtain ⟨G4, m4, a4, k4⟩ := shareVs_ok hs' m3
            have hdr2 := getVs_ok m4 hret (h2.imp fun a v h => h.sub a4)
            cases hsl : rs.all Ty.noSl with
            | true =>
              rw [hsl] at hr
              exact ⟨_, hrun, outD rs x, st, G, hm.grow (fun b hb => m4.fr b hb (fun h => h)) m4.sz m4.os m4.tp m4.out, fun act ra => ra, outD_ok (drel_noSl hsl hdr2), hr⟩
            | false =>
              rw [hsl] at hr
              obtain ⟨mc, subc⟩ := m1.call0 m4
              exact ⟨_, hrun, outD rs x, st1, _, mc, fun act ra => (kept_regs k1 a1 ra).sub subc rfl (fun _ => rfl), outD_ok (drel_S (G := G4) (G' := { G1 with S := G4.S }) rfl hdr2), hr⟩
          · cases hret
        · cases hret
      rw [h] at hx
      refine runC_ok hE hg1 c hL hx (stD_ok m1.sh _ _ _) hreg (fun e s G3 w' act m3 r3 hk => ?_) (fun av v s G3 w' act m3 r3 hv hk => by cases hk)
      cases e with
      | normal => exact hres s G3 w' act m3 r3 hk
      | ret => exact hres s G3 w' act m3 r3 hk
      | _ => cases hk
    · cases hr
  · cases hr
end
end Go.Fx

/- The framework, twenty-seventh text: the callee's own frame, and the way back. -/
namespace Go.Fx
set_option linter.unusedVariables false
set_option linter.unusedSimpArgs false

/-- What a callee is given: its state's memory is all it may write. -/
noncomputable def inCtx (t : St) (G : Gh) (w : World) : Ctx where
  S0 := G.S
  own0 := fun b => ∃ x, Owns G t x b
  w0 := w
  pin := fun o => if o < 10000 then (match t.obj o with | some _ => some (G.φ o, G.pre o, G.post o) | none => none) else none
  pl := fun o p h => by
    by_cases hlt : o < 10000
    · exact hlt
    · simp [hlt] at h
  bv := fun o j => if o < 10000 then (match t.obj o, lookL t.bleaves o j with
    | some ls, some _ => (match ls[j]?, w.heap[G.φ o]? with
      | some .bas, some (.cells arr elem fz) => arr.toList[(G.pre o).length + j]?
      | _, _ => none)
    | _, _ => none) else none
  bl := fun o j u h => by
    by_cases hlt : o < 10000
    · exact hlt
    · simp [hlt] at h

theorem RelM.enter {X : Ctx} {t : St} {G : Gh} {w : World} (hm : RelM X t G w) : RelM (inCtx t G w) t G w := by
  refine { sl := hm.sl, sh := hm.sh, ob := hm.ob, ar := hm.ar, ah := hm.ah, nd := hm.nd, dis := hm.dis, dS := hm.dS, inn := fun x b h => .inl ⟨x, h⟩, s0 := fun b o h => h, sn := fun b o h => .inl h, fr := fun b _ _ => rfl, sz := Nat.le_refl _, os := rfl, tp := rfl, out := rfl, pin := fun o p h => ?_, bv := fun o j u h => ?_ }
  · simp only [inCtx] at h
    split at h
    · split at h
      · rename_i ls ho
        simp only [Option.some.injEq] at h
        exact ⟨⟨ls, ho⟩, h.symm⟩
      · cases h
    · cases h
  · simp only [inCtx] at h
    split at h
    · split at h
      · rename_i ls lf ho hl
        split at h
        · rename_i arr elem fz hj hh
          obtain ⟨arr0, elem0, mid, g1, g2, g3⟩ := hm.ob o ls ho
          rw [g1] at hh
          cases hh
          exact ⟨⟨lf, hl⟩, ⟨ls, ho, hj⟩, _, _, g1, h⟩
        · cases h
      · cases h
    · cases h

theorem inCtx_pin {t : St} {G : Gh} {w : World} {o : Nat} {ls : List Leaf} (hlt : o < 10000) (ho : t.obj o = some ls) : (inCtx t G w).pin o = some (G.φ o, G.pre o, G.post o) := by
  simp [inCtx, hlt, ho]
theorem inCtx_bv {X : Ctx} {t : St} {G : Gh} {w : World} (hm : RelM X t G w) {o j : Nat} {ls : List Leaf} {lf : Leaf} (hlt : o < 10000) (ho : t.obj o = some ls) (hl : lookL t.bleaves o j = some lf) (hj : ls[j]? = some .bas) :
    ∃ arr elem u, w.heap[G.φ o]? = some (.cells arr elem (0, 0)) ∧ arr.toList[(G.pre o).length + j]? = some u ∧ (inCtx t G w).bv o j = some u := by
  obtain ⟨arr, elem, mid, g1, g2, g3⟩ := hm.ob o ls ho
  have hml : mid.length = ls.length := by have := All2.length g3; rw [resl_length] at this; exact this.symm
  have hjl : j < ls.length := (List.getElem?_eq_some_iff.1 hj).1
  have : (G.pre o).length + j < arr.toList.length := by rw [g2]; simp; omega
  refine ⟨arr, elem, arr.toList[(G.pre o).length + j], g1, List.getElem?_eq_getElem this, ?_⟩
  simp only [inCtx, hlt, if_true, ho, hl, hj, g1]
  exact List.getElem?_eq_getElem this
end Go.Fx

/- The framework, twenty-eighth text: the caller's state behind a call. -/
namespace Go.Fx
set_option linter.unusedVariables false
set_option linter.unusedSimpArgs false

/-- The ghosts behind a call: arrays that are told, arrays that are kept, new objects. -/
def Gh.back (G G3 : Gh) (told : Nat → Option (Option Nat)) (keep nobj : Nat → Option Nat) : Gh := { G with
  S := G3.S
  φ := fun o => match nobj o with | some k => G3.φ k | none => G.φ o
  pre := fun o => match nobj o with | some k => G3.pre k | none => G.pre o
  post := fun o => match nobj o with | some k => G3.post k | none => G.post o
  ψ := fun a => match told a with | some (some k) => G3.ψ k | some none => .slice none 0 0 | none => G.ψ a
  HA := fun a => match told a with | some (some k) => G3.HA k | some none => [] | none => match keep a with | some k => G3.HA k | none => G.HA a }

/-- Caller's state st, callee's entry t (arrays named by al), callee's end s, caller's state behind the call st'. -/
structure Merge (st t s st' : St) (al : AL) (told : Nat → Option (Option Nat)) (keep nobj : Nat → Option Nat) : Prop where
  n : st'.n = st.n
  reg : ∀ i, st'.reg i = st.reg i
  bl : st'.bleaves = st.bleaves
  tobj : ∀ q tl, t.obj q = some tl → q < 10000 ∧ (∃ ls, st.obj q = some ls) ∧ ∃ sl, s.obj q = some sl
  obj : ∀ q ls', st'.obj q = some ls' → (t.obj q = none ∧ st.obj q = some ls') ∨
    (∃ ls tl sl, st.obj q = some ls ∧ t.obj q = some tl ∧ s.obj q = some sl ∧ tl.length = ls.length ∧ sl.length = ls.length ∧ ls'.length = ls.length ∧ ∀ (j : Nat) (l' l a : Leaf), ls'[j]? = some l' → ls[j]? = some l → sl[j]? = some a →
      (st'.res q j l' = st.res q j l ∧ tl[j]? = some .bas ∧ ∃ lf, lookL t.bleaves q j = some lf) ∨ ∀ (G G3 : Gh) (u : Value), (∃ X w', RelM X s G3 w') → (∀ q tl, t.obj q = some tl → G3.φ q = G.φ q ∧ G3.pre q = G.pre q) → RelL G3 (s.res q j a) u → RelL (G.back G3 told keep nobj) (st'.res q j l') u) ∨
    (∃ k sl, nobj q = some k ∧ s.obj k = some sl ∧ ls'.length = sl.length ∧ ∀ (j : Nat) (l' a : Leaf), ls'[j]? = some l' → sl[j]? = some a → ∀ (G G3 : Gh) (u : Value), (∃ X w', RelM X s G3 w') → (∀ q tl, t.obj q = some tl → G3.φ q = G.φ q ∧ G3.pre q = G.pre q) → RelL G3 (s.res k j a) u → RelL (G.back G3 told keep nobj) (st'.res q j l') u)
  nfresh : ∀ q k, nobj q = some k → st.obj q = none ∧ st.ment false q = false ∧ t.obj k = none
  ninj : ∀ q q' k, nobj q = some k → nobj q' = some k → q = q'
  keepObj : ∀ q ls, st.obj q = some ls → ∃ ls', st'.obj q = some ls'
  bas : ∀ q j ls lf, st.obj q = some ls → ls[j]? = some .bas → lookL st.bleaves q j = some lf → ∃ ls', st'.obj q = some ls' ∧ ls'[j]? = some .bas ∧ (t.obj q = none ∨ ∃ tl lf', t.obj q = some tl ∧ tl[j]? = some .bas ∧ lookL t.bleaves q j = some lf')
  arr : ∀ a A, st'.arr a = some A → (∃ k, told a = some (some k) ∧ s.arr k = some A ∧ A.sh = false ∧ ∀ i o, A.md ≠ .lent i o) ∨
    (told a = some none ∧ A.l = [] ∧ A.sh = false ∧ A.own = true) ∨
    (∃ k, told a = none ∧ keep a = some k ∧ st.arr a = some A ∧ s.arr k = some A ∧ A.sh = false ∧ ∀ i o, A.md ≠ .lent i o) ∨
    (told a = none ∧ keep a = none ∧ st.arr a = some A ∧ (A.sh = true ∨ ∀ nm B, look al nm ≠ some (some a, B)))
  ti : ∀ a a' k, told a = some (some k) → told a' = some (some k) → a = a'
  ki : ∀ a a' k, keep a = some k → keep a' = some k → a = a'
  tk : ∀ a a' k, told a = some (some k) → keep a' ≠ some k
  fresh : ∀ a k, told a = some k → st.ment true a = false

theorem resl_get (st : St) (o : Nat) : ∀ (ls : List Leaf) (i j : Nat), (st.resl o i ls)[j]? = (ls[j]?).map (st.res o (i + j))
  | [], i, j => by simp [St.resl]
  | l :: r, i, 0 => by simp [St.resl]
  | l :: r, i, j + 1 => by
    simp only [St.resl, List.getElem?_cons_succ]
    rw [resl_get st o r (i + 1) j, show i + 1 + j = i + (j + 1) by omega]
theorem All2.of_get {α β : Type} {R : α → β → Prop} : ∀ {xs : List α} {ys : List β}, xs.length = ys.length → (∀ (j : Nat) (x : α) (y : β), xs[j]? = some x → ys[j]? = some y → R x y) → All2 R xs ys
  | [], [], _, _ => trivial
  | x :: xs, y :: ys, h, f => ⟨f 0 x y rfl rfl, All2.of_get (by simpa using h) (fun j x y hx hy => f (j + 1) x y (by simpa using hx) (by simpa using hy))⟩
  | [], _ :: _, h, _ => by simp at h
  | _ :: _, [], h, _ => by simp at h
theorem mid_get {arr : Array Value} {pre mid post : List Value} (h : arr.toList = pre ++ (mid ++ post)) {j : Nat} (hj : j < mid.length) : arr.toList[pre.length + j]? = mid[j]? := by
  rw [h, List.getElem?_append_right (by omega), Nat.add_sub_cancel_left, List.getElem?_append_left hj]

section
variable {st t s st' : St} {al : AL} {told : Nat → Option (Option Nat)} {keep nobj : Nat → Option Nat} {X : Ctx} {G G3 : Gh} {w w' : World}

theorem Merge.le (hM : Merge st t s st' al told keep nobj) (hS : ∀ b o, G.S b = some o → G3.S b = some o) {l : Leaf} {v : Value} (hm : ∀ a k, told a = some k → l.ment true a = false) (hn : ∀ q k, nobj q = some k → l.ment false q = false) (r : RelL G l v) : RelL (G.back G3 told keep nobj) l v := by
  cases l with
  | any => trivial
  | bas => trivial
  | und => exact r
  | dat t d => obtain ⟨cs, e, hr⟩ := r; exact ⟨cs, e, hr.mono hS⟩
  | nil => exact r
  | nilp => exact r
  | hdl a =>
    show v = (G.back G3 told keep nobj).ψ a
    have : told a = none := by
      cases h : told a with
      | none => rfl
      | some k => have := hm a k h; simp [Leaf.ment] at this
    simp only [Gh.back, this]; exact r
  | ptr o off =>
    have : nobj o = none := by
      cases h : nobj o with
      | none => rfl
      | some k => have := hn o k h; simp [Leaf.ment] at this
    simp only [RelL, Gh.back, this]; exact r
  | elt a sz i off =>
    have : told a = none := by
      cases h : told a with
      | none => rfl
      | some k => have := hm a k h; simp [Leaf.ment] at this
    simp only [RelL, Gh.back, this]; exact r
  | she t d off =>
    obtain ⟨b, arr, elem, fz, pre, cs, post, h1, h2, h3, h4⟩ := r
    exact ⟨b, arr, elem, fz, pre, cs, post, hS _ _ h1, h2, h3.mono hS, h4⟩
  | fn f => exact r
  | ga t l =>
    obtain ⟨b, arr, elem, fz, cs, rest, h1, h2, h3, h4⟩ := r
    exact ⟨b, arr, elem, fz, cs, rest, hS _ _ h1, h2, h3.monoS hS, h4⟩

theorem Merge.leV (hM : Merge st t s st' al told keep nobj) (hS : ∀ b o, G.S b = some o → G3.S b = some o) {x : AVal} {v : Value} (hm : ∀ a k, told a = some k → x.ment true a = false) (hn : ∀ q k, nobj q = some k → x.ment false q = false) (r : RelV G x v) : RelV (G.back G3 told keep nobj) x v := by
  have hall : ∀ {ls : List Leaf} {vs : List Value}, (∀ a k, told a = some k → ls.any (Leaf.ment true a) = false) → (∀ a k, nobj a = some k → ls.any (Leaf.ment false a) = false) → All2 (RelL G) ls vs → All2 (RelL (G.back G3 told keep nobj)) ls vs := fun {ls vs} h h' hr =>
    hr.impMem fun l v hl hlv => hM.le hS (fun a k hk => by have := List.any_eq_false.1 (h a k hk) l hl; simpa using this) (fun a k hk => by have := List.any_eq_false.1 (h' a k hk) l hl; simpa using this) hlv
  cases x with
  | one l => exact hM.le hS hm hn r
  | agg ls => obtain ⟨cs, e, hr⟩ := r; exact ⟨cs, e, hall hm hn hr⟩
  | tup vs =>
    obtain ⟨us, e, hr⟩ := r
    refine ⟨us, e, hr.impMem fun p u hp hpu => ?_⟩
    have hm' : ∀ a k, told a = some k → p.2.any (Leaf.ment true a) = false := fun a k hk => by
      have := List.any_eq_false.1 (hm a k hk) p hp; simpa using this
    have hn' : ∀ a k, nobj a = some k → p.2.any (Leaf.ment false a) = false := fun a k hk => by
      have := List.any_eq_false.1 (hn a k hk) p hp; simpa using this
    split at hpu
    · rename_i hc; simp only [hc, if_true]; obtain ⟨cs, e, hr⟩ := hpu; exact ⟨cs, e, hall hm' hn' hr⟩
    · rename_i hc
      obtain ⟨l, e, hr⟩ := hpu
      simp only [Bool.not_eq_true] at hc
      simp only [hc, Bool.false_eq_true, if_false]
      exact ⟨l, e, hM.le hS (fun a k hk => by have := hm' a k hk; rw [e] at this; simpa using this) (fun a k hk => by have := hn' a k hk; rw [e] at this; simpa using this) hr⟩
  | ifc t ls => obtain ⟨u, cs, e1, e2, hr⟩ := r; exact ⟨u, cs, e1, e2, hall hm hn hr⟩

theorem Merge.regs (hM : Merge st t s st' al told keep nobj) (hS : ∀ b o, G.S b = some o → G3.S b = some o) {act : Act} (hr : RelR G st act) : RelR (G.back G3 told keep nobj) st' act :=
  ⟨hr.1, hr.2.1.trans hM.n.symm, fun i v hv => by
    rw [hM.reg] at hv
    exact hM.leV hS (fun a k hk => ment_reg (hM.fresh a k hk) hv) (fun q k hk => ment_reg (hM.nfresh q k hk).2.1 hv) (hr.2.2 i v hv)⟩

theorem Merge.ok (hM : Merge st t s st' al told keep nobj) (hm : RelM X st G w) (hown : ∀ x b, Owns (G.ren al) t x b → ∃ x', Owns G st x' b ∧ ((∃ o, x = (false, o) ∧ x' = (false, o)) ∨ ∃ nm a A, x = (true, nm) ∧ x' = (true, a) ∧ look al nm = some (some a, A)))
    {X' : Ctx} (hmt : RelM X' t (G.ren al) w) (h3 : RelM (inCtx t (G.ren al) w) s G3 w') (hkeep : ∀ a k, keep a = some k → told a = none → G3.ψ k = G.ψ a) : RelM X st' (G.back G3 told keep nobj) w' := by
  have hS : ∀ b o, G.S b = some o → G3.S b = some o := h3.s0
  have hφ : ∀ q tl, t.obj q = some tl → G3.φ q = G.φ q ∧ G3.pre q = G.pre q ∧ G3.post q = G.post q := fun q tl hq => by
    obtain ⟨hlt, _, _⟩ := hM.tobj q tl hq
    have := (h3.pin q _ (inCtx_pin hlt hq)).2
    simp only [Prod.mk.injEq] at this
    exact ⟨this.1.symm, this.2.1.symm, this.2.2.symm⟩
  have hφ2 : ∀ q tl, t.obj q = some tl → G3.φ q = G.φ q ∧ G3.pre q = G.pre q := fun q tl hq => ⟨(hφ q tl hq).1, (hφ q tl hq).2.1⟩
  have hnone : ∀ q ls, st.obj q = some ls → nobj q = none := fun q ls h => by
    cases hn : nobj q with
    | none => rfl
    | some k => rw [(hM.nfresh q k hn).1] at h; cases h
  have bφ : ∀ q ls, st.obj q = some ls → (G.back G3 told keep nobj).φ q = G.φ q ∧ (G.back G3 told keep nobj).pre q = G.pre q ∧ (G.back G3 told keep nobj).post q = G.post q := fun q ls h => by
    simp [Gh.back, hnone q ls h]
  -- what is owned behind the call
  have cls : ∀ x b, Owns (G.back G3 told keep nobj) st' x b → (Owns G st x b ∧ ∀ y, ¬ Owns (G.ren al) t y b) ∨
      ∃ x3, Owns G3 s x3 b ∧ ((∃ q q3, x = (false, q) ∧ x3 = (false, q3) ∧ ((q3 = q ∧ ∃ tl, t.obj q = some tl) ∨ nobj q = some q3)) ∨ (∃ a k, x = (true, a) ∧ x3 = (true, k) ∧ told a = some (some k)) ∨ ∃ a k, x = (true, a) ∧ x3 = (true, k) ∧ keep a = some k) := fun x b hx => by
    obtain ⟨kk, n⟩ := x
    cases kk with
    | false =>
      obtain ⟨⟨ls', hl⟩, rfl⟩ := hx
      rcases hM.obj n ls' hl with ⟨h1, h2⟩ | ⟨ls, tl, sl, h1, h2, h4, _⟩ | ⟨k, sl, h1, h2, _⟩
      · rw [(bφ n ls' h2).1]
        refine .inl ⟨⟨⟨ls', h2⟩, rfl⟩, fun y hy => ?_⟩
        obtain ⟨y', hy', c⟩ := hown y _ hy
        have e := hm.dis (false, n) y' _ ⟨⟨ls', h2⟩, rfl⟩ hy'
        rcases c with ⟨o, rfl, rfl⟩ | ⟨nm, a, A, rfl, rfl, _⟩
        · simp only [Prod.mk.injEq, true_and] at e
          subst e
          obtain ⟨⟨tl, ht⟩, _⟩ := hy
          rw [h1] at ht; cases ht
        · simp at e
      · rw [(bφ n ls h1).1]
        exact .inr ⟨(false, n), ⟨⟨sl, h4⟩, (hφ n tl h2).1.symm⟩, .inl ⟨n, n, rfl, rfl, .inl ⟨rfl, tl, h2⟩⟩⟩
      · exact .inr ⟨(false, k), ⟨⟨sl, h2⟩, by simp [Gh.back, h1]⟩, .inl ⟨n, k, rfl, rfl, .inr h1⟩⟩
    | true =>
      obtain ⟨⟨A, hA, hs⟩, p, hp, rfl⟩ := hx
      rcases hM.arr n A hA with ⟨k, h1, h2, h4, _⟩ | ⟨h1, _⟩ | ⟨k, h0, h1, h2, h4, h5, _⟩ | ⟨h0, h1, h2, h4⟩
      · simp only [Gh.back, h1] at hp
        exact .inr ⟨(true, k), ⟨⟨A, h2, hs⟩, p, hp, rfl⟩, .inr (.inl ⟨n, k, rfl, rfl, h1⟩)⟩
      · simp only [Gh.back, h1] at hp; cases hp
      · simp only [Gh.back, h0, h1] at hp
        exact .inr ⟨(true, k), ⟨⟨A, h4, hs⟩, p, hp, rfl⟩, .inr (.inr ⟨n, k, rfl, rfl, h1⟩)⟩
      · simp only [Gh.back, h0, h1] at hp
        have ho : Owns G st (true, n) p.1 := ⟨⟨A, h2, hs⟩, p, hp, rfl⟩
        refine .inl ⟨ho, fun y hy => ?_⟩
        obtain ⟨y', hy', c⟩ := hown y _ hy
        have e := hm.dis (true, n) y' _ ho hy'
        rcases c with ⟨o, rfl, rfl⟩ | ⟨nm, a, B, rfl, rfl, hl⟩
        · simp at e
        · simp only [Prod.mk.injEq, true_and] at e
          subst e
          rcases h4 with h4 | h4
          · rw [hs] at h4; cases h4
          · exact h4 nm B hl
  have hfr : ∀ b, b < w.heap.size → (∀ y, ¬ Owns (G.ren al) t y b) → w'.heap[b]? = w.heap[b]? := fun b hb hn => h3.fr b hb (fun ⟨y, hy⟩ => hn y hy)
  have hin : ∀ x3 b, Owns G3 s x3 b → (∃ x', Owns G st x' b) ∨ w.heap.size ≤ b := fun x3 b hx => by
    rcases h3.inn x3 b hx with ⟨y, hy⟩ | h
    · obtain ⟨y', hy', _⟩ := hown y b hy; exact .inl ⟨y', hy'⟩
    · exact .inr h
  refine { sl := fun a => ?_, sh := h3.sh, ob := fun q ls' hq => ?_, ar := fun a A hA => ?_, ah := fun a A hA hs p hp => ?_, nd := fun a A hA hs => ?_, dis := fun x y b hx hy => ?_, dS := fun x b hx => ?_, inn := fun x b hx => ?_, s0 := fun b o h => hS b o (hm.s0 b o h), sn := fun b o h => ?_, fr := fun b hb hn => ?_, sz := Nat.le_trans hm.sz h3.sz, os := h3.os.trans hm.os, tp := h3.tp.trans hm.tp, out := h3.out.trans hm.out, pin := fun q p hp => ?_, bv := fun q j u hu => ?_ }
  · show SlV (match told a with | some (some k) => G3.ψ k | some none => .slice none 0 0 | none => G.ψ a)
    split
    · exact h3.sl _
    · exact .inl ⟨_, _, _, rfl⟩
    · exact hm.sl _
  · rcases hM.obj q ls' hq with ⟨h1, h2⟩ | ⟨ls, tl, sl, h1, h2, h4, e1, e2, e3, hj⟩ | ⟨k, sl, h1, h2, e1, hj⟩
    · obtain ⟨arr, elem, mid, g1, g2, g3⟩ := hm.ob q ls' h2
      have hlt := Owns.lt hm (x := (false, q)) ⟨⟨ls', h2⟩, rfl⟩
      have hno : ∀ y, ¬ Owns (G.ren al) t y (G.φ q) := fun y hy => by
        rcases cls (false, q) (G.φ q) ⟨⟨ls', hq⟩, (bφ q ls' h2).1.symm⟩ with ⟨_, h⟩ | ⟨x3, hx3, c⟩
        · exact h y hy
        · obtain ⟨y', hy', c'⟩ := hown y _ hy
          have e := hm.dis (false, q) y' _ ⟨⟨ls', h2⟩, rfl⟩ hy'
          rcases c' with ⟨o, rfl, rfl⟩ | ⟨nm, a, A, rfl, rfl, _⟩
          · simp only [Prod.mk.injEq, true_and] at e
            subst e
            obtain ⟨⟨tl, ht⟩, _⟩ := hy
            rw [h1] at ht; cases ht
          · simp at e
      obtain ⟨b1, b2, b3⟩ := bφ q ls' h2
      refine ⟨arr, elem, mid, by rw [b1, hfr _ hlt hno]; exact g1, by rw [b2, b3]; exact g2, ?_⟩
      unfold LeavesRel at g3 ⊢
      rw [resl_congr (st := st) (fun j l => by cases l <;> simp [St.res, hM.bl])]
      refine g3.impMem fun l v hl hlv => hM.le hS (fun a k hk => ?_) (fun a k hk => ?_) hlv
      · have := List.any_eq_false.1 (ment_obj (hM.fresh a k hk) h2 0) l hl
        simpa using this
      · have := List.any_eq_false.1 (ment_obj (hM.nfresh a k hk).2.1 h2 0) l hl
        simpa using this
    · obtain ⟨arr, elem, mid, g1, g2, g3⟩ := h3.ob q sl h4
      obtain ⟨f1, f2, f3⟩ := hφ q tl h2
      obtain ⟨hlt, _, _⟩ := hM.tobj q tl h2
      have hml : mid.length = sl.length := by have := All2.length g3; rw [resl_length] at this; exact this.symm
      obtain ⟨b1, b2, b3⟩ := bφ q ls h1
      refine ⟨arr, elem, mid, by rw [b1, ← f1]; exact g1, by rw [b2, b3]; rw [f2, f3] at g2; exact g2, ?_⟩
      refine All2.of_get (by rw [resl_length]; omega) fun j x y hx hy => ?_
      rw [resl_get, Option.map_eq_some_iff] at hx
      obtain ⟨l', hl', rfl⟩ := hx
      rw [Nat.zero_add]
      have hjl : j < ls'.length := (List.getElem?_eq_some_iff.1 hl').1
      have hls : ls[j]? = some ls[j] := List.getElem?_eq_getElem (by omega)
      have hsl : sl[j]? = some sl[j] := List.getElem?_eq_getElem (by omega)
      rcases hj j l' ls[j] sl[j] hl' hls hsl with ⟨e, hb, lf, hlf⟩ | hB
      · obtain ⟨arr0, elem0, u, q1, q2, q3⟩ := inCtx_bv hmt hlt h2 hlf hb
        obtain ⟨_, _, arr1, elem1, q4, q5⟩ := h3.bv q j u q3
        rw [g1] at q4
        cases q4
        have hyu : y = u := by
          rw [mid_get g2 (by omega), hy] at q5; exact Option.some.inj q5
        obtain ⟨arr2, elem2, mid2, p1, p2, p3⟩ := hm.ob q ls h1
        have q1 : w.heap[G.φ q]? = some (.cells arr0 elem0 (0, 0)) := q1
        have q2 : arr0.toList[(G.pre q).length + j]? = some u := q2
        rw [p1] at q1
        cases q1
        have hml2 : mid2.length = ls.length := by have := All2.length p3; rw [resl_length] at this; exact this.symm
        rw [mid_get p2 (by omega)] at q2
        obtain ⟨u', hu', hr'⟩ := All2.get (i := j) p3 (by rw [resl_get, hls]; rfl)
        rw [q2] at hu'
        cases hu'
        rw [Nat.zero_add] at hr'
        rw [e, hyu]
        refine hM.le hS (fun a k hk => ?_) (fun a k hk => ?_) hr'
        · have := List.any_eq_false.1 (ment_obj (hM.fresh a k hk) h1 0) (st.res q j ls[j]) (List.mem_of_getElem? (i := j) (by rw [resl_get, hls]; simp))
          simpa using this
        · have := List.any_eq_false.1 (ment_obj (hM.nfresh a k hk).2.1 h1 0) (st.res q j ls[j]) (List.mem_of_getElem? (i := j) (by rw [resl_get, hls]; simp))
          simpa using this
      · obtain ⟨u', hu', hr'⟩ := All2.get (i := j) g3 (by rw [resl_get, hsl]; rfl)
        rw [hy] at hu'
        cases hu'
        rw [Nat.zero_add] at hr'
        exact hB G G3 _ ⟨_, _, h3⟩ hφ2 hr'
    · obtain ⟨arr, elem, mid, g1, g2, g3⟩ := h3.ob k sl h2
      refine ⟨arr, elem, mid, by simp only [Gh.back, h1]; exact g1, by simp only [Gh.back, h1]; exact g2, ?_⟩
      have hml : mid.length = sl.length := by have := All2.length g3; rw [resl_length] at this; exact this.symm
      refine All2.of_get (by rw [resl_length]; omega) fun j x y hx hy => ?_
      rw [resl_get, Option.map_eq_some_iff] at hx
      obtain ⟨l', hl', rfl⟩ := hx
      rw [Nat.zero_add]
      have hjl : j < ls'.length := (List.getElem?_eq_some_iff.1 hl').1
      have hsl : sl[j]? = some sl[j] := List.getElem?_eq_getElem (by omega)
      obtain ⟨u', hu', hr'⟩ := All2.get (i := j) g3 (by rw [resl_get, hsl]; rfl)
      rw [hy] at hu'
      cases hu'
      rw [Nat.zero_add] at hr'
      exact hj j l' sl[j] hl' hsl G G3 _ ⟨_, _, h3⟩ hφ2 hr'
  · rcases hM.arr a A hA with ⟨k, h1, h2, h4, h6⟩ | ⟨h1, h2, h4, h6⟩ | ⟨k, h0, h1, h2, h4, h5, h6⟩ | ⟨h0, h1, h2, h4⟩
    · exact (h3.ar k A h2).mono (G := G3) (a := k) (G' := G.back G3 told keep nobj) (a' := a) (fun _ _ h => h) (by simp [Gh.back, h1]) (by simp [Gh.back, h1]) (fun i o e => absurd e (h6 i o))
    · exact (arrRel_own h4 h6).2 (.inl ⟨h2, by simp [Gh.back, h1], by simp [Gh.back, h1]⟩)
    · exact (h3.ar k A h4).mono (G := G3) (a := k) (G' := G.back G3 told keep nobj) (a' := a) (fun _ _ h => h) (by simp [Gh.back, h0]; exact (hkeep a k h1 h0).symm) (by simp [Gh.back, h0, h1]) (fun i o e => absurd e (h6 i o))
    · refine (hm.ar a A h2).mono (G := G) (a := a) (G' := G.back G3 told keep nobj) (a' := a) hS (by simp [Gh.back, h0]) (by simp [Gh.back, h0, h1]) (fun i o e => ?_)
      have hno : nobj o = none := by
        cases hn : nobj o with
        | none => rfl
        | some k => exact absurd rfl (ment_lent (hM.nfresh o k hn).2.1 h2 e)
      simp [Gh.back, hno]
  · have hx : Owns (G.back G3 told keep nobj) st' (true, a) p.1 := ⟨⟨A, hA, hs⟩, p, hp, rfl⟩
    rcases hM.arr a A hA with ⟨k, h1, h2, h4, h6⟩ | ⟨h1, h2, h4, h6⟩ | ⟨k, h0, h1, h2, h4, h5, h6⟩ | ⟨h0, h1, h2, h4⟩
    · simp only [Gh.back, h1] at hp; exact h3.ah k A h2 hs p hp
    · simp only [Gh.back, h1] at hp; cases hp
    · simp only [Gh.back, h0, h1] at hp; exact h3.ah k A h4 hs p hp
    · have hp' : p ∈ G.HA a := by simpa only [Gh.back, h0, h1] using hp
      rcases cls _ _ hx with ⟨g1, g2⟩ | ⟨x3, _, c⟩
      · rw [hfr _ (Owns.lt hm g1) g2]; exact hm.ah a A h2 hs p hp'
      · rcases c with ⟨q, q3, e, _⟩ | ⟨a', k, e, _, ha⟩ | ⟨a', k, e, _, ha⟩ <;> simp only [Prod.mk.injEq, true_and, reduceCtorEq, false_and] at e
        · subst e; rw [h0] at ha; cases ha
        · subst e; rw [h1] at ha; cases ha
  · rcases hM.arr a A hA with ⟨k, h1, h2, h4, h6⟩ | ⟨h1, h2, h4, h6⟩ | ⟨k, h0, h1, h2, h4, h5, h6⟩ | ⟨h0, h1, h2, h4⟩
    · simp only [Gh.back, h1]; exact h3.nd k A h2 hs
    · simp only [Gh.back, h1]; exact List.nodup_nil
    · simp only [Gh.back, h0, h1]; exact h3.nd k A h4 hs
    · simp only [Gh.back, h0, h1]; exact hm.nd a A h2 hs
  · rcases cls x b hx with ⟨h1, h2⟩ | ⟨x3, h1, c1⟩ <;> rcases cls y b hy with ⟨k1, k2⟩ | ⟨y3, k1, c2⟩
    · exact hm.dis x y b h1 k1
    · rcases h3.inn y3 b k1 with ⟨z, hz⟩ | h
      · exact absurd hz (h2 z)
      · have := Owns.lt hm h1; have h : w.heap.size ≤ b := h; omega
    · rcases h3.inn x3 b h1 with ⟨z, hz⟩ | h
      · exact absurd hz (k2 z)
      · have := Owns.lt hm k1; have h : w.heap.size ≤ b := h; omega
    · have e := h3.dis x3 y3 b h1 k1
      rcases c1 with ⟨q, q3, rfl, rfl, hq⟩ | ⟨a, k, rfl, rfl, ha⟩ | ⟨a, k, rfl, rfl, ha⟩ <;> rcases c2 with ⟨q', q3', rfl, rfl, hq'⟩ | ⟨a', k', rfl, rfl, ha'⟩ | ⟨a', k', rfl, rfl, ha'⟩ <;> simp only [Prod.mk.injEq, true_and, reduceCtorEq, false_and] at e
      · subst e
        rcases hq with ⟨e1, tl, h5⟩ | hq <;> rcases hq' with ⟨e2, tl', h6⟩ | hq'
        · rw [← e1, ← e2]
        · rw [← e1, (hM.nfresh q' q3 hq').2.2] at h5; cases h5
        · rw [← e2, (hM.nfresh q q3 hq).2.2] at h6; cases h6
        · rw [hM.ninj q q' q3 hq hq']
      · subst e; rw [hM.ti a a' k ha ha']
      · subst e; exact absurd ha' (hM.tk a a' k ha)
      · subst e; exact absurd ha (hM.tk a' a k ha')
      · subst e; rw [hM.ki a a' k ha ha']
  · rcases cls x b hx with ⟨h1, h2⟩ | ⟨x3, h1, c1⟩
    · cases hc : G3.S b with
      | none => exact hc
      | some o =>
        rcases h3.sn b o hc with h | ⟨y, hy⟩ | h
        · have := hm.dS x b h1; rw [show G.S b = some o from h] at this; cases this
        · exact absurd hy (h2 y)
        · have := Owns.lt hm h1; have h : w.heap.size ≤ b := h; omega
    · exact h3.dS x3 b h1
  · rcases cls x b hx with ⟨h1, h2⟩ | ⟨x3, h1, c1⟩
    · exact hm.inn x b h1
    · rcases hin x3 b h1 with ⟨x', hx'⟩ | h
      · exact hm.inn x' b hx'
      · have := hm.sz; exact .inr (by omega)
  · rcases h3.sn b o h with h | ⟨y, hy⟩ | h
    · exact hm.sn b o h
    · obtain ⟨y', hy', _⟩ := hown y b hy
      rcases hm.inn y' b hy' with h | h
      · exact .inr (.inl h)
      · exact .inr (.inr h)
    · have := hm.sz; have h : w.heap.size ≤ b := h; exact .inr (.inr (by omega))
  · rw [hfr b (by have := hm.sz; omega) (fun y hy => by
      obtain ⟨y', hy', _⟩ := hown y b hy
      rcases hm.inn y' b hy' with h | h
      · exact hn h
      · omega)]
    exact hm.fr b hb hn
  · obtain ⟨⟨ls, h1⟩, h2⟩ := hm.pin q p hp
    obtain ⟨b1, b2, b3⟩ := bφ q ls h1
    exact ⟨hM.keepObj q ls h1, by rw [b1, b2, b3]; exact h2⟩
  · obtain ⟨⟨lf, h1⟩, ⟨ls, h2, h4⟩, arr0, elem0, h5, h6⟩ := hm.bv q j u hu
    obtain ⟨ls', k1, k2, k3⟩ := hM.bas q j ls lf h2 h4 h1
    refine ⟨⟨lf, by rw [hM.bl]; exact h1⟩, ⟨ls', k1, k2⟩, ?_⟩
    obtain ⟨b1, b2, b3⟩ := bφ q ls h2
    rw [b1, b2]
    rcases k3 with k3 | ⟨tl, lf', k3, k4, k5⟩
    · have hx : Owns (G.back G3 told keep nobj) st' (false, q) (G.φ q) := ⟨⟨ls', k1⟩, b1.symm⟩
      refine ⟨arr0, elem0, ?_, h6⟩
      rcases cls _ _ hx with ⟨g1, g2⟩ | ⟨x3, g1, c⟩
      · rw [hfr _ (Owns.lt hm g1) g2]; exact h5
      · have hno : ∀ y, ¬ Owns (G.ren al) t y (G.φ q) := fun y hy => by
          obtain ⟨y', hy', c'⟩ := hown y _ hy
          have e := hm.dis (false, q) y' _ ⟨⟨ls, h2⟩, rfl⟩ hy'
          rcases c' with ⟨o, rfl, rfl⟩ | ⟨nm, a, A, rfl, rfl, _⟩
          · simp only [Prod.mk.injEq, true_and] at e
            subst e
            obtain ⟨⟨tl, ht⟩, _⟩ := hy
            rw [k3] at ht; cases ht
          · simp at e
        rw [hfr _ (Owns.lt hm (x := (false, q)) ⟨⟨ls, h2⟩, rfl⟩) hno]; exact h5
    · obtain ⟨f1, f2, f3⟩ := hφ q tl k3
      obtain ⟨hlt, _, _⟩ := hM.tobj q tl k3
      obtain ⟨arr1, elem1, u', q1, q2, q3⟩ := inCtx_bv hmt hlt k3 k5 k4
      have q1 : w.heap[G.φ q]? = some (.cells arr1 elem1 (0, 0)) := q1
      have q2 : arr1.toList[(G.pre q).length + j]? = some u' := q2
      rw [h5] at q1
      cases q1
      rw [h6] at q2
      cases q2
      obtain ⟨_, _, arr2, elem2, q4, q5⟩ := h3.bv q j u q3
      exact ⟨arr2, elem2, by rw [← f1]; exact q4, by rw [← f2]; exact q5⟩
end
end Go.Fx

/- The framework, twenty-ninth text: the loops of a piece of code. -/
namespace Go.Fx
set_option linter.unusedVariables false

noncomputable def blocksOf (E : Env) (c : Code) : List (Code × LoopSem) :=
  Code.rec (motive := fun _ => List (Code × LoopSem)) [] (fun id ops draw => bif draw then (match E.loops (id + 1000000) with | some L => [(.region id ops true, L)] | none => []) else []) (fun _ _ x y => x ++ y) (fun _ _ _ x y => x ++ y)
    (fun id b x => match E.loops id with | some L => [(.block id b, L)] | none => x) (fun _ _ => []) (fun _ _ _ _ _ _ => [])
    (fun _ => []) (fun _ _ => []) (fun _ => []) (fun _ => []) [] (fun _ => []) c

theorem loopsOk_of {P : Program} {E : Env} {c : Code} : (∀ x ∈ blocksOf E c, CodeOk P E.gt x.1 x.2) → LoopsOk P E c := by
  induction c with
  | seq a b iha ihb => intro h; exact ⟨iha fun x hx => h x (List.mem_append_left _ hx), ihb fun x hx => h x (List.mem_append_right _ hx)⟩
  | cond c a b iha ihb => intro h; exact ⟨iha fun x hx => h x (List.mem_append_left _ hx), ihb fun x hx => h x (List.mem_append_right _ hx)⟩
  | region id ops draw =>
    intro h
    cases draw with
    | false => trivial
    | true =>
      have h : ∀ x ∈ (match E.loops (id + 1000000) with | some L => [((.region id ops true : Code), L)] | none => []), CodeOk P E.gt x.1 x.2 := h
      show (match true, E.loops (id + 1000000) with | true, some L => CodeOk P E.gt (.region id ops true) L | _, _ => True)
      cases hl : E.loops (id + 1000000) with
      | some L => rw [hl] at h; exact h (_, L) (by simp)
      | none => trivial
  | block id b ih =>
    intro h
    have h : ∀ x ∈ (match E.loops id with | some L => [((.block id b : Code), L)] | none => blocksOf E b), CodeOk P E.gt x.1 x.2 := h
    show (match E.loops id with | some L => LoopOk P E.gt id b L | none => LoopsOk P E b)
    cases hl : E.loops id with
    | some L => rw [hl] at h; exact h (_, L) (by simp)
    | none => rw [hl] at h; exact ih h
  | _ => intro _; trivial

theorem loopsOk_list {P : Program} {E : Env} {c : Code} {l : List (Code × LoopSem)} (e : blocksOf E c = l) (h : ∀ x ∈ l, CodeOk P E.gt x.1 x.2) : LoopsOk P E c := loopsOk_of (by rw [e]; exact h)
end Go.Fx

/- The framework, thirtieth text: a function whose proof says 'returned, and below all is as it was', handed to the interpreter. -/
namespace Go.Fx
set_option linter.unusedVariables false
set_option linter.unusedSimpArgs false
open Go.RowKit (Below)

def Ty.scal : Ty → Bool
  | .int _ => true | .bool => true | .str => true | _ => false
def sval : (t : Ty) → t.den → Value
  | .int k, n => .int k n
  | .bool, b => .bool b
  | .str, s => strV s
  | _, _ => undef
def svals : (ts : List Ty) → DL ts → List Value
  | [], _ => []
  | t :: r, d => sval t d.1 :: svals r d.2

theorem sval_rel {G : Gh} {t : Ty} (ht : t.scal = true) {d : t.den} {v : Value} : RelL G (.dat t d) v ↔ v = sval t d := by
  have fwd : ∀ {t : Ty} {d : t.den}, t.agg = false → (∀ cs, Rep G.S false t cs d [] → cs = [sval t d]) → RelL G (.dat t d) v → v = sval t d := fun {t d} ha hr h => by
    obtain ⟨cs, e1, e2⟩ := h
    simp only [ha, Bool.false_eq_true, if_false] at e1
    have := hr cs e2
    rw [e1] at this
    simpa using this
  cases t with
  | int k => exact ⟨fwd rfl fun cs h => h.1, fun h => by subst h; exact relInt k d⟩
  | bool => exact ⟨fwd rfl fun cs h => h.1, fun h => by subst h; exact relBool d⟩
  | str => exact ⟨fwd rfl fun cs h => h.1, fun h => by subst h; exact relStr d⟩
  | _ => simp [Ty.scal] at ht
theorem svals_rel {G : Gh} : ∀ {ts : List Ty} {d : DL ts} {vs : List Value}, (ts.all Ty.scal) = true → DRel G ts d vs → vs = svals ts d
  | [], d, [], _, _ => rfl
  | t :: r, d, v :: vs, h, hd => by
    simp only [List.all_cons, Bool.and_eq_true] at h
    rw [svals, (sval_rel h.1).1 hd.1, svals_rel h.2 hd.2]
  | [], d, _ :: _, _, h => h.elim
  | _ :: _, d, [], _, h => h.elim
theorem svals_dat {G : Gh} : ∀ {ts : List Ty} {d : DL ts}, (ts.all Ty.scal) = true → DRel G ts d (svals ts d)
  | [], d, _ => trivial
  | t :: r, d, h => by
    simp only [List.all_cons, Bool.and_eq_true] at h
    exact ⟨(sval_rel h.1).2 rfl, svals_dat h.2⟩

theorem RelM.below {X : Ctx} {st : St} {G : Gh} {w w' : World} (hm : RelM X st G w) (hb : Below w.heap.size w w') : RelM X st G w' := by
  have hfr : ∀ {b : Nat} {o : Obj}, w.heap[b]? = some o → w'.heap[b]? = some o := fun {b o} h => by
    rw [hb.block b (lt_of_heap h)]; exact h
  exact { sl := hm.sl, sh := fun b o h => hfr (hm.sh b o h), ob := fun o ls h => (by obtain ⟨arr, elem, mid, g1, g2, g3⟩ := hm.ob o ls h; exact ⟨arr, elem, mid, hfr g1, g2, g3⟩), ar := hm.ar, ah := fun a A h hs p hp => hfr (hm.ah a A h hs p hp), nd := hm.nd, dis := hm.dis, dS := hm.dS, inn := hm.inn, s0 := hm.s0, sn := hm.sn, fr := fun b h1 h2 => (by rw [hb.block b (by have := hm.sz; omega)]; exact hm.fr b h1 h2), sz := Nat.le_trans hm.sz hb.size, os := hb.os.trans hm.os, tp := hb.tape.trans hm.tp, out := hb.output.trans hm.out, pin := hm.pin, bv := fun o j u h => (by obtain ⟨h1, h2, arr0, elem0, h4, h5⟩ := hm.bv o j u h; exact ⟨h1, h2, arr0, elem0, hfr h4, h5⟩) }

theorem scal_noSl : ∀ {ts : List Ty}, ts.all Ty.scal = true → ts.all Ty.noSl = true
  | [], _ => rfl
  | t :: r, h => by
    simp only [List.all_cons, Bool.and_eq_true] at h ⊢
    exact ⟨by cases t <;> simp_all [Ty.scal, Ty.noSl], scal_noSl h.2⟩

theorem semOk_below {P : Program} {gt : Nat → Option GA} {f : FuncId} {ts rs : List Ty} {W : Type} {F : DL ts → Option W} {dec : W → DL rs} (hts : ts.all Ty.scal = true) (hrs : rs.all Ty.scal = true) (hcall : ∀ args w, (callFunc f args).run P w = .ok (.enter f args) w)
    (h : ∀ d y w, GlobIn gt (fun b => w.heap[b]?) → F d = some y → Calls P f (svals ts d).toArray w fun e w' => e = .returned (retval (svals rs (dec y))) ∧ Below w.heap.size w w') : SemOk P gt f (semD ts rs F dec) := by
  intro R r X st G w dst args vs K KP hr hg0 hm ha
  simp only [semD, scal_noSl hrs, cond_true] at hr
  split at hr
  · rename_i st1 hs
    split at hr
    · rename_i d hd
      obtain ⟨y, hx, hr⟩ := Option.bind_eq_some_iff.1 hr
      obtain ⟨G1, m1, a1, k1⟩ := shareVs_ok hs hm
      have hdr := getVs_ok m1 hd (ha.imp fun a v h => h.sub a1)
      have hv := svals_rel hts hdr
      subst hv
      refine ⟨hcall _ _, (h d y w (hg0.mono fun b o hb => hm.sh b o (hm.s0 b o hb)) hx).mono fun e w' ⟨he, hb⟩ => ?_⟩
      subst he
      exact ⟨_, st, G, hm.below hb, fun act ra => ra, outD_ok (svals_dat hrs), hr⟩
    · cases hr
  · cases hr
end Go.Fx

/- The framework, thirty-first text: from what the interpreter says of a function to what a law's row asks. -/
namespace Go.Fx
set_option linter.unusedVariables false
open Go.RowKit (Below)

theorem RelM.toBelow {S : Mem} {st : St} {G : Gh} {w w' : World} (h : RelM (ctxD S w) st G w') : Below w.heap.size w w' :=
  ⟨h.os, h.tp, h.out, h.sz, fun k hk => h.fr k hk (fun h => h)⟩

/-- A function on data that comes out scalar: called in any world. -/
theorem calls_data {P : Program} {f : FuncId} {ts rs : List Ty} {W : Type} {F : DL ts → Option W} {dec : W → DL rs} {gt : Nat → Option GA} (hs : SemOk P gt f (semD ts rs F dec)) (hrs : rs.all Ty.scal = true) {S : Mem} {w : World} (hS : ∀ b o, S b = some o → w.heap[b]? = some o) (hg : GlobIn gt S)
    {avs : List AVal} {vs : List Value} {d : DL ts} {y : W} (hF : F d = some y) (hv : All2 (RelV (ghD S)) avs vs) (hsh : shareVs avs (stD 0 [] ()) = some (stD 0 [] ())) (hgv : getVs (stD 0 [] ()) ts avs = some d) :
    Calls P f vs.toArray w fun e w' => e = .returned (retval (svals rs (dec y))) ∧ Below w.heap.size w w' := by
  have hrun : (semD ts rs F dec).run 0 avs (stD 0 [] ()) (fun av _ => some av) (fun _ _ => none) = some (outD rs (dec y)) := by
    simp [semD, hsh, hgv, hF]
  obtain ⟨_, h⟩ := hs hrun hg (stD_ok hS 0 [] ()) hv
  refine h.mono fun e w' he => ?_
  cases e with
  | returned v =>
    obtain ⟨av, st', G', h1, h2, h3, h4⟩ := he
    cases h4
    refine ⟨?_, h1.toBelow⟩
    have key : ∀ {rs : List Ty} {x : DL rs}, rs.all Ty.scal = true → RelV G' (outD rs x) v → v = retval (svals rs x) := by
      intro rs x hrs hv
      match rs, x, hrs, hv with
      | [], x, _, hv => obtain ⟨us, e, h⟩ := hv; cases us with
        | nil => exact e
        | cons _ _ => exact h.elim
      | [t], x, hrs, hv =>
        simp only [List.all_cons, Bool.and_eq_true] at hrs
        exact (sval_rel hrs.1).1 hv
      | t :: t2 :: r, x, hrs, hv =>
        obtain ⟨us, e, h⟩ := hv
        have tup : ∀ {rs : List Ty} {x : DL rs} {us : List Value}, rs.all Ty.scal = true → All2 (fun (p : Bool × List Leaf) u => if p.1 = true then ∃ cs : List Value, u = .agg cs.toArray ∧ All2 (RelL G') p.2 cs else ∃ l, p.2 = [l] ∧ RelL G' l u) (tupD rs x) us → us = svals rs x := by
          intro rs
          induction rs with
          | nil => intro x us _ h; cases us with
            | nil => rfl
            | cons _ _ => exact h.elim
          | cons t r ih =>
            intro x us hrs h
            simp only [List.all_cons, Bool.and_eq_true] at hrs
            cases us with
            | nil => exact h.elim
            | cons u us =>
              have h1 := h.1
              have ha : t.agg = false := by cases t <;> simp [Ty.scal] at hrs <;> rfl
              simp only [ha, Bool.false_eq_true, if_false] at h1
              obtain ⟨l, e1, e2⟩ := h1
              have hl : l = .dat t x.1 := by
                cases t <;> simp [Ty.scal] at hrs <;> (simp only [explode, List.cons.injEq, and_true] at e1; exact e1.symm)
              subst hl
              rw [(sval_rel hrs.1).1 e2, ih hrs.2 h.2]; rfl
        rw [e, tup hrs h]; rfl
    rw [key hrs h3]
  | panicked chain => obtain ⟨v, _, _, _, _, _, _, h⟩ := he; cases h
  | outgrown => exact he.elim
end Go.Fx

/- The framework: functions on objects, called: what goes in, what comes out. Definitions. -/
namespace Go.Fx
set_option linter.unusedVariables false
set_option linter.unusedSimpArgs false

def argRegs : Nat → List AVal → List (Nat × AVal)
  | _, [] => []
  | i, v :: r => (i, v) :: argRegs (i + 1) r
/-- The memory as it is, the arguments in the first registers. -/
def argSt (n : Nat) (args : List AVal) (st : St) : St := ⟨n, argRegs 0 args, st.objs, st.arrs, [], st.bleaves, st.barrs⟩
def objs1 (objs : List (Nat × Nat)) (st : St) : Bool := objs.all fun p => match st.obj p.1 with | some ls => Nat.beq ls.length p.2 | none => false
def inObjs (o : Nat) (objs : List (Nat × Nat)) : Bool := memN o (objs.map (·.1))
/-- Whether all places lie in the objects named, and what is only read in them. -/
def layOk (L : Lay) : Bool :=
  L.objs.all (fun p => Nat.blt p.1 10000) && nodupN (L.objs.map (·.1)) && nodupN ((L.cs ++ L.vs).map fun p => p.1.key) &&
    (L.cs ++ L.vs).all (fun p => match p.1 with | .r _ => true | .l o _ => inObjs o L.objs) &&
    L.cs.all (fun p => match p.1 with | .r _ => false | _ => true)
structure EntO (L : Lay) where
  c : PV L.cs
  v : PV L.vs
  st : St
  a : AL
  b : AL
def entO (L : Lay) (args : List AVal) (st : St) : Option (EntO L) :=
  match shareAll L.cs (argSt L.n args st) with
  | none => none
  | some s => (match shareAll L.vs s with
    | none => none
    | some s => (match rdAll s L.cs with
      | none => none
      | some (c, a) => (match rdAll s L.vs with
        | none => none
        | some (v, b) => (bif alOk (a ++ b) && objs1 L.objs s && layOk L && Nat.ble args.length L.n then some ⟨c, v, { st with arrs := s.arrs }, a, b⟩ else none))))
/-- What is told when the function ends. -/
def rndO (L : Lay) (al : AL) (told : Pls) (news : List (Nat × Nat × Nat)) (s : St) : Option (PV told) :=
  match shareAll told s with
  | none => none
  | some s => (match rdAll s told with
    | none => none
    | some (o, b) => (bif keepAll s L.cs && alOk (al ++ b) && objs1 L.objs s && objs1 (news.map fun p => (p.1, p.2.1)) s then some o else none))

def nmO (dst k : Nat) : Nat := (dst + 1) * 100000000 + k
def newOf : List (Nat × Nat × Nat) → Nat → Option Nat
  | [], _ => none
  | p :: r, o => bif Nat.beq p.1 o then some p.2.2 else newOf r o
def renL (news : List (Nat × Nat × Nat)) : Leaf → Leaf
  | .ptr o off => (match newOf news o with | some k => .ptr k off | none => .ptr o off)
  | l => l
def leavesO (dst : Nat) (news : List (Nat × Nat × Nat)) : (ps : Pls) → PV ps → List (Nat × Nat × Leaf)
  | [], _ => []
  | (.l o j, s) :: r, v => (o, j, renL news (s.leaf (nmO dst (Pl.l o j).key) v.1)) :: leavesO dst news r v.2
  | (.r _, _) :: r, v => leavesO dst news r v.2
def regsO (dst : Nat) (news : List (Nat × Nat × Nat)) : (ps : Pls) → PV ps → List (Nat × AVal)
  | [], _ => []
  | (.r i, s) :: r, v => (i, .one (renL news (s.leaf (nmO dst (Pl.r i).key) v.1))) :: regsO dst news r v.2
  | (.l _ _, _) :: r, v => regsO dst news r v.2
def arrsO (dst : Nat) : (ps : Pls) → PV ps → List (Nat × Arr)
  | [], _ => []
  | (p, s) :: r, v => (match s.arr v.1 with | some A => (nmO dst p.key, A) :: arrsO dst r v.2 | none => arrsO dst r v.2)
def mergeL (tl : List (Nat × Nat × Leaf)) (cs : Pls) (o : Nat) : Nat → List Leaf → List Leaf
  | _, [] => []
  | j, l :: r => (match lookL tl o j with | some x => x | none => bif hasL o j cs then l else .any) :: mergeL tl cs o (j + 1) r
def newL (tl : List (Nat × Nat × Leaf)) (k : Nat) : Nat → Nat → List Leaf
  | _, 0 => []
  | j, n + 1 => (match lookL tl k j with | some x => x | none => .any) :: newL tl k (j + 1) n
def delAll : List Nat → List (Nat × Arr) → List (Nat × Arr)
  | [], l => l
  | a :: r, l => delAll r (del l a)
def srcs (b : AL) : List Nat := b.filterMap (·.2.1)
def aftO (dst : Nat) (L : Lay) (told : Pls) (o : PV told) (news : List (Nat × Nat × Nat)) (b : AL) (st : St) : St :=
  { st with
    objs := (news.map fun p => (p.2.2, newL (leavesO dst news told o) p.1 0 p.2.1)) ++ ((L.objs.map fun p => (p.1, mergeL (leavesO dst news told o) L.cs p.1 0 ((st.obj p.1).getD []))) ++ st.objs)
    arrs := arrsO dst told o ++ delAll (srcs b) st.arrs }
def tupOf : AVal → Bool × List Leaf
  | .one (.dat t d) => (t.agg, explode t d)
  | .one l => (false, [l])
  | .agg ls => (true, ls)
  | _ => (false, [.any])
def resAt (l : List (Nat × AVal)) (i : Nat) : AVal := match look l i with | some v => v | none => .one .any
def resO (l : List (Nat × AVal)) : List Nat → AVal
  | [i] => resAt l i
  | is => .tup (is.map fun i => tupOf (resAt l i))
/-- What the caller only reads, the callee only reads. -/
def basIn (L : Lay) (st : St) : Bool :=
  L.objs.all fun p => (List.range p.2).all fun j => hasL p.1 j L.cs || (match (st.obj p.1).bind (·[j]?) with | some .bas => false | _ => true)
def consIn (b : AL) (st : St) : Bool := (srcs b).all fun a => (look st.barrs a).isNone
def freshO (dst : Nat) (L : Lay) (told : Pls) (o : PV told) (news : List (Nat × Nat × Nat)) (st : St) : Bool :=
  nodupN (told.map fun p => p.1.key) && (arrsO dst told o).all (fun p => (st.arr p.1).isNone && !st.ment true p.1) &&
    news.all (fun p => (st.obj p.2.2).isNone && !st.ment false p.2.2 && !inObjs p.1 L.objs) && nodupN (news.map (·.1)) && nodupN (news.map (·.2.2)) &&
    told.all (fun p => match p.1 with | .r _ => true | .l q _ => !hasLk p.1.key L.cs && (inObjs q L.objs || memN q (news.map (·.1)))) &&
    told.all (fun p => match p.2 with | .lit (.ptr q _) => inObjs q L.objs || memN q (news.map (·.1)) | _ => true)
where
  hasLk (k : Nat) (cs : Pls) : Bool := memN k (cs.map fun p => p.1.key)

/-- How a function ends: with what is told, or with a panic. -/
abbrev DkO (W : Type) : Type 1 := (R : Type) → W → ((told : Pls) → PV told → List (Nat × Nat × Nat) → List Nat → Option R) → (TypeId → List Leaf → Option R) → Option R
def DkOk {W : Type} (dk : DkO W) : Prop := ∀ x, (∃ told o news res, ∀ (R : Type) (f : (told : Pls) → PV told → List (Nat × Nat × Nat) → List Nat → Option R) g, dk R x f g = f told o news res) ∨
  ∃ T ls, ∀ (R : Type) (f : (told : Pls) → PV told → List (Nat × Nat × Nat) → List Nat → Option R) g, dk R x f g = g T ls

def semO (L : Lay) {W : Type} (F : PV L.cs → PV L.vs → Option W) (dk : DkO W) : CSem where
  run dst args st K KP := (match entO L args st with
    | none => none
    | some e => (bif basIn L e.st && consIn e.b e.st then
        (F e.c e.v).bind fun x => dk _ x (fun told o news res => bif freshO dst L told o news e.st then K (resO (regsO dst news told o) res) (aftO dst L told o news e.b e.st) else none)
          (fun T ls => KP (.ifc T ls) (aftO dst L [] () [] e.b e.st))
      else none))
  foot args st := (L.objs.flatMap fun p => ((List.range p.2).filter fun j => !hasL p.1 j L.cs).map fun j => Pat.o p.1 j 1) ++
    ((L.objs.flatMap fun p => match st.obj p.1 with | some ls => hdlsL (st.resl p.1 0 ls) | none => []) ++ hdlsV args)

theorem semO_det (L : Lay) {W : Type} (F : PV L.cs → PV L.vs → Option W) (dk : DkO W) (hdk : DkOk dk) : SemDet (semO L F dk) := by
  intro R dst args st K KP
  simp only [semO]
  split
  · rfl
  · refine cond_det (bind_det fun x => ?_) rfl
    rcases hdk x with ⟨told, o, news, res, h⟩ | ⟨T, ls, h⟩
    · rw [h, h]; exact cond_det rfl rfl
    · rw [h, h]; rfl
end Go.Fx

/- The framework: functions on objects, called: what may change. -/
namespace Go.Fx
set_option linter.unusedVariables false
set_option linter.unusedSimpArgs false

/-! ### Giving away changes arrays alone -/
structure Alike (st s : St) : Prop where
  base : Base st s
  regs : s.regs = st.regs
  objs : s.objs = st.objs
theorem Alike.refl (st : St) : Alike st st := ⟨.refl _, rfl, rfl⟩
theorem Alike.trans {a b c : St} (h : Alike a b) (k : Alike b c) : Alike a c := ⟨h.base.trans k.base, k.regs.trans h.regs, k.objs.trans h.objs⟩
theorem Alike.at {st s : St} (h : Alike st s) (p : Pl) : s.at p = st.at p := by
  have hr : ∀ i, s.reg i = st.reg i := fun i => by simp only [St.reg, h.regs, h.base.2.1]
  have ho : ∀ o, s.obj o = st.obj o := fun o => by simp only [St.obj, h.objs]
  have hres : ∀ o j l, s.res o j l = st.res o j l := fun o j l => by cases l <;> simp [St.res, h.base.2.2.1]
  cases p with
  | r i => simp only [St.at, St.regD, hr]
  | l o j => simp only [St.at, ho, hres]
theorem share1_alike {st s : St} {l : Leaf} (h : st.share1 l = some s) : Alike st s := by
  unfold St.share1 at h
  split at h
  · split at h
    · rename_i A _
      cases hs : A.sh with
      | true => simp only [hs, cond_true, Option.some.injEq] at h; subst h; exact .refl _
      | false =>
        cases hw : A.own with
        | false => simp [hs, hw] at h
        | true => simp only [hs, hw, cond_false, cond_true, Option.some.injEq] at h; subst h; exact ⟨⟨rfl, rfl, rfl, rfl⟩, rfl, rfl⟩
    · split at h
      · rename_i A _
        cases hs : A.sh <;> simp [hs] at h
        subst h; exact .refl _
      · cases h
  · cases h; exact .refl _
theorem shareL_alike : ∀ {ls : List Leaf} {st s : St}, st.shareL ls = some s → Alike st s
  | [], st, s, h => by cases h; exact .refl _
  | l :: r, st, s, h => by
    simp only [St.shareL] at h
    split at h
    · rename_i q hq; exact (share1_alike hq).trans (shareL_alike h)
    · cases h
theorem shared_alike {st s : St} {v : AVal} (h : v.shared st = some s) : Alike st s := by
  unfold AVal.shared at h
  split at h
  · exact share1_alike h
  · exact shareL_alike h
  · cases h
  · exact shareL_alike h
theorem shareAll_alike : ∀ {ps : Pls} {st s : St}, shareAll ps st = some s → Alike st s
  | [], st, s, h => by simp only [shareAll, Option.some.injEq] at h; subst h; exact .refl _
  | (p, sp) :: r, st, s, h => by
    cases sp with
    | d t =>
      simp only [shareAll] at h
      split at h
      · rename_i q hq; exact (shared_alike hq).trans (shareAll_alike h)
      · cases h
    | _ => exact shareAll_alike (ps := r) h
theorem shareAll_upd {W : List Pat} : ∀ {ps : Pls} {st s : St}, shareAll ps st = some s → (∀ p ∈ ps, ∀ q ∈ (st.at p.1).hdls, q ∈ W) → Upd W st s
  | [], st, s, h, _ => by simp only [shareAll, Option.some.injEq] at h; subst h; exact .refl _ _
  | (p, sp) :: r, st, s, h, hW => by
    have tail : ∀ {s1 : St}, Alike st s1 → ∀ p ∈ r, ∀ q ∈ (s1.at p.1).hdls, q ∈ W := fun ha p hp q hq => hW p (List.mem_cons_of_mem _ hp) q (by rw [← ha.at]; exact hq)
    cases sp with
    | d t =>
      simp only [shareAll] at h
      split at h
      · rename_i s1 h1
        exact ((shared_upd h1).mono fun q hq => hW _ (List.mem_cons_self ..) q hq).trans (shareAll_upd h (tail (shared_alike h1)))
      · cases h
    | _ => exact shareAll_upd (ps := r) h (tail (.refl st))

theorem rd1_at {s : St} {p : Pl} {sp : Spec} {x : sp.V} {b : AL} (h : rd1 s p sp = some (x, b)) : ∀ nm src A, (nm, src, A) ∈ b → nm = p.key ∧ sp.arr x = some A ∧ (match src with | some a => s.at p = .one (.hdl a) | none => s.at p = .one .nil) := by
  cases sp with
  | any => simp only [rd1, Option.some.injEq, Prod.mk.injEq] at h; obtain ⟨_, rfl⟩ := h; intro _ _ _ hm; cases hm
  | d t =>
    simp only [rd1] at h
    split at h
    · simp only [Option.some.injEq, Prod.mk.injEq] at h; obtain ⟨_, rfl⟩ := h; intro _ _ _ hm; cases hm
    · cases h
  | lit l =>
    simp only [rd1] at h
    split at h
    · rename_i l' _
      cases he : litEq l l' <;> simp [he] at h
      subst h; intro _ _ _ hm; cases hm
    · cases h
  | h m t =>
    simp only [rd1] at h
    split at h
    · rename_i hat
      cases hw : m.owns with
      | false => simp [hw] at h
      | true =>
        simp only [hw, cond_true, Option.some.injEq, Prod.mk.injEq] at h
        obtain ⟨rfl, rfl⟩ := h
        intro nm src A hm
        simp only [List.mem_singleton, Prod.mk.injEq] at hm
        obtain ⟨rfl, rfl, rfl⟩ := hm
        exact ⟨rfl, rfl, hat⟩
    · rename_i a hat
      split at h
      · rename_i A hA
        cases hs : (A.sh || !m.same A.md) with
        | true => simp [hs] at h
        | false =>
          simp only [hs, cond_false] at h
          split at h
          · simp only [Option.some.injEq, Prod.mk.injEq] at h
            obtain ⟨rfl, rfl⟩ := h
            intro nm src B hm
            simp only [List.mem_singleton, Prod.mk.injEq] at hm
            obtain ⟨rfl, rfl, rfl⟩ := hm
            exact ⟨rfl, rfl, hat⟩
          · cases h
      · cases h
    · cases h
/-- Where each name of an array comes from. -/
theorem rdAll_at {s : St} : ∀ {ps : Pls} {v : PV ps} {b : AL}, rdAll s ps = some (v, b) → ∀ nm src A, (nm, src, A) ∈ b → ∃ p ∈ ps, nm = p.1.key ∧ (∃ m t, p.2 = .h m t) ∧ (match src with | some a => s.at p.1 = .one (.hdl a) | none => s.at p.1 = .one .nil)
  | [], v, b, h, nm, src, A, hm => by simp only [rdAll, Option.some.injEq, Prod.mk.injEq] at h; obtain ⟨_, rfl⟩ := h; cases hm
  | (p, sp) :: r, v, b, h, nm, src, A, hm => by
    simp only [rdAll] at h
    split at h
    · rename_i x a1 h1
      split at h
      · rename_i xs b1 h2
        simp only [Option.some.injEq, Prod.mk.injEq] at h
        obtain ⟨_, rfl⟩ := h
        rcases List.mem_append.1 hm with hm | hm
        · obtain ⟨e1, e2, e3⟩ := rd1_at h1 nm src A hm
          exact ⟨(p, sp), List.mem_cons_self .., e1, (arr_spec e2).2, e3⟩
        · obtain ⟨q, hq, e⟩ := rdAll_at h2 nm src A hm
          exact ⟨q, List.mem_cons_of_mem _ hq, e⟩
      · cases h
    · cases h

/-! ### Lists by number -/
theorem look_map_nodup {α β : Type} {f : Nat × α → β} : ∀ {l : List (Nat × α)} {o : Nat} {x : α}, (l.map (·.1)).Nodup → (o, x) ∈ l → look (l.map fun p => (p.1, f p)) o = some (f (o, x))
  | p :: r, o, x, hn, h => by
    simp only [List.map_cons, look_cons]
    rw [List.map_cons, List.nodup_cons] at hn
    by_cases e : p.1 = o
    · rcases List.mem_cons.1 h with h | h
      · rw [if_pos e, ← h]
      · exact absurd (List.mem_map_of_mem (f := (·.1)) h) (by rw [← e]; exact hn.1)
    · rw [if_neg e]
      rcases List.mem_cons.1 h with h | h
      · exact absurd (by rw [← h]) e
      · exact look_map_nodup hn.2 h
theorem look_none {α : Type} : ∀ {l : List (Nat × α)} {o : Nat}, o ∉ l.map (·.1) → look l o = none
  | [], o, _ => rfl
  | (k, v) :: r, o, h => by
    rw [look_cons]
    simp only [List.map_cons, List.mem_cons, not_or] at h
    rw [if_neg (fun e => h.1 e.symm)]; exact look_none h.2
theorem look_delAll : ∀ {b : List Nat} {l : List (Nat × Arr)} {a : Nat}, look (delAll b l) a = if a ∈ b then none else look l a
  | [], l, a => by simp [delAll]
  | x :: r, l, a => by
    simp only [delAll, look_delAll (b := r), look_del, List.mem_cons]
    by_cases h1 : a ∈ r
    · simp [h1]
    · by_cases h2 : a = x
      · subst h2; simp [h1]
      · simp [h1, h2, eq_comm (a := x)]
theorem mergeL_length {tl : List (Nat × Nat × Leaf)} {cs : Pls} {o : Nat} : ∀ {ls : List Leaf} {j : Nat}, (mergeL tl cs o j ls).length = ls.length
  | [], j => rfl
  | l :: r, j => by simp [mergeL, mergeL_length (ls := r)]
theorem mergeL_get {tl : List (Nat × Nat × Leaf)} {cs : Pls} {o : Nat} : ∀ {ls : List Leaf} {i j : Nat}, (mergeL tl cs o i ls)[j]? = (ls[j]?).map fun l => (match lookL tl o (i + j) with | some x => x | none => bif hasL o (i + j) cs then l else .any)
  | [], i, j => by simp [mergeL]
  | l :: r, i, 0 => by simp [mergeL] <;> rfl
  | l :: r, i, j + 1 => by
    simp only [mergeL, List.getElem?_cons_succ]
    rw [mergeL_get (ls := r), show i + 1 + j = i + (j + 1) by omega]
theorem newL_length {tl : List (Nat × Nat × Leaf)} {k : Nat} : ∀ {n j : Nat}, (newL tl k j n).length = n
  | 0, j => rfl
  | n + 1, j => by simp [newL, newL_length (n := n)]
theorem newL_get {tl : List (Nat × Nat × Leaf)} {k : Nat} : ∀ {n i j : Nat}, j < n → (newL tl k i n)[j]? = some (match lookL tl k (i + j) with | some x => x | none => .any)
  | n + 1, i, 0, _ => by simp [newL] <;> rfl
  | n + 1, i, j + 1, h => by
    simp only [newL, List.getElem?_cons_succ]
    rw [newL_get (n := n) (by omega), show i + 1 + j = i + (j + 1) by omega]
theorem hasL_iff {o j : Nat} : ∀ {ps : Pls}, hasL o j ps = true ↔ ∃ s, (Pl.l o j, s) ∈ ps
  | [] => by simp [hasL]
  | (.r i, s) :: r => by
    simp only [hasL, hasL_iff (ps := r), List.mem_cons, Prod.mk.injEq, reduceCtorEq, false_and, false_or]
  | (.l o' j', s) :: r => by
    simp only [hasL, Bool.or_eq_true, Bool.and_eq_true, hasL_iff (ps := r), List.mem_cons, Prod.mk.injEq, Pl.l.injEq]
    constructor
    · rintro (⟨h1, h2⟩ | ⟨x, h⟩)
      · exact ⟨s, .inl ⟨⟨(Nat.eq_of_beq_eq_true h1).symm, (Nat.eq_of_beq_eq_true h2).symm⟩, rfl⟩⟩
      · exact ⟨x, .inr h⟩
    · rintro ⟨x, ⟨⟨rfl, rfl⟩, _⟩ | h⟩
      · exact .inl ⟨by simp, by simp⟩
      · exact .inr ⟨x, h⟩
theorem leavesO_mem {dst : Nat} {news : List (Nat × Nat × Nat)} : ∀ {ps : Pls} {v : PV ps} {o j : Nat} {lf : Leaf}, lookL (leavesO dst news ps v) o j = some lf → ∃ s, (Pl.l o j, s) ∈ ps
  | [], v, o, j, lf, h => by cases h
  | (.r i, s) :: r, v, o, j, lf, h => by
    obtain ⟨x, hx⟩ := leavesO_mem (ps := r) (v := v.2) h
    exact ⟨x, List.mem_cons_of_mem _ hx⟩
  | (.l o' j', s) :: r, v, o, j, lf, h => by
    simp only [leavesO, lookL] at h
    cases hb : (Nat.beq o' o && Nat.beq j' j) with
    | true =>
      simp only [Bool.and_eq_true] at hb
      rw [Nat.eq_of_beq_eq_true hb.1, Nat.eq_of_beq_eq_true hb.2]
      exact ⟨s, List.mem_cons_self ..⟩
    | false =>
      simp only [hb, cond_false] at h
      obtain ⟨x, hx⟩ := leavesO_mem (ps := r) (v := v.2) h
      exact ⟨x, List.mem_cons_of_mem _ hx⟩
theorem argRegs_get : ∀ {l : List AVal} {i k : Nat} {v : AVal}, look (argRegs i l) k = some v → v ∈ l
  | x :: r, i, k, v, h => by
    simp only [argRegs, look_cons] at h
    by_cases e : i = k
    · simp only [e, if_true, Option.some.injEq] at h; subst h; exact List.mem_cons_self ..
    · simp only [e, if_false] at h; exact List.mem_cons_of_mem _ (argRegs_get h)
theorem hdlsV_mem {q : Pat} {v : AVal} : ∀ {l : List AVal}, v ∈ l → q ∈ v.hdls → q ∈ hdlsV l
  | x :: r, h, hq => by
    rcases List.mem_cons.1 h with rfl | h
    · exact List.mem_append_left _ hq
    · exact List.mem_append_right _ (hdlsV_mem h hq)
end Go.Fx

/- The framework: functions on objects, called: the frame of a call. -/
namespace Go.Fx
set_option linter.unusedVariables false
set_option linter.unusedSimpArgs false

section
variable {L : Lay} {args : List AVal} {st : St} {e : EntO L}

/-- What is known where a call is entered. -/
structure Entered (L : Lay) (args : List AVal) (st : St) (e : EntO L) (s1 s : St) : Prop where
  sc : shareAll L.cs (argSt L.n args st) = some s1
  sv : shareAll L.vs s1 = some s
  rc : rdAll s L.cs = some (e.c, e.a)
  rv : rdAll s L.vs = some (e.v, e.b)
  al : alOk (e.a ++ e.b) = true
  ob : objs1 L.objs s = true
  lay : layOk L = true
  len : args.length ≤ L.n
  st' : e.st = { st with arrs := s.arrs }
  alike : Alike (argSt L.n args st) s
theorem entO_ok (h : entO L args st = some e) : ∃ s1 s, Entered L args st e s1 s := by
  unfold entO at h
  split at h
  · cases h
  · rename_i s1 h1
    split at h
    · cases h
    · rename_i s h2
      split at h
      · cases h
      · rename_i c a h3
        split at h
        · cases h
        · rename_i v b h4
          cases hb : (alOk (a ++ b) && objs1 L.objs s && layOk L && Nat.ble args.length L.n) with
          | false => simp [hb] at h
          | true =>
            simp only [hb, cond_true, Option.some.injEq] at h
            subst h
            simp only [Bool.and_eq_true] at hb
            exact ⟨s1, s, h1, h2, h3, h4, hb.1.1.1, hb.1.1.2, hb.1.2, Nat.le_of_ble_eq_true hb.2, rfl, (shareAll_alike h1).trans (shareAll_alike h2)⟩

theorem lay_obj (h : layOk L = true) {p : Pl × Spec} (hp : p ∈ L.cs ++ L.vs) {o j : Nat} (ho : p.1 = .l o j) : o ∈ L.objs.map (·.1) := by
  simp only [layOk, Bool.and_eq_true, List.all_eq_true] at h
  have := h.1.2 p hp
  rw [ho] at this
  exact memN_iff.1 this
theorem lay_low (h : layOk L = true) {p : Nat × Nat} (hp : p ∈ L.objs) : p.1 < 10000 := by
  simp only [layOk, Bool.and_eq_true, List.all_eq_true] at h
  have := h.1.1.1.1 p hp
  simpa [Nat.blt_eq] using this
theorem lay_nodup (h : layOk L = true) : (L.objs.map (·.1)).Nodup := by
  simp only [layOk, Bool.and_eq_true] at h
  exact nodupN_iff h.1.1.1.2
theorem lay_keys (h : layOk L = true) : ((L.cs ++ L.vs).map fun p => p.1.key).Nodup := by
  simp only [layOk, Bool.and_eq_true] at h
  exact nodupN_iff h.1.1.2

theorem objs1_get {objs : List (Nat × Nat)} {s : St} (h : objs1 objs s = true) {p : Nat × Nat} (hp : p ∈ objs) : ∃ ls, s.obj p.1 = some ls ∧ ls.length = p.2 := by
  have := List.all_eq_true.1 h p hp
  split at this
  · rename_i ls hl; exact ⟨ls, hl, Nat.eq_of_beq_eq_true this⟩
  · cases this

theorem resl_mem {st : St} {o : Nat} : ∀ {ls : List Leaf} {i j : Nat} {l : Leaf}, ls[j]? = some l → st.res o (i + j) l ∈ st.resl o i ls := fun {ls i j l} h => by
  refine List.mem_of_getElem? (i := j) ?_
  rw [resl_get, h]; rfl

/-- The handles at the places of a call are among those that it may change. -/
theorem at_foot {W : Type} {F : PV L.cs → PV L.vs → Option W} {dk : DkO W} (hl : layOk L = true) {p : Pl × Spec} (hp : p ∈ L.cs ++ L.vs) {q : Pat} (hq : q ∈ ((argSt L.n args st).at p.1).hdls) : q ∈ (semO L F dk).foot args st := by
  obtain ⟨pl, sp⟩ := p
  simp only [semO]
  refine List.mem_append_right _ ?_
  cases pl with
  | r i =>
    refine List.mem_append_right _ ?_
    simp only [St.at, St.regD, St.reg, argSt] at hq
    cases hr : look (argRegs 0 args) i with
    | none => rw [hr] at hq; simp [look, AVal.hdls, hdlsL] at hq
    | some v => rw [hr] at hq; exact hdlsV_mem (argRegs_get hr) hq
  | l o j =>
    refine List.mem_append_left _ ?_
    have ho := lay_obj hl hp rfl
    obtain ⟨⟨o', n⟩, hmem, rfl⟩ := List.mem_map.1 ho
    refine List.mem_flatMap.2 ⟨(o', n), hmem, ?_⟩
    simp only [St.at, St.obj, argSt] at hq
    have hobj : look st.objs o' = st.obj o' := rfl
    simp only at hq ⊢
    rw [hobj] at hq
    cases hst : st.obj o' with
    | none => rw [hst] at hq; simp [AVal.hdls, hdlsL] at hq
    | some ls =>
      rw [hst] at hq
      simp only at hq ⊢
      cases hj : ls[j]? with
      | none => rw [hj] at hq; simp [AVal.hdls, hdlsL] at hq
      | some l =>
        rw [hj] at hq
        have hres : (argSt L.n args st).res o' j l = st.res o' j l := by cases l <;> rfl
        have hm := resl_mem (st := st) (o := o') (i := 0) hj
        rw [Nat.zero_add] at hm
        generalize st.resl o' 0 ls = R at hm
        have hq : q ∈ hdlsL [st.res o' j l] := by
          have : q ∈ (AVal.one ((argSt L.n args st).res o' j l)).hdls := hq
          rw [hres] at this; exact this
        generalize st.res o' j l = x at hm hq
        cases x <;> simp only [hdlsL, List.not_mem_nil] at hq
        rename_i a
        simp only [List.mem_singleton] at hq
        subst hq
        exact hdlsL_mem hm

theorem newOf_none {news : List (Nat × Nat × Nat)} {o : Nat} (h : o ∉ news.map (·.1)) : newOf news o = none := by
  induction news with
  | nil => rfl
  | cons p r ih =>
    simp only [List.map_cons, List.mem_cons, not_or] at h
    simp only [newOf, nbeq_false (Ne.symm h.1), cond_false]
    exact ih h.2

theorem fresh_parts {dst : Nat} {told : Pls} {o : PV told} {news : List (Nat × Nat × Nat)} {s : St} (h : freshO dst L told o news s = true) :
    (told.map fun p => p.1.key).Nodup ∧ (∀ p ∈ arrsO dst told o, s.arr p.1 = none ∧ s.ment true p.1 = false) ∧ (∀ p ∈ news, s.obj p.2.2 = none ∧ s.ment false p.2.2 = false ∧ p.1 ∉ L.objs.map (·.1)) ∧
      (news.map (·.1)).Nodup ∧ (news.map (·.2.2)).Nodup ∧ (∀ p ∈ told, ∀ q j, p.1 = .l q j → (∀ c ∈ L.cs, c.1.key ≠ p.1.key) ∧ (q ∈ L.objs.map (·.1) ∨ q ∈ news.map (·.1))) ∧
      (∀ p ∈ told, ∀ q off, p.2 = .lit (.ptr q off) → q ∈ L.objs.map (·.1) ∨ q ∈ news.map (·.1)) := by
  simp only [freshO, Bool.and_eq_true, List.all_eq_true] at h
  obtain ⟨⟨⟨⟨⟨⟨h1, h2⟩, h3⟩, h4⟩, h5⟩, h6⟩, h7⟩ := h
  refine ⟨nodupN_iff h1, fun p hp => ?_, fun p hp => ?_, nodupN_iff h4, nodupN_iff h5, fun p hp q j e => ?_, fun p hp q off e => ?_⟩
  · have := h2 p hp; simpa using this
  · have := h3 p hp
    simp only [Bool.not_eq_true', inObjs] at this
    refine ⟨by simpa using this.1.1, this.1.2, fun hm => ?_⟩
    rw [memN_iff.2 hm] at this; cases this.2
  · have := h6 p hp
    rw [e] at this
    simp only [Bool.and_eq_true, Bool.not_eq_true', Bool.or_eq_true, freshO.hasLk, inObjs] at this
    refine ⟨fun c hc e2 => ?_, this.2.imp memN_iff.1 memN_iff.1⟩
    have hm : memN p.1.key (L.cs.map fun p => p.1.key) = true := memN_iff.2 (by rw [← e2]; exact List.mem_map_of_mem hc)
    rw [e] at hm
    rw [hm] at this; cases this.1
  · have := h7 p hp
    rw [e] at this
    simp only [Bool.or_eq_true, inObjs] at this
    exact this.imp memN_iff.1 memN_iff.1

/-- Looking an object up behind a call. -/
theorem aft_obj {dst : Nat} {told : Pls} {o : PV told} {news : List (Nat × Nat × Nat)} {b : AL} {s : St} (hn : (L.objs.map (·.1)).Nodup) (hob : objs1 L.objs s = true) (hf : ∀ p ∈ news, s.obj p.2.2 = none) (hnn : (news.map (·.2.2)).Nodup) (q : Nat) :
    (∃ k n, (k, n, q) ∈ news ∧ (aftO dst L told o news b s).obj q = some (newL (leavesO dst news told o) k 0 n)) ∨
    (q ∉ news.map (·.2.2) ∧ ((∃ n ls, (q, n) ∈ L.objs ∧ s.obj q = some ls ∧ (aftO dst L told o news b s).obj q = some (mergeL (leavesO dst news told o) L.cs q 0 ls)) ∨
      (q ∉ L.objs.map (·.1) ∧ (aftO dst L told o news b s).obj q = s.obj q))) := by
  have e1 : (aftO dst L told o news b s).obj q = look ((news.map fun p => (p.2.2, newL (leavesO dst news told o) p.1 0 p.2.1)) ++ ((L.objs.map fun p => (p.1, mergeL (leavesO dst news told o) L.cs p.1 0 ((s.obj p.1).getD []))) ++ s.objs)) q := rfl
  rw [e1, look_append, look_append]
  by_cases h : q ∈ news.map (·.2.2)
  · obtain ⟨⟨k, n, q'⟩, hm, rfl⟩ := List.mem_map.1 h
    refine .inl ⟨k, n, hm, ?_⟩
    have key : ∀ {news' : List (Nat × Nat × Nat)} {k n q : Nat}, (news'.map (·.2.2)).Nodup → (k, n, q) ∈ news' → look (news'.map fun p => (p.2.2, newL (leavesO dst news told o) p.1 0 p.2.1)) q = some (newL (leavesO dst news told o) k 0 n) := by
      intro news'
      induction news' with
      | nil => intro k n q _ h; cases h
      | cons p r ih =>
        intro k n q hn h
        rw [List.map_cons, List.nodup_cons] at hn
        simp only [List.map_cons, look_cons]
        rcases List.mem_cons.1 h with rfl | h
        · simp
        · rw [if_neg (fun e => hn.1 (by rw [e]; exact List.mem_map_of_mem (f := (·.2.2)) h)), ih hn.2 h]
    rw [key hnn hm]
  · have h0 : look (news.map fun p => (p.2.2, newL (leavesO dst news told o) p.1 0 p.2.1)) q = none := look_none (by simpa [List.map_map] using h)
    rw [h0]
    refine .inr ⟨h, ?_⟩
    by_cases h2 : q ∈ L.objs.map (·.1)
    · obtain ⟨⟨q', n⟩, hm, rfl⟩ := List.mem_map.1 h2
      obtain ⟨ls, hl, _⟩ := objs1_get hob hm
      refine .inl ⟨n, ls, hm, hl, ?_⟩
      rw [look_map_nodup (f := fun p => mergeL (leavesO dst news told o) L.cs p.1 0 ((s.obj p.1).getD [])) hn hm, hl]; rfl
    · have h3 : look (L.objs.map fun p => (p.1, mergeL (leavesO dst news told o) L.cs p.1 0 ((s.obj p.1).getD []))) q = none := look_none (by simpa [List.map_map, Function.comp_def] using h2)
      rw [h3]
      exact .inr ⟨h2, rfl⟩

theorem semO_cong (L : Lay) {W : Type} (F : PV L.cs → PV L.vs → Option W) (dk : DkO W) (hdk : DkOk dk) : SemCong (semO L F dk) := by
  intro R dst args st K K' KP KP' hK hP
  simp only [semO]
  cases he : entO L args st with
  | none => rfl
  | some e =>
    obtain ⟨s1, s, E⟩ := entO_ok he
    simp only
    refine cond_congH (fun hc => bind_cong fun x => ?_) (fun _ => rfl)
    have hbase : Base st e.st := by rw [E.st']; exact ⟨rfl, rfl, rfl, by have := E.alike.base.2.2.2; exact rfl⟩
    rcases hdk x with ⟨told, o, news, res, h⟩ | ⟨T, ls, h⟩
    · rw [h, h]
      refine cond_congH (fun hf => hK _ _ ?_) (fun _ => rfl)
      obtain ⟨f1, f2, f3, f4, f5, f6, _⟩ := fresh_parts hf
      have hW : ∀ p ∈ L.cs ++ L.vs, ∀ q ∈ ((argSt L.n args st).at p.1).hdls, q ∈ (semO L F dk).foot args st := fun p hp q hq => at_foot E.lay hp hq
      have u0 : Upd ((semO L F dk).foot args st) (argSt L.n args st) s :=
        (shareAll_upd E.sc fun p hp => hW p (List.mem_append_left _ hp)).trans (shareAll_upd E.sv fun p hp q hq => hW p (List.mem_append_right _ hp) q (by rw [← (shareAll_alike E.sc).at]; exact hq))
      have harr1 : ∀ a, e.st.arr a = s.arr a := fun a => by
        rw [E.st']; simp only [St.arr, E.alike.base.2.2.2]; rfl
      have hobj1 : ∀ q, e.st.obj q = st.obj q := fun q => by rw [E.st']; rfl
      have hob : objs1 L.objs e.st = true := by
        have : ∀ q, e.st.obj q = s.obj q := fun q => by rw [hobj1]; simp only [St.obj, E.alike.objs]; rfl
        have := E.ob
        unfold objs1 at this ⊢
        rw [← this]
        congr 1
        funext p
        rw [show e.st.obj p.1 = s.obj p.1 from ‹∀ q, e.st.obj q = s.obj q› p.1]
      refine ⟨hbase, ?_, fun q ls hq => ?_, fun a A hA hn => ?_⟩
      · show e.st.regs = st.regs; rw [E.st']
      · rcases aft_obj (dst := dst) (told := told) (o := o) (news := news) (b := e.b) (lay_nodup E.lay) hob (fun p hp => (f3 p hp).1) f5 q with ⟨k, n, hm, _⟩ | ⟨_, ⟨n, ls', hm, hl, e2⟩ | ⟨_, e2⟩⟩
        · have := (f3 _ hm).1
          rw [hobj1, hq] at this; cases this
        · rw [hobj1, hq] at hl
          cases hl
          refine ⟨_, e2, mergeL_length, fun j hj => ?_⟩
          rw [mergeL_get, Nat.zero_add]
          cases hlj : ls[j]? with
          | none => rfl
          | some l =>
            have hjn : j < n := by
              obtain ⟨ls2, h1, h2⟩ := objs1_get hob hm
              rw [hobj1, hq] at h1
              cases h1
              have := (List.getElem?_eq_some_iff.1 hlj).1
              simp only at h2; omega
            have hc : hasL q j L.cs = true := by
              cases hh : hasL q j L.cs with
              | true => rfl
              | false =>
                exact absurd ⟨rfl, Nat.le_refl _, Nat.lt_succ_self _⟩ (hj (.o q j 1) (List.mem_append_left _ (List.mem_flatMap.2 ⟨(q, n), hm, List.mem_map.2 ⟨j, List.mem_filter.2 ⟨List.mem_range.2 hjn, by simp [hh]⟩, rfl⟩⟩)))
            have ht : lookL (leavesO dst news told o) q j = none := by
              cases hh : lookL (leavesO dst news told o) q j with
              | none => rfl
              | some x =>
                obtain ⟨sp, hsp⟩ := leavesO_mem hh
                obtain ⟨sc, hsc⟩ := hasL_iff.1 hc
                exact absurd (rfl : (Pl.l q j).key = (Pl.l q j).key) ((f6 (Pl.l q j, sp) hsp q j rfl).1 (Pl.l q j, sc) hsc)
            simp [ht, hc]
        · exact ⟨ls, by rw [e2, hobj1]; exact hq, rfl, fun _ _ => rfl⟩
      · have h1 : e.st.arr a = some A := by
          rw [harr1]
          exact u0.arr a A hA hn
        have hns : a ∉ srcs e.b := fun hs => hn (by
          obtain ⟨⟨nm, src, B⟩, hm, hsrc⟩ := List.mem_filterMap.1 hs
          simp only at hsrc
          subst hsrc
          obtain ⟨p, hp, _, _, hat⟩ := rdAll_at E.rv nm _ B hm
          exact at_foot E.lay (List.mem_append_right _ hp) (by rw [← E.alike.at, hat]; simp [AVal.hdls, hdlsL]))
        have hnt : look (arrsO dst told o) a = none := by
          cases hl : look (arrsO dst told o) a with
          | none => rfl
          | some B => have := (f2 _ (look_mem hl)).1; rw [h1] at this; cases this
        have e1 : (aftO dst L told o news e.b e.st).arr a = (match look (arrsO dst told o ++ delAll (srcs e.b) e.st.arrs) a with | some v => some v | none => look e.st.barrs a) := rfl
        rw [e1, look_append, hnt, look_delAll, if_neg hns]
        exact h1
    · rw [h, h]
      exact hP _ _ hbase
end
end Go.Fx

/- The framework: functions on objects, called: the state behind the call is what the parts make. -/
namespace Go.Fx
set_option linter.unusedVariables false
set_option linter.unusedSimpArgs false

def toldF (dst : Nat) (b : AL) (nm : Nat) : Option (Option Nat) := look (b.map fun e => (nmO dst e.1, e.2.1)) nm
def keepF (a : AL) (nm : Nat) : Option Nat := look (a.filterMap fun e => e.2.1.map fun s => (s, e.1)) nm
def nobjF (news : List (Nat × Nat × Nat)) (q : Nat) : Option Nat := look (news.map fun p => (p.2.2, p.1)) q

theorem nmO_inj {dst k k' : Nat} (h : nmO dst k = nmO dst k') : k = k' := by unfold nmO at h; omega
theorem toldF_mem {dst : Nat} : ∀ {b : AL} {nm : Nat} {src : Option Nat}, toldF dst b nm = some src → ∃ k A, nm = nmO dst k ∧ (k, src, A) ∈ b
  | (k, s, A) :: r, nm, src, h => by
    simp only [toldF, List.map_cons, look_cons] at h
    by_cases e : nmO dst k = nm
    · simp only [e, if_true, Option.some.injEq] at h
      exact ⟨k, A, e.symm, by rw [h]; exact List.mem_cons_self ..⟩
    · simp only [e, if_false] at h
      obtain ⟨k', A', h1, h2⟩ := toldF_mem (b := r) h
      exact ⟨k', A', h1, List.mem_cons_of_mem _ h2⟩
theorem toldF_of {dst : Nat} : ∀ {b : AL} {k : Nat} {src : Option Nat} {A : Arr}, (b.map (·.1)).Nodup → (k, src, A) ∈ b → toldF dst b (nmO dst k) = some src
  | (k', s, B) :: r, k, src, A, hn, h => by
    simp only [toldF, List.map_cons, look_cons]
    rw [List.map_cons, List.nodup_cons] at hn
    rcases List.mem_cons.1 h with h | h
    · cases h; simp
    · have hne : k' ≠ k := fun e => hn.1 (by rw [e]; exact List.mem_map_of_mem (f := (·.1)) h)
      rw [if_neg (fun e => hne (nmO_inj e))]
      exact toldF_of (b := r) hn.2 h
theorem keepF_mem : ∀ {a : AL} {nm k : Nat}, keepF a nm = some k → ∃ A, (k, some nm, A) ∈ a
  | (k', s, A) :: r, nm, k, h => by
    cases s with
    | none =>
      obtain ⟨B, hB⟩ := keepF_mem (a := r) (nm := nm) (k := k) (by simpa [keepF] using h)
      exact ⟨B, List.mem_cons_of_mem _ hB⟩
    | some x =>
      simp only [keepF, List.filterMap_cons, Option.map_some, look_cons] at h
      by_cases e : x = nm
      · simp only [e, if_true, Option.some.injEq] at h
        exact ⟨A, by rw [← h, e]; exact List.mem_cons_self ..⟩
      · simp only [e, if_false] at h
        obtain ⟨B, hB⟩ := keepF_mem (a := r) (nm := nm) (k := k) h
        exact ⟨B, List.mem_cons_of_mem _ hB⟩
theorem keepF_none {a : AL} {nm : Nat} (h : keepF a nm = none) : ∀ k A, (k, some nm, A) ∉ a := by
  induction a with
  | nil => intro k A hm; cases hm
  | cons p r ih =>
    obtain ⟨k', s, B⟩ := p
    intro k A hm
    cases s with
    | none =>
      rcases List.mem_cons.1 hm with hm | hm
      · cases hm
      · exact ih (by simpa [keepF] using h) k A hm
    | some x =>
      simp only [keepF, List.filterMap_cons, Option.map_some, look_cons] at h
      by_cases e : x = nm
      · simp [e] at h
      · simp only [e, if_false] at h
        rcases List.mem_cons.1 hm with hm | hm
        · cases hm; exact e rfl
        · exact ih h k A hm
theorem nobjF_mem : ∀ {news : List (Nat × Nat × Nat)} {q k : Nat}, nobjF news q = some k → ∃ n, (k, n, q) ∈ news
  | (k', n, q') :: r, q, k, h => by
    simp only [nobjF, List.map_cons, look_cons] at h
    by_cases e : q' = q
    · simp only [e, if_true, Option.some.injEq] at h
      exact ⟨n, by rw [← h, e]; exact List.mem_cons_self ..⟩
    · simp only [e, if_false] at h
      obtain ⟨m, hm⟩ := nobjF_mem (news := r) h
      exact ⟨m, List.mem_cons_of_mem _ hm⟩
theorem nobjF_of : ∀ {news : List (Nat × Nat × Nat)} {q k n : Nat}, (news.map (·.2.2)).Nodup → (k, n, q) ∈ news → nobjF news q = some k
  | (k', n', q') :: r, q, k, n, hn, h => by
    simp only [nobjF, List.map_cons, look_cons]
    rw [List.map_cons, List.nodup_cons] at hn
    rcases List.mem_cons.1 h with h | h
    · cases h; simp
    · rw [if_neg (fun e => hn.1 (by rw [e]; exact List.mem_map_of_mem (f := (·.2.2)) h))]
      exact nobjF_of (news := r) hn.2 h
theorem newOf_mem : ∀ {news : List (Nat × Nat × Nat)} {o k : Nat}, newOf news o = some k → ∃ n, (o, n, k) ∈ news
  | p :: r, o, k, h => by
    simp only [newOf] at h
    cases hb : Nat.beq p.1 o with
    | true =>
      simp only [hb, cond_true, Option.some.injEq] at h
      have e := Nat.eq_of_beq_eq_true hb
      exact ⟨p.2.1, by rw [← e, ← h]; exact List.mem_cons_self ..⟩
    | false =>
      simp only [hb, cond_false] at h
      obtain ⟨n, hn⟩ := newOf_mem (news := r) h
      exact ⟨n, List.mem_cons_of_mem _ hn⟩

/-- What a place is told to hold, in the caller's names. -/
theorem told_leaf {dst : Nat} {t s4 : St} {b4 : AL} {G G4 : Gh} {keep : Nat → Option Nat} {news : List (Nat × Nat × Nat)} {p : Pl} {sp : Spec} {x : sp.V} {bp : AL} (hrd : rd1 s4 p sp = some (x, bp)) (hsub : ∀ e ∈ bp, e ∈ b4) (hn : (b4.map (·.1)).Nodup)
    (hm : ∃ X w', RelM X s4 G4 w') (hφ : ∀ q tl, t.obj q = some tl → G4.φ q = G.φ q ∧ G4.pre q = G.pre q) (hnn : (news.map (·.2.2)).Nodup) (hnt : ∀ p ∈ news, t.obj p.2.2 = none)
    (hlit : ∀ q off, sp = .lit (.ptr q off) → (∃ tl, t.obj q = some tl) ∨ q ∈ news.map (·.1)) {u : Value} (hu : RelV G4 (s4.at p) u) : RelL (G.back G4 (toldF dst b4) keep (nobjF news)) (renL news (sp.leaf (nmO dst p.key) x)) u := by
  obtain ⟨X, w', hm⟩ := hm
  have hmem := rd1_at hrd
  cases sp with
  | any => trivial
  | d t' =>
    simp only [rd1] at hrd
    split at hrd
    · rename_i y hy
      simp only [Option.some.injEq, Prod.mk.injEq] at hrd
      obtain ⟨rfl, _⟩ := hrd
      obtain ⟨cs, e, hr⟩ := avget_ok hm hy hu
      exact ⟨cs, e, hr⟩
    · cases hrd
  | h m t' =>
    show u = (match toldF dst b4 (nmO dst p.key) with | some (some k) => G4.ψ k | some none => .slice none 0 0 | none => G.ψ (nmO dst p.key))
    simp only [rd1] at hrd
    split at hrd
    · rename_i hat
      cases hw : m.owns with
      | false => simp [hw] at hrd
      | true =>
        simp only [hw, cond_true, Option.some.injEq, Prod.mk.injEq] at hrd
        obtain ⟨_, rfl⟩ := hrd
        rw [toldF_of hn (hsub _ (List.mem_singleton.2 rfl))]
        rw [hat] at hu; exact hu
    · rename_i a hat
      split at hrd
      · rename_i A hA
        cases hs : (A.sh || !m.same A.md) with
        | true => simp [hs] at hrd
        | false =>
          simp only [hs, cond_false] at hrd
          split at hrd
          · simp only [Option.some.injEq, Prod.mk.injEq] at hrd
            obtain ⟨_, rfl⟩ := hrd
            rw [toldF_of hn (hsub _ (List.mem_singleton.2 rfl))]
            rw [hat] at hu; exact hu
          · cases hrd
      · cases hrd
    · cases hrd
  | lit l =>
    simp only [rd1] at hrd
    split at hrd
    · rename_i l' hat
      cases he : litEq l l' with
      | false => simp [he] at hrd
      | true =>
        have e := litEq_eq he
        rw [hat, ← e] at hu
        show RelL _ (renL news l) u
        cases l with
        | ptr q off =>
          have hu : u = .pointer (some ⟨G4.φ q, (G4.pre q).length + off, none⟩) := hu
          simp only [renL]
          cases hq : newOf news q with
          | some k =>
            obtain ⟨n, hmm⟩ := newOf_mem hq
            simp only [RelL, Gh.back, nobjF_of hnn hmm]; exact hu
          | none =>
            rcases hlit q off rfl with ⟨tl, htl⟩ | hnw
            · have hno : nobjF news q = none := by
                cases hh : nobjF news q with
                | none => rfl
                | some k => obtain ⟨n, hmm⟩ := nobjF_mem hh; have := hnt _ hmm; rw [htl] at this; cases this
              obtain ⟨e1, e2⟩ := hφ q tl htl
              simp only [RelL, Gh.back, hno]
              rw [hu, e1, e2]
            · obtain ⟨⟨q', n, k⟩, hmm, rfl⟩ := List.mem_map.1 hnw
              have : ∀ {news : List (Nat × Nat × Nat)}, (q', n, k) ∈ news → newOf news q' ≠ none := by
                intro news
                induction news with
                | nil => intro h; cases h
                | cons p r ih =>
                  intro h
                  simp only [newOf]
                  cases hb : Nat.beq p.1 q' with
                  | true => simp
                  | false =>
                    simp only [cond_false]
                    rcases List.mem_cons.1 h with h | h
                    · rw [← h] at hb; simp at hb
                    · exact ih h
              exact absurd hq (this hmm)
        | nil => exact hu
        | nilp => exact hu
        | und => exact hu
        | fn f => exact hu
        | _ => simp [litEq] at he
    · cases hrd

/-- One of the places that are told. -/
theorem rdAll_get {s : St} : ∀ {ps : Pls} {v : PV ps} {b : AL}, rdAll s ps = some (v, b) → ∀ {dst : Nat} {news : List (Nat × Nat × Nat)},
    (∀ {o j : Nat} {lf : Leaf}, lookL (leavesO dst news ps v) o j = some lf → ∃ sp x bp, (Pl.l o j, sp) ∈ ps ∧ rd1 s (.l o j) sp = some (x, bp) ∧ (∀ e ∈ bp, e ∈ b) ∧ lf = renL news (sp.leaf (nmO dst (Pl.l o j).key) x)) ∧
    (∀ {i : Nat} {av : AVal}, look (regsO dst news ps v) i = some av → ∃ sp x bp, (Pl.r i, sp) ∈ ps ∧ rd1 s (.r i) sp = some (x, bp) ∧ (∀ e ∈ bp, e ∈ b) ∧ av = .one (renL news (sp.leaf (nmO dst (Pl.r i).key) x))) ∧
    (∀ {nm : Nat} {A : Arr}, look (arrsO dst ps v) nm = some A → ∃ p sp x bp, (p, sp) ∈ ps ∧ rd1 s p sp = some (x, bp) ∧ (∀ e ∈ bp, e ∈ b) ∧ nm = nmO dst p.key ∧ sp.arr x = some A) ∧
    (∀ {k : Nat} {src : Option Nat} {A : Arr}, (k, src, A) ∈ b → ∃ B, look (arrsO dst ps v) (nmO dst k) = some B)
  | [], v, b, h, dst, news => by
    simp only [rdAll, Option.some.injEq, Prod.mk.injEq] at h
    obtain ⟨_, rfl⟩ := h
    exact ⟨(fun h => (by cases h)), (fun h => (by cases h)), (fun h => (by cases h)), (fun h => (by cases h))⟩
  | (p, sp) :: r, v, b, h, dst, news => by
    simp only [rdAll] at h
    split at h
    · rename_i x a1 h1
      split at h
      · rename_i xs b1 h2
        simp only [Option.some.injEq, Prod.mk.injEq] at h
        obtain ⟨rfl, rfl⟩ := h
        obtain ⟨g1, g2, g3, g4⟩ := rdAll_get h2 (dst := dst) (news := news)
        have sub1 : ∀ e ∈ a1, e ∈ a1 ++ b1 := fun e he => List.mem_append_left _ he
        refine ⟨fun {o j lf} hl => ?_, fun {i av} hl => ?_, fun {nm A} hl => ?_, fun {k src A} hm => ?_⟩
        · have tail : lookL (leavesO dst news r xs) o j = some lf → (∃ sp0 x bp, (Pl.l o j, sp0) ∈ ((p, sp) :: r) ∧ rd1 s (.l o j) sp0 = some (x, bp) ∧ (∀ e ∈ bp, e ∈ a1 ++ b1) ∧ lf = renL news (sp0.leaf (nmO dst (Pl.l o j).key) x)) := fun hl => by
            obtain ⟨sp', x', bp, e1, e2, e3, e4⟩ := g1 hl
            exact ⟨sp', x', bp, List.mem_cons_of_mem _ e1, e2, fun e he => List.mem_append_right _ (e3 e he), e4⟩
          cases p with
          | r i => exact tail hl
          | l o' j' =>
            simp only [leavesO, lookL] at hl
            cases hb : (Nat.beq o' o && Nat.beq j' j) with
            | false => simp only [hb, cond_false] at hl; exact tail hl
            | true =>
              simp only [hb, cond_true, Option.some.injEq] at hl
              simp only [Bool.and_eq_true] at hb
              obtain rfl := Nat.eq_of_beq_eq_true hb.1
              obtain rfl := Nat.eq_of_beq_eq_true hb.2
              exact ⟨sp, x, a1, List.mem_cons_self .., h1, sub1, hl.symm⟩
        · have tail : look (regsO dst news r xs) i = some av → (∃ sp0 x bp, (Pl.r i, sp0) ∈ ((p, sp) :: r) ∧ rd1 s (.r i) sp0 = some (x, bp) ∧ (∀ e ∈ bp, e ∈ a1 ++ b1) ∧ av = .one (renL news (sp0.leaf (nmO dst (Pl.r i).key) x))) := fun hl => by
            obtain ⟨sp', x', bp, e1, e2, e3, e4⟩ := g2 hl
            exact ⟨sp', x', bp, List.mem_cons_of_mem _ e1, e2, fun e he => List.mem_append_right _ (e3 e he), e4⟩
          cases p with
          | l o j => exact tail hl
          | r i' =>
            simp only [regsO, look_cons] at hl
            by_cases e : i' = i
            · subst e
              simp only [if_true, Option.some.injEq] at hl
              exact ⟨sp, x, a1, List.mem_cons_self .., h1, sub1, hl.symm⟩
            · simp only [e, if_false] at hl; exact tail hl
        · have tail : look (arrsO dst r xs) nm = some A → (∃ p0 sp0 x bp, (p0, sp0) ∈ ((p, sp) :: r) ∧ rd1 s p0 sp0 = some (x, bp) ∧ (∀ e ∈ bp, e ∈ a1 ++ b1) ∧ nm = nmO dst p0.key ∧ sp0.arr x = some A) := fun hl => by
            obtain ⟨p', sp', x', bp, e1, e2, e3, e4, e5⟩ := g3 hl
            exact ⟨p', sp', x', bp, List.mem_cons_of_mem _ e1, e2, fun e he => List.mem_append_right _ (e3 e he), e4, e5⟩
          simp only [arrsO] at hl
          split at hl
          · rename_i B hB
            rw [look_cons] at hl
            by_cases e : nmO dst p.key = nm
            · simp only [e, if_true, Option.some.injEq] at hl
              subst hl
              exact ⟨p, sp, x, a1, List.mem_cons_self .., h1, sub1, e.symm, hB⟩
            · simp only [e, if_false] at hl; exact tail hl
          · exact tail hl
        · simp only [arrsO]
          rcases List.mem_append.1 hm with hm | hm
          · obtain ⟨e1, e2, _⟩ := rd1_at h1 k src A hm
            subst e1
            exact ⟨A, by simp [e2, look_cons]⟩
          · obtain ⟨B, hB⟩ := g4 hm
            split
            · rw [look_cons]
              by_cases e : nmO dst p.key = nmO dst k
              · exact ⟨_, by rw [if_pos e]⟩
              · exact ⟨B, by rw [if_neg e]; exact hB⟩
            · exact ⟨B, hB⟩
      · cases h
    · cases h
end Go.Fx

/- The framework: functions on objects, called: the parts make the state behind the call. -/
namespace Go.Fx
set_option linter.unusedVariables false
set_option linter.unusedSimpArgs false

theorem mem_keepAL : ∀ {cs : Pls} {c : PV cs} {k : Nat} {src : Option Nat} {A : Arr}, (k, src, A) ∈ keepAL cs c → src = some k ∧ ∃ p ∈ cs, p.1.key = k ∧ ∃ m t, p.2 = .h m t
  | (p, s) :: r, c, k, src, A, h => by
    simp only [keepAL] at h
    split at h
    · rename_i B hB
      rcases List.mem_cons.1 h with h | h
      · cases h; exact ⟨rfl, (p, s), List.mem_cons_self .., rfl, (arr_spec hB).2⟩
      · obtain ⟨e, q, hq, e2⟩ := mem_keepAL (cs := r) h
        exact ⟨e, q, List.mem_cons_of_mem _ hq, e2⟩
    · obtain ⟨e, q, hq, e2⟩ := mem_keepAL (cs := r) h
      exact ⟨e, q, List.mem_cons_of_mem _ hq, e2⟩
/-- What was read at the constant places is what the lists of constants hold. -/
theorem keepAL_of {s : St} : ∀ {cs : Pls} {c : PV cs} {a : AL}, rdAll s cs = some (c, a) → ∀ {k : Nat} {src : Option Nat} {A : Arr}, (k, src, A) ∈ a → (k, some k, A) ∈ keepAL cs c ∧ look (arrsOf cs c) k ≠ none
  | [], c, a, h, k, src, A, hm => by simp only [rdAll, Option.some.injEq, Prod.mk.injEq] at h; obtain ⟨_, rfl⟩ := h; cases hm
  | (p, sp) :: r, c, a, h, k, src, A, hm => by
    simp only [rdAll] at h
    split at h
    · rename_i x a1 h1
      split at h
      · rename_i xs b1 h2
        simp only [Option.some.injEq, Prod.mk.injEq] at h
        obtain ⟨rfl, rfl⟩ := h
        simp only [keepAL, arrsOf]
        rcases List.mem_append.1 hm with hm | hm
        · obtain ⟨e1, e2, _⟩ := rd1_at h1 k src A hm
          subst e1
          simp only [e2]
          exact ⟨List.mem_cons_self .., by simp [look_cons]⟩
        · obtain ⟨g1, g2⟩ := keepAL_of h2 hm
          split
          · refine ⟨List.mem_cons_of_mem _ g1, ?_⟩
            rw [look_cons]; split
            · simp
            · exact g2
          · exact ⟨g1, g2⟩
      · cases h
    · cases h
theorem rd_md {s : St} {p : Pl} {m : Md} {t : Ty} {x : List t.den} {b : AL} (h : rd1 s p (.h m t) = some (x, b)) : ∀ i o, m ≠ .lent i o := fun i o e => by
  subst e
  simp only [rd1] at h
  split at h
  · simp [Md.owns] at h
  · split at h
    · rename_i A _
      cases hs : A.sh <;> simp [hs, Md.same] at h
    · cases h
  · cases h
theorem look_leaf_of {cs : Pls} {c : PV cs} {o j : Nat} (h : hasL o j cs = true) : ∃ lf, lookL (leavesOf cs c) o j = some lf := by
  induction cs with
  | nil => cases h
  | cons p r ih =>
    obtain ⟨pl, sp⟩ := p
    cases pl with
    | r i => exact ih (c := c.2) (by simpa [hasL] using h)
    | l o' j' =>
      simp only [leavesOf, lookL]
      cases hb : (Nat.beq o' o && Nat.beq j' j) with
      | true => exact ⟨_, rfl⟩
      | false => simp only [cond_false]; exact ih (c := c.2) (by simpa [hasL, hb] using h)

section
variable {L : Lay} {args : List AVal} {st : St} {e : EntO L} {s1 s s4 : St} {dst : Nat} {told : Pls} {o : PV told} {news : List (Nat × Nat × Nat)} {b4 : AL}

theorem entered_obj (E : Entered L args st e s1 s) (q : Nat) : e.st.obj q = s.obj q := by
  rw [E.st']; simp only [St.obj, E.alike.objs]; rfl
theorem entered_arr (E : Entered L args st e s1 s) (a : Nat) : e.st.arr a = s.arr a := by
  rw [E.st']; simp only [St.arr, E.alike.base.2.2.2]; rfl
theorem entered_bl (E : Entered L args st e s1 s) : e.st.bleaves = s.bleaves := by
  rw [E.st']; exact E.alike.base.2.2.1.symm
theorem entered_objs (E : Entered L args st e s1 s) : objs1 L.objs e.st = true := by
  have := E.ob
  unfold objs1 at this ⊢
  rw [← this]
  congr 1
  funext p
  rw [entered_obj E p.1]

theorem rdAll_md {s : St} : ∀ {cs : Pls} {c : PV cs} {a0 : AL}, rdAll s cs = some (c, a0) → ∀ k a (A' : Arr), (k, some a, A') ∈ a0 → ∀ i o, A'.md ≠ .lent i o := by
  intro cs
  induction cs with
  | nil => intro c a0 h k a A' hm; simp only [rdAll, Option.some.injEq, Prod.mk.injEq] at h; obtain ⟨_, rfl⟩ := h; cases hm
  | cons q r ih =>
    intro c a0 h k a A' hm i o
    simp only [rdAll] at h
    split at h
    · rename_i x a1 h1
      split at h
      · rename_i xs b1 h2
        simp only [Option.some.injEq, Prod.mk.injEq] at h
        obtain ⟨_, rfl⟩ := h
        rcases List.mem_append.1 hm with hm | hm
        · obtain ⟨_, e3, _⟩ := rd1_at h1 _ _ _ hm
          obtain ⟨_, m', t', e4⟩ := arr_spec e3
          obtain ⟨q1, q2⟩ := q
          simp only at e4
          subst e4
          simp only [Spec.arr, Option.some.injEq] at e3
          rw [← e3]; exact rd_md h1 i o
        · exact ih h2 k a A' hm i o
      · cases h
    · cases h
theorem merge_of (E : Entered L args st e s1 s) (hbas : basIn L e.st = true) (hcons : consIn e.b e.st = true) (hrd : rdAll s4 told = some (o, b4)) (hkeep : keepAll s4 L.cs = true) (hal4 : alOk (keepAL L.cs e.c ++ b4) = true)
    (hob4 : objs1 L.objs s4 = true) (hnw4 : objs1 (news.map fun p => (p.1, p.2.1)) s4 = true) (hbase : BaseOf L e.c s4) (hf : freshO dst L told o news e.st = true) :
    Merge e.st (L.st e.c e.v) s4 (aftO dst L told o news e.b e.st) (e.a ++ e.b) (toldF dst b4) (keepF e.a) (nobjF news) := by
  obtain ⟨f1, f2, f3, f4, f5, f6, f7⟩ := fresh_parts hf
  have hobs := entered_objs E
  have hnd := lay_nodup E.lay
  have haft := aft_obj (dst := dst) (told := told) (o := o) (news := news) (b := e.b) hnd hobs (fun p hp => (f3 p hp).1) f5
  have hal := E.al
  simp only [alOk, Bool.and_eq_true] at hal hal4
  have hn4 : (b4.map (·.1)).Nodup := by
    have := nodupN_iff hal4.1
    rw [List.map_append, List.nodup_append] at this; exact this.2.1
  have hs4 : (b4.filterMap (·.2.1)).Nodup := by
    have := nodupN_iff hal4.2
    rw [List.filterMap_append, List.nodup_append] at this; exact this.2.1
  obtain ⟨g1, g2, g3, g4⟩ := rdAll_get hrd (dst := dst) (news := news)
  have good4 := rdAll_good hrd
  have goodC := rdAll_good E.rc
  -- the callee's objects are those of its layout
  have tob : ∀ q tl, (L.st e.c e.v).obj q = some tl → ∃ n, (q, n) ∈ L.objs ∧ tl = shapeL (leavesOf L.cs e.c) (leavesOf L.vs e.v) q 0 n := fun q tl h => look_objs h
  have tob' : ∀ {q n}, (q, n) ∈ L.objs → (L.st e.c e.v).obj q = some (shapeL (leavesOf L.cs e.c) (leavesOf L.vs e.v) q 0 n) := fun {q n} hm =>
    look_map_nodup (f := fun p => shapeL (leavesOf L.cs e.c) (leavesOf L.vs e.v) p.1 0 p.2) hnd hm
  have tnone : ∀ q, q ∉ L.objs.map (·.1) → (L.st e.c e.v).obj q = none := fun q hq => by
    cases h : (L.st e.c e.v).obj q with
    | none => rfl
    | some tl => obtain ⟨n, hm, _⟩ := tob q tl h; exact absurd (List.mem_map_of_mem (f := (·.1)) hm) hq
  have shl : ∀ (cl vl : List (Nat × Nat × Leaf)) (q j n : Nat), (shapeL cl vl q j n).length = n := by
    intro cl vl q j n
    induction n generalizing j with
    | zero => rfl
    | succ n ih => simp [shapeL, ih]
  have hlit : ∀ {p : Pl} {sp : Spec}, (p, sp) ∈ told → ∀ q off, sp = .lit (.ptr q off) → (∃ tl, (L.st e.c e.v).obj q = some tl) ∨ q ∈ news.map (·.1) := fun {p sp} hp q off e1 => by
    rcases f7 _ hp q off e1 with h | h
    · obtain ⟨⟨q', n⟩, hm, rfl⟩ := List.mem_map.1 h
      exact .inl ⟨_, tob' hm⟩
    · exact .inr h
  have hnt : ∀ p ∈ news, (L.st e.c e.v).obj p.2.2 = none := fun p hp => tnone _ fun hm => by
    obtain ⟨⟨q', n⟩, hm, e1⟩ := List.mem_map.1 hm
    obtain ⟨ls, hl, _⟩ := objs1_get hobs hm
    have := (f3 p hp).1
    simp only at e1 hl
    rw [← e1, hl] at this; cases this
  have notbas : ∀ {sp : Spec} {x : sp.V} {p : Pl} {bp : AL}, rd1 s4 p sp = some (x, bp) → ∀ nm (q : St) o j, q.res o j (renL news (sp.leaf nm x)) = renL news (sp.leaf nm x) := fun {sp x p bp} hr nm q o j => by
    cases sp with
    | any => rfl
    | d t => rfl
    | h m t => rfl
    | lit l =>
      simp only [rd1] at hr
      split at hr
      · rename_i l' _
        cases he : litEq l l' with
        | false => simp [he] at hr
        | true =>
          cases l <;> simp [litEq] at he <;> try rfl
          simp only [Spec.leaf, renL]
          split <;> rfl
      · cases hr
  have arrAft : ∀ a, (aftO dst L told o news e.b e.st).arr a = (match look (arrsO dst told o) a with | some v => some v | none => (if a ∈ srcs e.b then none else e.st.arr a)) := fun a => by
    have e1 : (aftO dst L told o news e.b e.st).arr a = (match look (arrsO dst told o ++ delAll (srcs e.b) e.st.arrs) a with | some v => some v | none => look e.st.barrs a) := rfl
    rw [e1, look_append, look_delAll]
    cases look (arrsO dst told o) a with
    | some v => rfl
    | none =>
      by_cases hsr : a ∈ srcs e.b
      · have := List.all_eq_true.1 hcons a hsr
        simp only [hsr, if_true]
        simpa using this
      · simp only [hsr, if_false]; rfl
  have atObj : ∀ {q j : Nat} {sl : List Leaf} {a : Leaf}, s4.obj q = some sl → sl[j]? = some a → s4.at (.l q j) = .one (s4.res q j a) := fun {q j sl a} h1 h2 => by simp [St.at, h1, h2]
  refine { n := rfl, reg := fun _ => rfl, bl := rfl, tobj := fun q tl h => ?_, obj := fun q ls' hq => ?_, nfresh := fun q k h => ?_, ninj := fun q q' k h h' => ?_, keepObj := fun q ls h => ?_, bas := fun q j ls lf h1 h2 h3 => ?_, arr := fun a A hA => ?_, ti := fun a a' k h h' => ?_, ki := fun a a' k h h' => ?_, tk := fun a a' k h h' => ?_, fresh := fun a x h => ?_ }
  · obtain ⟨n, hm, _⟩ := tob q tl h
    obtain ⟨ls, hl, _⟩ := objs1_get hobs hm
    obtain ⟨sl, hsl, _⟩ := objs1_get hob4 hm
    exact ⟨lay_low E.lay hm, ⟨ls, hl⟩, sl, hsl⟩
  · rcases haft q with ⟨k, n, hm, e1⟩ | ⟨hqn, ⟨n, ls, hm, hl, e1⟩ | ⟨hqo, e1⟩⟩
    · -- a new object
      rw [e1] at hq
      cases hq
      have hmn : (k, n) ∈ news.map fun p => (p.1, p.2.1) := List.mem_map.2 ⟨(k, n, q), hm, rfl⟩
      obtain ⟨sl, hsl, hslen⟩ := objs1_get hnw4 hmn
      refine .inr (.inr ⟨k, sl, nobjF_of f5 hm, hsl, by rw [newL_length]; exact hslen.symm, fun j l' a h1 h2 G G3 u hX hφ hu => ?_⟩)
      have hj : j < n := by have := (List.getElem?_eq_some_iff.1 h1).1; rwa [newL_length] at this
      rw [newL_get hj, Nat.zero_add] at h1
      simp only [Option.some.injEq] at h1
      cases hlk : lookL (leavesO dst news told o) k j with
      | none => rw [hlk] at h1; simp only at h1; subst h1; trivial
      | some x =>
        rw [hlk] at h1
        simp only at h1
        subst h1
        obtain ⟨sp, y, bp, hp, hr, hsub, rfl⟩ := g1 hlk
        rw [notbas hr]
        exact told_leaf hr hsub hn4 hX hφ f5 hnt (hlit hp) (by rw [atObj hsl h2]; exact hu)
    · -- an object of the callee's
      rw [e1] at hq
      cases hq
      obtain ⟨sl, hsl, hslen⟩ := objs1_get hob4 hm
      obtain ⟨ls2, hl2, hlen⟩ := objs1_get hobs hm
      rw [hl] at hl2
      cases hl2
      simp only at hslen hlen
      refine .inr (.inl ⟨ls, _, sl, hl, tob' hm, hsl, by rw [shl]; exact hlen.symm, by omega, mergeL_length, fun j l' l a h1 h2 h3 => ?_⟩)
      rw [mergeL_get, Nat.zero_add, h2] at h1
      simp only [Option.map_some, Option.some.injEq] at h1
      have hjn : j < n := by have := (List.getElem?_eq_some_iff.1 h2).1; omega
      cases hlk : lookL (leavesO dst news told o) q j with
      | some x =>
        rw [hlk] at h1
        simp only at h1
        subst h1
        obtain ⟨sp, y, bp, hp, hr, hsub, rfl⟩ := g1 hlk
        refine .inr fun G G3 u hX hφ hu => ?_
        rw [notbas hr]
        exact told_leaf hr hsub hn4 hX hφ f5 hnt (hlit hp) (by rw [atObj hsl h3]; exact hu)
      | none =>
        rw [hlk] at h1
        simp only at h1
        cases hc : hasL q j L.cs with
        | true =>
          rw [hc, cond_true] at h1
          subst h1
          obtain ⟨lf, hlf⟩ := look_leaf_of (c := e.c) hc
          refine .inl ⟨?_, ?_, lf, hlf⟩
          · have : ∀ x : Leaf, (aftO dst L told o news e.b e.st).res q j x = e.st.res q j x := fun x => by cases x <;> rfl
            exact this _
          · exact shapeL_get hjn (by rw [Nat.zero_add]; exact hlf)
        | false =>
          rw [hc, cond_false] at h1
          subst h1
          exact .inr fun _ _ _ _ _ _ => trivial
    · exact .inl ⟨tnone q hqo, by rw [← e1]; exact hq⟩
  · obtain ⟨n, hm⟩ := nobjF_mem h
    obtain ⟨h1, h2, h3⟩ := f3 _ hm
    exact ⟨h1, h2, tnone k h3⟩
  · obtain ⟨n, hm⟩ := nobjF_mem h
    obtain ⟨n', hm'⟩ := nobjF_mem h'
    have key : ∀ {news : List (Nat × Nat × Nat)}, (news.map (·.1)).Nodup → (k, n, q) ∈ news → (k, n', q') ∈ news → q = q' := by
      intro news
      induction news with
      | nil => intro _ h; cases h
      | cons p r ih =>
        intro hn h1 h2
        rw [List.map_cons, List.nodup_cons] at hn
        rcases List.mem_cons.1 h1 with h1 | h1 <;> rcases List.mem_cons.1 h2 with h2 | h2
        · rw [← h1] at h2; cases h2; rfl
        · exact absurd (by rw [← h1]; exact List.mem_map_of_mem (f := (·.1)) h2) hn.1
        · exact absurd (by rw [← h2]; exact List.mem_map_of_mem (f := (·.1)) h1) hn.1
        · exact ih hn.2 h1 h2
    exact key f4 hm hm'
  · rcases haft q with ⟨k, n, hm, e1⟩ | ⟨hqn, ⟨n, ls, hm, hl, e1⟩ | ⟨hqo, e1⟩⟩
    · exact ⟨_, e1⟩
    · exact ⟨_, e1⟩
    · exact ⟨ls, by rw [e1]; exact h⟩
  · rcases haft q with ⟨k, n, hm, e1⟩ | ⟨hqn, ⟨n, ls', hm, hl, e1⟩ | ⟨hqo, e1⟩⟩
    · have := (f3 _ hm).1; rw [h1] at this; cases this
    · rw [h1] at hl
      cases hl
      obtain ⟨ls2, hl2, hlen⟩ := objs1_get hobs hm
      rw [h1] at hl2
      cases hl2
      simp only at hlen
      have hjn : j < n := by have := (List.getElem?_eq_some_iff.1 h2).1; omega
      have hc : hasL q j L.cs = true := by
        have := List.all_eq_true.1 (List.all_eq_true.1 hbas _ hm) j (List.mem_range.2 hjn)
        simp only [h1, Option.bind_some, h2, Bool.or_false] at this
        exact this
      have ht : lookL (leavesO dst news told o) q j = none := by
        cases hh : lookL (leavesO dst news told o) q j with
        | none => rfl
        | some x =>
          obtain ⟨sp, hsp⟩ := leavesO_mem hh
          obtain ⟨sc, hsc⟩ := hasL_iff.1 hc
          exact absurd (rfl : (Pl.l q j).key = (Pl.l q j).key) ((f6 (Pl.l q j, sp) hsp q j rfl).1 (Pl.l q j, sc) hsc)
      obtain ⟨lf', hlf'⟩ := look_leaf_of (c := e.c) hc
      refine ⟨_, e1, ?_, .inr ⟨_, lf', tob' hm, shapeL_get hjn (by rw [Nat.zero_add]; exact hlf'), hlf'⟩⟩
      rw [mergeL_get, Nat.zero_add, h2, ht]
      simp [hc]
    · exact ⟨ls, by rw [e1]; exact h1, h2, .inl (tnone q hqo)⟩
  · rw [arrAft] at hA
    cases hlk : look (arrsO dst told o) a with
    | some B =>
      rw [hlk] at hA
      simp only [Option.some.injEq] at hA
      subst hA
      obtain ⟨p, sp, x, bp, hp, hr, hsub, rfl, hspx⟩ := g3 hlk
      obtain ⟨hsh, m, t, rfl⟩ := arr_spec hspx
      have hnl := rd_md hr
      have hmd : B.md = m := by simp only [Spec.arr, Option.some.injEq] at hspx; rw [← hspx]
      have hmem : ∃ src, (p.key, src, B) ∈ bp := by
        simp only [Spec.arr, Option.some.injEq] at hspx
        simp only [rd1] at hr
        split at hr
        · cases hw : m.owns with
          | false => simp [hw] at hr
          | true =>
            simp only [hw, cond_true, Option.some.injEq, Prod.mk.injEq] at hr
            obtain ⟨rfl, rfl⟩ := hr
            exact ⟨none, by rw [← hspx]; exact List.mem_singleton.2 rfl⟩
        · rename_i a' _
          split at hr
          · rename_i A' _
            cases hs : (A'.sh || !m.same A'.md) with
            | true => simp [hs] at hr
            | false =>
              simp only [hs, cond_false] at hr
              split at hr
              · simp only [Option.some.injEq, Prod.mk.injEq] at hr
                obtain ⟨rfl, rfl⟩ := hr
                exact ⟨some a', by rw [← hspx]; exact List.mem_singleton.2 rfl⟩
              · cases hr
          · cases hr
        · cases hr
      obtain ⟨src, hmem⟩ := hmem
      have hb4 := hsub _ hmem
      obtain ⟨_, hgd⟩ := good4 _ _ _ hb4
      cases src with
      | some k => exact .inl ⟨k, toldF_of hn4 hb4, hgd, hsh, fun i o e2 => hnl i o (by rw [← hmd]; exact e2)⟩
      | none => exact .inr (.inl ⟨toldF_of hn4 hb4, hgd.1, hsh, hgd.2⟩)
    | none =>
      rw [hlk] at hA
      simp only at hA
      by_cases hsr : a ∈ srcs e.b
      · simp [hsr] at hA
      · simp only [hsr, if_false] at hA
        have htn : toldF dst b4 a = none := by
          cases ht : toldF dst b4 a with
          | none => rfl
          | some src =>
            obtain ⟨k, A', rfl, hm⟩ := toldF_mem ht
            obtain ⟨B, hB⟩ := g4 hm
            rw [hlk] at hB; cases hB
        cases hk : keepF e.a a with
        | some k =>
          obtain ⟨A', hm⟩ := keepF_mem hk
          obtain ⟨hsh, harr⟩ := goodC _ _ _ hm
          simp only at harr
          rw [entered_arr E, harr] at hA
          cases hA
          obtain ⟨hkp, _⟩ := keepAL_of E.rc hm
          simp only [keepAll, Bool.and_eq_true] at hkeep
          have hfnd := foundAll (v := e.c) (nodupN_iff hkeep.1)
          obtain ⟨_, h4⟩ := keep_good (full := ⟨L.cs, e.c⟩) hbase.2.2.2 hfnd hkeep.2 k (some k) A hkp
          obtain ⟨p, hp, hkk, ⟨m, t, hsp⟩, _⟩ := rdAll_at E.rc k _ A hm
          refine .inr (.inr (.inl ⟨k, htn, rfl, by rw [entered_arr E]; exact harr, h4, hsh, fun i o e2 => ?_⟩))
          -- the mode of a constant is one of those that are handed on
          exact rdAll_md E.rc _ _ _ hm i o e2
        | none =>
          refine .inr (.inr (.inr ⟨htn, rfl, hA, .inr fun nm B h => ?_⟩))
          have hm := look_mem h
          rcases List.mem_append.1 hm with hm | hm
          · exact keepF_none hk _ _ hm
          · exact hsr (List.mem_filterMap.2 ⟨_, hm, rfl⟩)
  · obtain ⟨k1, A1, rfl, hm1⟩ := toldF_mem h
    obtain ⟨k2, A2, rfl, hm2⟩ := toldF_mem h'
    rw [src_inj hs4 hm1 hm2]
  · obtain ⟨A1, hm1⟩ := keepF_mem h
    obtain ⟨A2, hm2⟩ := keepF_mem h'
    have hn : ((e.a ++ e.b).map (·.1)).Nodup := nodupN_iff hal.1
    have e1 := look_of_mem hn (List.mem_append_left e.b hm1)
    have e2 := look_of_mem hn (List.mem_append_left e.b hm2)
    rw [e1] at e2
    simp only [Option.some.injEq, Prod.mk.injEq] at e2
    exact e2.1
  · obtain ⟨k1, A1, rfl, hm1⟩ := toldF_mem h
    obtain ⟨A2, hm2⟩ := keepF_mem h'
    obtain ⟨hk2, _⟩ := keepAL_of E.rc hm2
    have hnd := nodupN_iff hal4.2
    rw [List.filterMap_append, List.nodup_append] at hnd
    exact hnd.2.2 k (List.mem_filterMap.2 ⟨_, hk2, rfl⟩) k (List.mem_filterMap.2 ⟨_, hm1, rfl⟩) rfl
  · obtain ⟨k1, A1, rfl, hm1⟩ := toldF_mem h
    obtain ⟨B, hB⟩ := g4 hm1
    exact (f2 _ (look_mem hB)).2
end
end Go.Fx

/- The framework: functions on objects, called: what the interpreter says of the body holds of the call. -/
namespace Go.Fx
set_option linter.unusedVariables false
set_option linter.unusedSimpArgs false

theorem argRegs_rel {G : Gh} : ∀ {args : List AVal} {vs : List Value} {k i : Nat} {v : AVal}, All2 (RelV G) args vs → look (argRegs k args) i = some v → ∃ j u, i = k + j ∧ vs[j]? = some u ∧ RelV G v u
  | [], [], k, i, v, _, h => by cases h
  | a :: r, u :: us, k, i, v, hr, h => by
    simp only [argRegs, look_cons] at h
    by_cases e : k = i
    · simp only [e, if_true, Option.some.injEq] at h
      subst h
      exact ⟨0, u, by omega, rfl, hr.1⟩
    · simp only [e, if_false] at h
      obtain ⟨j, u', e1, e2, e3⟩ := argRegs_rel hr.2 h
      exact ⟨j + 1, u', by omega, by simpa using e2, e3⟩
  | [], _ :: _, _, _, _, hr, _ => hr.elim
  | _ :: _, [], _, _, _, hr, _ => hr.elim

/-- The memory is the same: other registers. -/
theorem RelM.like {X : Ctx} {st st' : St} {G : Gh} {w : World} (hm : RelM X st G w) (ho : st'.objs = st.objs) (ha : st'.arrs = st.arrs) (hl : st'.bleaves = st.bleaves) (hb : st'.barrs = st.barrs) : RelM X st' G w := by
  obtain ⟨n, regs, objs, arrs, br, bl, ba⟩ := st
  obtain ⟨n', regs', objs', arrs', br', bl', ba'⟩ := st'
  simp only at ho ha hl hb
  subst ho ha hl hb
  have hres : ∀ o j l, (⟨n', regs', objs', arrs', br', bl', ba'⟩ : St).res o j l = (⟨n, regs, objs', arrs', br, bl', ba'⟩ : St).res o j l := fun o j l => by cases l <;> rfl
  have hresl : ∀ o (ls : List Leaf) j, (⟨n', regs', objs', arrs', br', bl', ba'⟩ : St).resl o j ls = (⟨n, regs, objs', arrs', br, bl', ba'⟩ : St).resl o j ls := fun o ls => by
    induction ls with
    | nil => intro j; rfl
    | cons l r ih => intro j; simp only [St.resl, hres, ih]
  exact { sl := hm.sl, sh := hm.sh, ob := fun o ls h => (by obtain ⟨arr, elem, mid, g1, g2, g3⟩ := hm.ob o ls h; exact ⟨arr, elem, mid, g1, g2, by unfold LeavesRel at g3 ⊢; rw [hresl]; exact g3⟩), ar := hm.ar, ah := hm.ah, nd := hm.nd, dis := hm.dis, dS := hm.dS, inn := hm.inn, s0 := hm.s0, sn := hm.sn, fr := hm.fr, sz := hm.sz, os := hm.os, tp := hm.tp, out := hm.out, pin := hm.pin, bv := hm.bv }
def Ctx.bare (X : Ctx) : Ctx := ⟨X.S0, X.own0, X.w0, fun _ => none, (fun _ _ h => (by cases h)), fun _ _ => none, (fun _ _ _ h => (by cases h))⟩
theorem RelM.bare {X : Ctx} {st : St} {G : Gh} {w : World} (hm : RelM X st G w) : RelM X.bare st G w :=
  { sl := hm.sl, sh := hm.sh, ob := hm.ob, ar := hm.ar, ah := hm.ah, nd := hm.nd, dis := hm.dis, dS := hm.dS, inn := hm.inn, s0 := hm.s0, sn := hm.sn, fr := hm.fr, sz := hm.sz, os := hm.os, tp := hm.tp, out := hm.out, pin := fun o p h => (by cases h), bv := fun o j u h => (by cases h) }

/-- What lies in a cell that does not change. -/
theorem bas_rel {X : Ctx} {st : St} {G : Gh} {w : World} (hm : RelM X st G w) {o j : Nat} {ls : List Leaf} {lf : Leaf} (ho : st.obj o = some ls) (hj : ls[j]? = some .bas) (hl : lookL st.bleaves o j = some lf) :
    ∃ arr elem u, w.heap[G.φ o]? = some (.cells arr elem (0, 0)) ∧ arr.toList[(G.pre o).length + j]? = some u ∧ RelL G lf u := by
  obtain ⟨arr, elem, mid, g1, g2, g3⟩ := hm.ob o ls ho
  have hml : mid.length = ls.length := by have := All2.length g3; rw [resl_length] at this; exact this.symm
  have hjl : j < ls.length := (List.getElem?_eq_some_iff.1 hj).1
  have hx : (st.resl o 0 ls)[j]? = some lf := by
    rw [resl_get, hj, Nat.zero_add]; simp [St.res, hl]
  obtain ⟨u, hu, hr⟩ := All2.get g3 hx
  exact ⟨arr, elem, u, g1, by rw [mid_get g2 (by omega)]; exact hu, hr⟩
theorem found_h {full : (ps : Pls) × PV ps} : ∀ {ps : Pls} {v : PV ps} {o j : Nat} {m : Md} {t : Ty}, FoundAll full ps v → (Pl.l o j, Spec.h m t) ∈ ps → lookL (leavesOf full.1 full.2) o j = some (.hdl (Pl.l o j).key)
  | [], v, _, _, _, _, _, h => by cases h
  | (p, sp) :: r, v, o, j, m, t, hf, h => by
    rcases List.mem_cons.1 h with h' | h'
    · simp only [Prod.mk.injEq] at h'
      obtain ⟨rfl, rfl⟩ := h'
      exact hf.1
    · clear h
      cases p <;> exact found_h (ps := r) hf.2.2 h'
theorem dat_S {G G' : Gh} (hS : G'.S = G.S) : ∀ {ls : List Leaf} {vs : List Value}, allDat ls = true → All2 (RelL G) ls vs → All2 (RelL G') ls vs
  | [], [], _, _ => trivial
  | .dat t d :: r, _ :: _, h, hr => ⟨(by obtain ⟨cs, e1, e2⟩ := hr.1; exact ⟨cs, e1, by rw [hS]; exact e2⟩), dat_S hS (ls := r) h hr.2⟩
  | [], _ :: _, _, hr => hr.elim
  | _ :: _, [], _, hr => hr.elim

theorem resAt_ok {G' : Gh} {l : List (Nat × AVal)} {val : Nat → Value} (h : ∀ i av, look l i = some av → (∃ lf, av = .one lf) ∧ RelV G' av (val i)) (i : Nat) : (∃ lf, resAt l i = .one lf) ∧ RelV G' (resAt l i) (val i) := by
  unfold resAt
  cases hl : look l i with
  | none => exact ⟨⟨_, rfl⟩, trivial⟩
  | some av => exact h i av hl
theorem tupOf_ok {G' : Gh} {lf : Leaf} {u : Value} (h : RelL G' lf u) : if (tupOf (.one lf)).1 = true then ∃ cs : List Value, u = .agg cs.toArray ∧ All2 (RelL G') (tupOf (.one lf)).2 cs else ∃ l, (tupOf (.one lf)).2 = [l] ∧ RelL G' l u := by
  cases lf with
  | dat t d =>
    obtain ⟨cs, e1, e2⟩ := h
    by_cases ha : t.agg = true
    · rw [if_pos ha] at e1
      rw [if_pos (show (tupOf (.one (.dat t d))).1 = true from ha)]
      exact ⟨cs, e1, explode_ok e2⟩
    · rw [if_neg ha] at e1
      rw [if_neg (show ¬ (tupOf (.one (.dat t d))).1 = true from ha)]
      cases t <;> simp [Ty.agg] at ha <;> exact ⟨_, rfl, cs, by simpa [Ty.agg] using e1, e2⟩
  | _ => exact ⟨_, rfl, h⟩
theorem resO_ok {G' : Gh} {l : List (Nat × AVal)} {val : Nat → Value} (h : ∀ i av, look l i = some av → (∃ lf, av = .one lf) ∧ RelV G' av (val i)) (res : List Nat) :
    RelV G' (resO l res) (retval (res.map val)) := by
  have hat := resAt_ok h
  have all : ∀ (is : List Nat), All2 (fun (p : Bool × List Leaf) u => if p.1 = true then ∃ cs : List Value, u = .agg cs.toArray ∧ All2 (RelL G') p.2 cs else ∃ l, p.2 = [l] ∧ RelL G' l u) (is.map fun i => tupOf (resAt l i)) (is.map val) := by
    intro is
    induction is with
    | nil => trivial
    | cons i r ih =>
      obtain ⟨⟨lf, e⟩, hr⟩ := hat i
      refine ⟨?_, ih⟩
      have hr' : RelL G' lf (val i) := by rw [e] at hr; exact hr
      have := tupOf_ok hr'
      rw [← e] at this; exact this
  match res with
  | [] => exact ⟨[], rfl, trivial⟩
  | [i] => exact (hat i).2
  | i :: j :: r => exact ⟨_, rfl, all (i :: j :: r)⟩

/-- The results, put where they are told. -/
def putRes (avs : List AVal) (s : St) : St := { s with regs := argRegs 500000 avs }
def resList (n : Nat) : List Nat := (List.range n).map (500000 + ·)
theorem resList_val (vals : List Value) : (resList vals.length).map (fun i => vals.getD (i - 500000) undef) = vals := by
  apply List.ext_getElem?
  intro i
  unfold resList
  rw [List.getElem?_map, List.getElem?_map]
  by_cases h : i < vals.length
  · simp [h]
  · simp [Nat.le_of_not_lt h]
theorem resV_length {E : Env} {st : St} : ∀ {rv : List ResultVar} {avs : List AVal}, resV E st rv = some avs → avs.length = rv.length
  | [], avs, h => by cases h; rfl
  | .tmp t :: r, avs, h => by
    simp only [resV] at h
    split at h
    · rename_i l hl; cases h; simp [resV_length hl]
    · cases h
  | .cell t T :: r, avs, h => by
    simp only [resV] at h
    split at h
    · split at h
      · rename_i v l _ hl; cases h; simp [resV_length hl]
      · cases h
    · cases h

section
variable {P : Program} {E : Env} (hE : EnvOk P E)
include hE

theorem fn_obj {f : FuncId} {fn : Func} {body : Code} {L : Lay} {W : Type} {F : PV L.cs → PV L.vs → Option W} {dk : DkO W} {out : PV L.cs → St → Option W} {pout : PV L.cs → AVal → St → Option W}
    (hf : P.funcs[f]? = some fn) (hb : fn.body = some body) (hcall : ∀ args w, (callFunc f args).run P w = .ok (.enter f args) w) (hL : LoopsOk P E body) (hn : fn.ntmps = L.n)
    (h1 : ∀ c v x, F c v = some x → runC E body (L.st c v) (fun e s => match e with | .normal => out c s | .ret => out c s | _ => none) (pout c) = some x)
    (h2 : ∀ c s x, out c s = some x → ∃ avs told o news, resV E s fn.results.toList = some avs ∧ rndO L (keepAL L.cs c) told news (putRes avs s) = some o ∧ ∀ (R : Type) (f : (told : Pls) → PV told → List (Nat × Nat × Nat) → List Nat → Option R) g, dk R x f g = f told o news (resList fn.results.toList.length))
    (h3 : ∀ c av s x, pout c av s = some x → ∃ T ls, av = .ifc T ls ∧ allDat ls = true ∧ rndO L (keepAL L.cs c) [] [] s = some () ∧ ∀ (R : Type) (f : (told : Pls) → PV told → List (Nat × Nat × Nat) → List Nat → Option R) g, dk R x f g = g T ls) :
    SemOk P E.gt f (semO L F dk) := by
  intro R r X st G w dst args vs K KP hr hg0 hm ha
  simp only [semO] at hr
  cases he : entO L args st with
  | none => rw [he] at hr; cases hr
  | some e =>
    rw [he] at hr
    obtain ⟨s1, s, EN⟩ := entO_ok he
    simp only at hr
    cases hbc : (basIn L e.st && consIn e.b e.st) with
    | false => simp [hbc] at hr
    | true =>
      simp only [hbc, cond_true] at hr
      simp only [Bool.and_eq_true] at hbc
      obtain ⟨x, hx, hr⟩ := Option.bind_eq_some_iff.1 hr
      -- the way in
      have m0 : RelM X (argSt L.n args st) G w := hm.like rfl rfl rfl rfl
      obtain ⟨G1, m1, a1, k1⟩ := shareAll_ok EN.sc m0
      obtain ⟨G2, m2, a2, k2⟩ := shareAll_ok EN.sv m1
      have a02 := a1.trans a2
      have al' := EN.al
      simp only [alOk, Bool.and_eq_true] at al'
      have hnd : ((e.a ++ e.b).map (·.1)).Nodup := nodupN_iff al'.1
      have N := normC_of (L := L) (rdAll_src hnd EN.rc (fun e he => List.mem_append_left _ he)) (rdAll_src hnd EN.rv (fun e he => List.mem_append_right _ he))
        (fun nm src A hmem => by
          rcases List.mem_append.1 hmem with hmem | hmem
          · exact rdAll_good EN.rc nm src A hmem
          · exact rdAll_good EN.rv nm src A hmem) EN.al EN.ob EN.alike.base.1.symm
      have hmt : RelM X.bare (L.st e.c e.v) (G2.ren (e.a ++ e.b)) w := N.ok m2.bare (fun o p h => by cases h) (fun o j u h => by cases h)
      have hmi := hmt.enter
      have me : RelM X e.st G2 w := by
        rw [EN.st']
        have al := EN.alike
        exact m2.like al.objs.symm rfl al.base.2.2.1.symm al.base.2.2.2.symm
      have hg1 : GlobIn E.gt (inCtx (L.st e.c e.v) (G2.ren (e.a ++ e.b)) w).S0 := hg0.mono m2.s0
      have hlen : vs.length = args.length := (All2.length ha).symm
      have hreg : RelR (G2.ren (e.a ++ e.b)) (L.st e.c e.v) { tmps := vs.toArray ++ Array.replicate (fn.ntmps - vs.toArray.size) undef, defers := [] } := by
        refine N.regs m2 ⟨rfl, ?_, fun i v hv => ?_⟩
        · have : s.n = L.n := EN.alike.base.1
          have := EN.len
          simp; omega
        · have e1 : s.reg i = look (argRegs 0 args) i := by
            simp only [St.reg, EN.alike.regs, EN.alike.base.2.1]
            show (match look (argRegs 0 args) i with | some v => some v | none => look [] i) = _
            cases look (argRegs 0 args) i <;> rfl
          rw [e1] at hv
          obtain ⟨j, u, e2, e3, e4⟩ := argRegs_rel ha hv
          have hj : j < vs.length := (List.getElem?_eq_some_iff.1 e3).1
          have e5 : i = j := by omega
          subst e5
          have : (vs.toArray ++ Array.replicate (fn.ntmps - vs.toArray.size) undef).getD i undef = u := by
            rw [Array.getD_eq_getD_getElem?, Array.getElem?_append_left (by simpa using hj)]
            simp [e3]
          rw [this]
          exact e4.sub a02
      have hx1 := h1 e.c e.v x hx
      -- the way back
      have back : ∀ {told : Pls} {o : PV told} {news : List (Nat × Nat × Nat)} {s3 : St} {G3 : Gh} {w' : World}, BaseOf L e.c s3 → RelM (inCtx (L.st e.c e.v) (G2.ren (e.a ++ e.b)) w) s3 G3 w' → rndO L (keepAL L.cs e.c) told news s3 = some o → freshO dst L told o news e.st = true →
          ∃ s4 b4 G4 keep, RelM (inCtx (L.st e.c e.v) (G2.ren (e.a ++ e.b)) w) s4 G4 w' ∧ G3.Sub G4 ∧ Kept s3 s4 ∧ rdAll s4 told = some (o, b4) ∧ (b4.map (·.1)).Nodup ∧ RelM X (aftO dst L told o news e.b e.st) (G2.back G4 (toldF dst b4) keep (nobjF news)) w' ∧
            (∀ act, RelR G st act → RelR (G2.back G4 (toldF dst b4) keep (nobjF news)) (aftO dst L told o news e.b e.st) act) := fun {told o news s3 G3 w'} hbo m3 hrn hfr => by
        unfold rndO at hrn
        split at hrn
        · cases hrn
        · rename_i s4 hs4
          split at hrn
          · cases hrn
          · rename_i o' b4 hrd
            cases hk : (keepAll s4 L.cs && alOk (keepAL L.cs e.c ++ b4) && objs1 L.objs s4 && objs1 (news.map fun p => (p.1, p.2.1)) s4) with
            | false => simp [hk] at hrn
            | true =>
              simp only [hk, cond_true, Option.some.injEq] at hrn
              subst hrn
              simp only [Bool.and_eq_true] at hk
              obtain ⟨⟨⟨q1, q2⟩, q3⟩, q4⟩ := hk
              have hb4 := hbo.base (shareAll_base hs4)
              obtain ⟨G4, m4, a4, k4⟩ := shareAll_ok hs4 m3
              have M := merge_of EN hbc.1 hbc.2 hrd q1 q2 q3 q4 hb4 hfr
              have hn4 : (b4.map (·.1)).Nodup := by
                have := q2
                simp only [alOk, Bool.and_eq_true] at this
                have := nodupN_iff this.1
                rw [List.map_append, List.nodup_append] at this; exact this.2.1
              have hkeep : ∀ a k, keepF e.a a = some k → toldF dst b4 a = none → G4.ψ k = G2.ψ a := fun a k hka _ => by
                obtain ⟨A', hmem⟩ := keepF_mem hka
                obtain ⟨p, hp, ek, ⟨md, t, hsp⟩, hat⟩ := rdAll_at EN.rc k _ A' hmem
                obtain ⟨⟨pl, sp⟩, rfl⟩ : ∃ q, q = p := ⟨p, rfl⟩
                simp only at ek hsp hat
                subst hsp
                cases pl with
                | r i =>
                  have hl := EN.lay
                  simp only [layOk, Bool.and_eq_true, List.all_eq_true] at hl
                  have := hl.2 _ hp
                  simp at this
                | l q j =>
                  have hq := lay_obj EN.lay (List.mem_append_left _ hp) rfl
                  obtain ⟨⟨q', n⟩, hqm, rfl⟩ := List.mem_map.1 hq
                  have hlt := lay_low EN.lay hqm
                  have ho : (L.st e.c e.v).obj q' = some (shapeL (leavesOf L.cs e.c) (leavesOf L.vs e.v) q' 0 n) :=
                    look_map_nodup (f := fun p => shapeL (leavesOf L.cs e.c) (leavesOf L.vs e.v) p.1 0 p.2) (lay_nodup EN.lay) hqm
                  simp only [keepAll, Bool.and_eq_true, List.all_eq_true] at q1
                  have hlf := found_h (foundAll (v := e.c) (nodupN_iff q1.1)) hp
                  have hjn : j < n := by
                    obtain ⟨sl, e1, e2⟩ := objs1_get EN.ob hqm
                    simp only at e1 e2
                    simp only [St.at, e1] at hat
                    cases hj : sl[j]? with
                    | none => rw [hj] at hat; simp at hat
                    | some l => have := (List.getElem?_eq_some_iff.1 hj).1; omega
                  have hjt : (shapeL (leavesOf L.cs e.c) (leavesOf L.vs e.v) q' 0 n)[j]? = some .bas := shapeL_get hjn (by rw [Nat.zero_add]; exact hlf)
                  have h5 := q1.2 _ hp
                  simp only [keep1, Bool.and_eq_true] at h5
                  have h6 := h5.1
                  split at h6
                  · rename_i ls4 e4
                    split at h6
                    · rename_i hls
                      obtain ⟨arr, elem, u, b1, b2, b3⟩ := inCtx_bv hmt hlt ho hlf hjt
                      obtain ⟨arr', elem', u', b4', b5, b6⟩ := bas_rel hmt ho hjt hlf
                      rw [b1] at b4'
                      simp only [Option.some.injEq, Obj.cells.injEq] at b4'
                      obtain ⟨rfl, _⟩ := b4'
                      rw [b2] at b5
                      cases b5
                      obtain ⟨_, _, arr2, elem2, c1, c2⟩ := m4.bv _ _ _ b3
                      have hlf4 : lookL s4.bleaves q' j = some (.hdl (Pl.l q' j).key) := by rw [hb4.2.2.1]; exact hlf
                      obtain ⟨arr3, elem3, u3, d1, d2, d3⟩ := bas_rel m4 e4 hls hlf4
                      rw [c1] at d1
                      simp only [Option.some.injEq, Obj.cells.injEq] at d1
                      obtain ⟨rfl, _⟩ := d1
                      rw [c2] at d2
                      cases d2
                      have f1 : u = G4.ψ (Pl.l q' j).key := d3
                      have f2 : u = (G2.ren (e.a ++ e.b)).ψ (Pl.l q' j).key := b6
                      have f3 : look (e.a ++ e.b) (Pl.l q' j).key = some (some a, A') := look_of_mem hnd (List.mem_append_left _ (by rw [← ek]; exact hmem))
                      rw [ek, ← f1, f2]
                      simp only [Gh.ren, f3]
                    · cases h6
                  · cases h6
              have hown : ∀ x b, Owns (G2.ren (e.a ++ e.b)) (L.st e.c e.v) x b → ∃ x', Owns G2 e.st x' b ∧ ((∃ o, x = (false, o) ∧ x' = (false, o)) ∨ ∃ nm a A, x = (true, nm) ∧ x' = (true, a) ∧ look (e.a ++ e.b) nm = some (some a, A)) := fun x b hx => by
                obtain ⟨x', h1, h2⟩ := N.own x b hx
                refine ⟨x', ?_, h2⟩
                obtain ⟨kd, nn⟩ := x'
                cases kd with
                | false => obtain ⟨⟨ls, hl⟩, e⟩ := h1; exact ⟨⟨ls, by rw [entered_obj EN]; exact hl⟩, e⟩
                | true => obtain ⟨⟨A, hA, hs⟩, e⟩ := h1; exact ⟨⟨A, by rw [entered_arr EN]; exact hA, hs⟩, e⟩
              have m5 := M.ok me hown hmt m4 hkeep
              refine ⟨s4, b4, G4, _, m4, a4, k4, hrd, hn4, m5, fun act ra => M.regs m4.s0 ?_⟩
              refine ra.sub a02 ?_ fun i => ?_ <;> rw [EN.st']
              rfl
      -- the ways out
      have hret : ∀ s3 G3 w' act, BaseOf L e.c s3 → RelM (inCtx (L.st e.c e.v) (G2.ren (e.a ++ e.b)) w) s3 G3 w' → RelR G3 s3 act → out e.c s3 = some x → act.defers = [] ∧ ∃ v, (results fn act.tmps).run P w' = .ok v w' ∧
          ∃ av st' G', RelM X st' G' w' ∧ (∀ act, RelR G st act → RelR G' st' act) ∧ RelV G' av v ∧ K av st' = some r := fun s3 G3 w' act hbo m3 r3 ho => by
        refine ⟨r3.1, ?_⟩
        obtain ⟨avs, told, o, news, g0, g1, g3⟩ := h2 _ _ _ ho
        rw [g3] at hr
        cases hfr : freshO dst L told o news e.st with
        | false => simp [hfr] at hr
        | true =>
          simp only [hfr, cond_true] at hr
          obtain ⟨vals, hrun, hav⟩ := run_results hE.tab m3 r3 g0
          obtain ⟨s4, b4, G4, keep, m4, a4, k4, hrd, hn4, m5, rg⟩ := back (s3 := putRes avs s3) ⟨hbo.1, hbo.2.1, hbo.2.2.1, hbo.2.2.2⟩ (m3.like rfl rfl rfl rfl) g1 hfr
          refine ⟨_, hrun, _, _, _, m5, rg, ?_, hr⟩
          obtain ⟨f1, f2, f3, f4, f5, f6, f7⟩ := fresh_parts hfr
          have hvl : vals.length = fn.results.toList.length := by rw [← All2.length hav, resV_length g0]
          rw [← hvl]
          conv => arg 3; rw [← resList_val vals]
          refine resO_ok (fun i av hl => ?_) _
          obtain ⟨sp, x', bp, e1, e2, e3, rfl⟩ := (rdAll_get hrd (dst := dst) (news := news)).2.1 hl
          refine ⟨⟨_, rfl⟩, ?_⟩
          refine told_leaf (t := L.st e.c e.v) (p := .r i) e2 e3 hn4 ⟨_, _, m4⟩ (fun q tl hq => ?_) f5 (fun p hp => ?_) (fun q off hs => ?_) ?_
          · obtain ⟨n, hqm, _⟩ := look_objs hq
            have := (m4.pin q _ (inCtx_pin (lay_low EN.lay hqm) hq)).2
            simp only [Prod.mk.injEq] at this
            exact ⟨this.1.symm, this.2.1.symm⟩
          · cases ht : (L.st e.c e.v).obj p.2.2 with
            | none => rfl
            | some tl =>
              obtain ⟨n, hqm, _⟩ := look_objs ht
              obtain ⟨ls, hls, _⟩ := objs1_get (entered_objs EN) hqm
              rw [(f3 p hp).1] at hls; cases hls
          · refine (f7 _ e1 q off hs).imp (fun hq => ?_) id
            exact look_map_some (f := fun p => shapeL (leavesOf L.cs e.c) (leavesOf L.vs e.v) p.1 0 p.2) hq
          · show RelV G4 (s4.regD i) _
            unfold St.regD
            cases hs : s4.reg i with
            | none => trivial
            | some v =>
              rw [k4.reg] at hs
              have hs' : look (argRegs 500000 avs) i = some v := by
                have hbr : s3.bregs = [] := by
                  rw [hbo.2.1]
                  have hl := EN.lay
                  simp only [layOk, Bool.and_eq_true, List.all_eq_true] at hl
                  have key : ∀ {cs : Pls} {c : PV cs}, (∀ p ∈ cs, (match p.1 with | .r _ => false | _ => true) = true) → regsOf cs c = [] := by
                    intro cs
                    induction cs with
                    | nil => intro c _; rfl
                    | cons p r ih =>
                      intro c h
                      obtain ⟨pl, sp⟩ := p
                      cases pl with
                      | r i => have := h _ (List.mem_cons_self ..); simp at this
                      | l o j => exact ih fun p hp => h p (List.mem_cons_of_mem _ hp)
                  exact key hl.2
                have : (putRes avs s3).reg i = (match look (argRegs 500000 avs) i with | some v => some v | none => look s3.bregs i) := rfl
                rw [this, hbr] at hs
                cases hq : look (argRegs 500000 avs) i with
                | some u => rw [hq] at hs; exact hs
                | none => rw [hq] at hs; cases hs
              obtain ⟨j, u, q1, q2, q3⟩ := argRegs_rel hav hs'
              have : vals.getD (i - 500000) undef = u := by
                rw [q1, Nat.add_sub_cancel_left, List.getD_eq_getElem?_getD, q2]; rfl
              rw [this]
              exact q3.sub a4
      have hpan : ∀ av u s3 G3 w', BaseOf L e.c s3 → RelM (inCtx (L.st e.c e.v) (G2.ren (e.a ++ e.b)) w) s3 G3 w' → RelV G3 av u → pout e.c av s3 = some x → ∃ av st' G', RelM X st' G' w' ∧ RelV G' av u ∧ KP av st' = some r := fun av u s3 G3 w' hbo m3 hv ho => by
        obtain ⟨T, ls, rfl, hd, g1, g2⟩ := h3 _ _ _ _ ho
        rw [g2] at hr
        obtain ⟨s4, b4, G4, keep, m4, a4, k4, hrd, hn4, m5, rg⟩ := back hbo m3 g1 (by simp [freshO, arrsO, nodupN])
        refine ⟨_, _, _, m5, ?_, hr⟩
        obtain ⟨x', cs, e1, e2, e3⟩ := hv
        exact ⟨x', cs, e1, e2, dat_S (G := G4) (G' := G2.back G4 (toldF dst b4) keep (nobjF [])) rfl hd (sub_allDat a4 e3)⟩
      refine ⟨hcall _ _, calls_of_wp hf hb ?_⟩
      have hx1 := (runC_cong hE.cong hE.lcong body (K' := fun e' s => gd L e.c s (match e' with | .normal => out e.c s | .ret => out e.c s | _ => none))
        (KP' := fun av s => gd L e.c s (pout e.c av s)) (fun e s hs => (gd_pos ⟨hs.1.symm, hs.2.1, hs.2.2.1, hs.2.2.2⟩).symm) (fun av s hs => (gd_pos ⟨hs.1.symm, hs.2.1, hs.2.2.1, hs.2.2.2⟩).symm)).symm.trans hx1
      refine runC_ok hE hg1 body hL hx1 hmi hreg (fun e s G3 w' act m3 r3 hk => ?_) (fun av v s G3 w' act m3 r3 hv hk => ?_)
      · obtain ⟨hbo, hk⟩ := gd_some hk
        cases e with
        | normal => exact hret s G3 w' act hbo m3 r3 hk
        | ret => exact hret s G3 w' act hbo m3 r3 hk
        | _ => cases hk
      · obtain ⟨hbo, hk⟩ := gd_some hk
        obtain ⟨av', st', G', q1, q2, q3⟩ := hpan av v s G3 w' hbo m3 hv hk
        exact ⟨r3, _, rfl, av', st', G', q1, q2, q3⟩
end
end Go.Fx
