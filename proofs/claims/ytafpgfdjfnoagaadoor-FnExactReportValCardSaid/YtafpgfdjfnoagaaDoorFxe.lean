/- Parts: Fx48. -/
import Derived.Test.YtafpgfdjfnoagaaDoorFxd
/- The framework: functions and loops with their ways out in a list; environments in lists. -/
namespace Go.Fx
set_option linter.unusedVariables false
set_option linter.unusedSimpArgs false

/-! ### Types of the program -/
def tdChk : TD → TypeDesc → Bool
  | .int k, .int k' => decide (k = k')
  | .bool, .bool => true
  | .str, .string => true
  | .slice e, .slice e' => Nat.beq e e'
  | .struct fs, .struct fields => decide (fs = fields.toList.map fun f => (f.offset, f.type))
  | .ptr e, .pointer e' => Nat.beq e e'
  | .arr n e, .array n' e' => Nat.beq n n' && Nat.beq e e'
  | .other, d => !d.isRow && (match d with | .int _ => false | .string => false | .slice _ => false | _ => true)
  | _, _ => false
theorem tdChk_ok {x : TD} {d : TypeDesc} (h : tdChk x d = true) : TDok x d := by
  cases x <;> cases d <;> simp_all [tdChk, TDok]
  all_goals first | exact Nat.eq_of_beq_eq_true h | exact ⟨Nat.eq_of_beq_eq_true h.1, Nat.eq_of_beq_eq_true h.2⟩ | skip
def kdEq : Kd → Kd → Bool
  | .int k, .int k' => decide (k = k')
  | .bool, .bool => true
  | .str, .str => true
  | _, _ => false
def kdsEq : List Kd → List Kd → Bool
  | [], [] => true
  | a :: r, b :: s => kdEq a b && kdsEq r s
  | _, _ => false
theorem kdsEq_ok : ∀ {a b : List Kd}, kdsEq a b = true → a = b
  | [], [], _ => rfl
  | x :: r, y :: s, h => by
    simp only [kdsEq, Bool.and_eq_true] at h
    rw [kdsEq_ok h.2]
    have := h.1
    cases x <;> cases y <;> simp_all [kdEq]
  | [], _ :: _, h => by cases h
  | _ :: _, [], h => by cases h
def eqOk (P : Program) (t : TypeId) (ti : TI) : Bool :=
  match ti.desc.agg, ti.ty.bind kindsT with
  | true, some ks => (match eqChk P 6 t with | some l => kdsEq l ks | none => false)
  | _, _ => true
theorem ti_of {P : Program} {t : TypeId} {i : TypeInfo} {d : TypeDesc} {ti : TI} (h1 : P.info? t = some i) (h2 : P.underlying t = some d) (h3 : i.zero.isSome = true) (h4 : (i.zero.getD undef).cells.toList = ti.zero)
    (h5 : (tdChk ti.desc d && Nat.beq i.size ti.size && Nat.beq i.bytes ti.bytes && (ti.desc.agg || Nat.beq ti.size 1) && Nat.beq ti.zero.length ti.size) = true) (h6 : eqOk P t ti = true) : TIok P t ti := by
  simp only [Bool.and_eq_true, Bool.or_eq_true] at h5
  obtain ⟨⟨⟨⟨a, b⟩, c⟩, e⟩, f⟩ := h5
  refine ⟨i, d, i.zero.getD undef, h1, h2, Nat.eq_of_beq_eq_true b, Nat.eq_of_beq_eq_true c, ?_, h4, tdChk_ok a, fun hn => ?_, Nat.eq_of_beq_eq_true f, fun ks h7 h8 => ?_⟩
  · cases hz : i.zero with
    | none => rw [hz] at h3; cases h3
    | some z => rfl
  · rcases e with e | e
    · rw [hn] at e; cases e
    · exact Nat.eq_of_beq_eq_true e
  · unfold eqOk at h6
    rw [h7, h8] at h6
    simp only at h6
    split at h6
    · rename_i l hl; rw [hl, kdsEq_ok h6]
    · cases h6
def TabL (P : Program) : List (Nat × TI) → Prop
  | [] => True
  | p :: r => TIok P p.1 p.2 ∧ TabL P r
theorem tabL_ok {P : Program} : ∀ {l : List (Nat × TI)}, TabL P l → TabOk P (look l)
  | [], _, t, ti, h => by cases h
  | p :: r, hl, t, ti, h => by
    obtain ⟨k, v⟩ := p
    rw [look_cons] at h
    by_cases e : k = t
    · subst e; simp only [if_true, Option.some.injEq] at h; subst h; exact hl.1
    · simp only [e, if_false] at h; exact tabL_ok hl.2 t ti h

/-! ### Environments -/
def look1 {α : Type 1} : List (Nat × α) → Nat → Option α
  | [], _ => none
  | (k, v) :: r, i => bif Nat.beq k i then some v else look1 r i
theorem look1_mem {α : Type 1} : ∀ {l : List (Nat × α)} {k : Nat} {v : α}, look1 l k = some v → (k, v) ∈ l
  | (k', v') :: r, k, v, h => by
    simp only [look1] at h
    cases hb : Nat.beq k' k with
    | true =>
      simp only [hb, cond_true, Option.some.injEq] at h
      obtain rfl := Nat.eq_of_beq_eq_true hb
      subst h; exact List.mem_cons_self ..
    | false => simp only [hb, cond_false] at h; exact List.mem_cons_of_mem _ (look1_mem h)
structure Good (P : Program) (gt : Nat → Option GA) (f : FuncId) (s : CSem) : Prop where
  ok : SemOk P gt f s
  det : SemDet s
  cong : SemCong s
def Goods (P : Program) (gt : Nat → Option GA) : List (Nat × CSem) → Prop
  | [] => True
  | p :: r => Good P gt p.1 p.2 ∧ Goods P gt r
theorem Goods.mem {P : Program} {gt : Nat → Option GA} : ∀ {l : List (Nat × CSem)}, Goods P gt l → ∀ p ∈ l, Good P gt p.1 p.2
  | [], _, _, h => by cases h
  | q :: r, hl, p, h => by
    rcases List.mem_cons.1 h with rfl | h
    · exact hl.1
    · exact hl.2.mem p h
def Congs : List (Nat × LoopSem) → Prop
  | [] => True
  | p :: r => LoopCong p.2 ∧ Congs r
theorem Congs.mem : ∀ {l : List (Nat × LoopSem)}, Congs l → ∀ p ∈ l, LoopCong p.2
  | [], _, _, h => by cases h
  | q :: r, hl, p, h => by
    rcases List.mem_cons.1 h with rfl | h
    · exact hl.1
    · exact hl.2.mem p h
def envOf (gt : Nat → Option GA) (tab : List (Nat × TI)) (sems : List (Nat × CSem)) (loops : List (Nat × LoopSem)) (on : List (Nat × Nat)) : Env :=
  ⟨gt, look tab, look1 sems, look1 loops, fun n => match look on n with | some o => o | none => n + 10000⟩
theorem env_ok {P : Program} {gt : Nat → Option GA} {tab : List (Nat × TI)} {sems : List (Nat × CSem)} {loops : List (Nat × LoopSem)} {on : List (Nat × Nat)} (hmix : P.follows .mixedOrders = true) (ht : TabL P tab) (hs : Goods P gt sems) (hl : Congs loops) : EnvOk P (envOf gt tab sems loops on) :=
  ⟨tabL_ok ht, hmix, fun f s h => (hs.mem _ (look1_mem h)).ok, fun f s h => (hs.mem _ (look1_mem h)).det, fun f s h => (hs.mem _ (look1_mem h)).cong, fun i L h => hl.mem _ (look1_mem h)⟩

/-! ### Ways out, in a list -/
def tysP : Pls → List Ty
  | [] => []
  | (_, .d t) :: r => t :: tysP r
  | (_, .h _ t) :: r => .slice t :: tysP r
  | (_, .any) :: r => tysP r
  | (_, .lit _) :: r => tysP r
def ofPV : (ps : Pls) → PV ps → DL (tysP ps)
  | [], _ => ()
  | (_, .d _) :: r, v => (v.1, ofPV r v.2)
  | (_, .h _ _) :: r, v => (v.1, ofPV r v.2)
  | (_, .any) :: r, v => ofPV r v.2
  | (_, .lit _) :: r, v => ofPV r v.2
def toPV : (ps : Pls) → DL (tysP ps) → PV ps
  | [], _ => ()
  | (_, .d _) :: r, v => (v.1, toPV r v.2)
  | (_, .h _ _) :: r, v => (v.1, toPV r v.2)
  | (_, .any) :: r, v => ((), toPV r v)
  | (_, .lit _) :: r, v => ((), toPV r v)
theorem to_of : ∀ {ps : Pls} {v : PV ps}, toPV ps (ofPV ps v) = v
  | [], _ => rfl
  | (_, .d _) :: r, v => by show (v.1, toPV r (ofPV r v.2)) = v; rw [to_of]
  | (_, .h _ _) :: r, v => by show (v.1, toPV r (ofPV r v.2)) = v; rw [to_of]
  | (_, .any) :: r, v => by show ((), toPV r (ofPV r v.2)) = v; rw [to_of]
  | (_, .lit _) :: r, v => by show ((), toPV r (ofPV r v.2)) = v; rw [to_of]
def getLs : (ts : List Ty) → List Leaf → Option (DL ts)
  | [], [] => some ()
  | t :: ts, .dat u d :: r => (match cast? u t d, getLs ts r with | some x, some y => some (x, y) | _, _ => none)
  | _, _ => none
def datL : (ts : List Ty) → DL ts → List Leaf
  | [], _ => []
  | t :: r, d => .dat t d.1 :: datL r d.2
theorem getLs_ok : ∀ {ts : List Ty} {ls : List Leaf} {d : DL ts}, getLs ts ls = some d → allDat ls = true ∧ datL ts d = ls
  | [], [], _, _ => ⟨rfl, rfl⟩
  | t :: ts, .dat u x :: r, d, h => by
    simp only [getLs] at h
    split at h
    · rename_i x' y h1 h2
      simp only [Option.some.injEq] at h
      subst h
      obtain ⟨e1, e2⟩ := getLs_ok h2
      obtain ⟨rfl, rfl⟩ := cast?_some h1
      exact ⟨e1, by simp [datL, e2]⟩
    · cases h
  | [], _ :: _, _, h => by cases h
  | _ :: _, [], _, h => by cases h
  | _ :: _, .any :: _, _, h => by cases h
  | _ :: _, .und :: _, _, h => by cases h
  | _ :: _, .bas :: _, _, h => by cases h
  | _ :: _, .nil :: _, _, h => by cases h
  | _ :: _, .nilp :: _, _, h => by cases h
  | _ :: _, .hdl _ :: _, _, h => by cases h
  | _ :: _, .ptr _ _ :: _, _, h => by cases h
  | _ :: _, .elt _ _ _ _ :: _, _, h => by cases h
  | _ :: _, .she _ _ _ :: _, _, h => by cases h
  | _ :: _, .fn _ :: _, _, h => by cases h
  | _ :: _, .ga _ _ :: _, _, h => by cases h

/-- A way out of a function: it returns, or it panics. -/
inductive VO where
  | ret (told : Pls) (news : List (Nat × Nat × Nat)) | pan (T : TypeId) (ts : List Ty)
def VO.tys : VO → List Ty
  | .ret told _ => tysP told
  | .pan _ ts => ts
@[reducible] def WO : List VO → Type
  | [] => Empty
  | [v] => DL v.tys
  | v :: u :: r => DL v.tys ⊕ WO (u :: r)
def VO.out (L : Lay) (al : AL) (s : St) : (v : VO) → Option (DL v.tys)
  | .ret told news => (rndO L al told news s).map (ofPV told)
  | .pan _ _ => none
def VO.pout (L : Lay) (al : AL) (av : AVal) (s : St) : (v : VO) → Option (DL v.tys)
  | .ret _ _ => none
  | .pan T ts => (match av with
    | .ifc T' ls => (bif Nat.beq T T' then (match rndO L al [] [] s with | some _ => getLs ts ls | none => none) else none)
    | _ => none)
def VO.dk (res : List Nat) {R : Type} : (v : VO) → DL v.tys → ((told : Pls) → PV told → List (Nat × Nat × Nat) → List Nat → Option R) → (TypeId → List Leaf → Option R) → Option R
  | .ret told news, d, f, _ => f told (toPV told d) news res
  | .pan T ts, d, _, g => g T (datL ts d)
def outV (L : Lay) (al : AL) (s : St) : (vs : List VO) → Option (WO vs)
  | [] => none
  | [v] => v.out L al s
  | v :: u :: r => (match v.out L al s with | some o => some (.inl o) | none => (outV L al s (u :: r)).map .inr)
def poutV (L : Lay) (al : AL) (av : AVal) (s : St) : (vs : List VO) → Option (WO vs)
  | [] => none
  | [v] => v.pout L al av s
  | v :: u :: r => (match v.pout L al av s with | some o => some (.inl o) | none => (poutV L al av s (u :: r)).map .inr)
def dkV (res : List Nat) : (vs : List VO) → DkO (WO vs)
  | [] => fun _ x _ _ => x.elim
  | [v] => fun _ x f g => v.dk res x f g
  | v :: u :: r => fun R x f g => (match x with | .inl o => v.dk res o f g | .inr y => dkV res (u :: r) R y f g)
theorem vdk_ok (res : List Nat) (v : VO) (d : DL v.tys) : (∃ told o news res', ∀ (R : Type) (f : (told : Pls) → PV told → List (Nat × Nat × Nat) → List Nat → Option R) g, v.dk res d f g = f told o news res') ∨
    ∃ T ls, ∀ (R : Type) (f : (told : Pls) → PV told → List (Nat × Nat × Nat) → List Nat → Option R) g, v.dk res d f g = g T ls := by
  cases v with
  | ret told news => exact .inl ⟨_, _, _, _, fun _ _ _ => rfl⟩
  | pan T ts => exact .inr ⟨_, _, fun _ _ _ => rfl⟩
theorem dkV_ok (res : List Nat) : ∀ (vs : List VO), DkOk (dkV res vs)
  | [], x => x.elim
  | [v], x => vdk_ok res v x
  | v :: u :: r, .inl d => vdk_ok res v d
  | v :: u :: r, .inr y => dkV_ok res (u :: r) y
theorem vout_ok {L : Lay} {al : AL} {s : St} {res : List Nat} {v : VO} {x : DL v.tys} (h : v.out L al s = some x) :
    ∃ told o news, rndO L al told news s = some o ∧ ∀ (R : Type) (f : (told : Pls) → PV told → List (Nat × Nat × Nat) → List Nat → Option R) g, v.dk res x f g = f told o news res := by
  cases v with
  | ret told news =>
    obtain ⟨o, h1, rfl⟩ := Option.map_eq_some_iff.1 h
    exact ⟨told, o, news, h1, fun R f g => by simp only [VO.dk, to_of]⟩
  | pan T ts => cases h
theorem outV_ok {L : Lay} {al : AL} {s : St} {res : List Nat} : ∀ {vs : List VO} {x : WO vs}, outV L al s vs = some x →
    ∃ told o news, rndO L al told news s = some o ∧ ∀ (R : Type) (f : (told : Pls) → PV told → List (Nat × Nat × Nat) → List Nat → Option R) g, dkV res vs R x f g = f told o news res
  | [], x, h => by cases h
  | [v], x, h => vout_ok h
  | v :: u :: r, x, h => by
    simp only [outV] at h
    split at h
    · rename_i o ho
      simp only [Option.some.injEq] at h
      subst h
      exact vout_ok ho
    · obtain ⟨y, h1, rfl⟩ := Option.map_eq_some_iff.1 h
      exact outV_ok (vs := u :: r) h1
theorem vpout_ok {L : Lay} {al : AL} {s : St} {av : AVal} {res : List Nat} {v : VO} {x : DL v.tys} (h : v.pout L al av s = some x) :
    ∃ T ls, av = .ifc T ls ∧ allDat ls = true ∧ rndO L al [] [] s = some () ∧ ∀ (R : Type) (f : (told : Pls) → PV told → List (Nat × Nat × Nat) → List Nat → Option R) g, v.dk res x f g = g T ls := by
  cases v with
  | ret told news => cases h
  | pan T ts =>
    simp only [VO.pout] at h
    split at h
    · rename_i T' ls
      cases hb : Nat.beq T T' with
      | false => simp [hb] at h
      | true =>
        simp only [hb, cond_true] at h
        obtain rfl := Nat.eq_of_beq_eq_true hb
        split at h
        · rename_i u hu
          obtain ⟨e1, e2⟩ := getLs_ok h
          exact ⟨T, ls, rfl, e1, hu, fun R f g => by simp only [VO.dk, e2]⟩
        · cases h
    · cases h
theorem poutV_ok {L : Lay} {al : AL} {s : St} {av : AVal} {res : List Nat} : ∀ {vs : List VO} {x : WO vs}, poutV L al av s vs = some x →
    ∃ T ls, av = .ifc T ls ∧ allDat ls = true ∧ rndO L al [] [] s = some () ∧ ∀ (R : Type) (f : (told : Pls) → PV told → List (Nat × Nat × Nat) → List Nat → Option R) g, dkV res vs R x f g = g T ls
  | [], x, h => by cases h
  | [v], x, h => vpout_ok h
  | v :: u :: r, x, h => by
    simp only [poutV] at h
    split at h
    · rename_i o ho
      simp only [Option.some.injEq] at h
      subst h
      exact vpout_ok ho
    · obtain ⟨y, h1, rfl⟩ := Option.map_eq_some_iff.1 h
      exact poutV_ok (vs := u :: r) h1

def bodyOf (f : Func) : Code := f.body.getD .skip
/-- What is done at the ways out of a function's body. -/
def kO1 (E : Env) (rv : List ResultVar) (L : Lay) (vs : List VO) (c : PV L.cs) (s : St) : Option (WO vs) :=
  match resV E s rv with
  | some avs => outV L (keepAL L.cs c) (putRes avs s) vs
  | none => none
def kO (E : Env) (rv : List ResultVar) (L : Lay) (vs : List VO) (c : PV L.cs) (e : Exit) (s : St) : Option (WO vs) :=
  match e with
  | .normal => kO1 E rv L vs c s
  | .ret => kO1 E rv L vs c s
  | _ => none
def kP (L : Lay) (vs : List VO) (c : PV L.cs) (av : AVal) (s : St) : Option (WO vs) := poutV L (keepAL L.cs c) av s vs

theorem good_obj {P : Program} {E : Env} (hE : EnvOk P E) {f : FuncId} {fn : Func} {L : Lay} {vs : List VO} {res : List Nat} {F : PV L.cs → PV L.vs → Option (WO vs)}
    (hf : P.funcs[f]? = some fn) (hcall : ∀ args w, (callFunc f args).run P w = .ok (.enter f args) w) (hb : fn.body.isSome = true) (hL : LoopsOk P E (bodyOf fn)) (hn : Nat.beq fn.ntmps L.n = true) (hres : resList fn.results.toList.length = res)
    (h : ∀ c v, F c v = runC E (bodyOf fn) (L.st c v) (kO E fn.results.toList L vs c) (kP L vs c)) : Good P E.gt f (semO L F (dkV res vs)) := by
  have hbody : fn.body = some (bodyOf fn) := by
    unfold bodyOf
    cases hh : fn.body with
    | none => rw [hh] at hb; cases hb
    | some b => rfl
  refine ⟨fn_obj hE hf hbody hcall hL (Nat.eq_of_beq_eq_true hn) (out := fun c s => kO1 E fn.results.toList L vs c s) (pout := kP L vs) (fun c v x hx => ?_) (fun c s x hx => ?_) (fun c av s x hx => poutV_ok hx), semO_det _ _ _ (dkV_ok res vs), semO_cong _ _ _ (dkV_ok res vs)⟩
  · rw [← hx, h]
    rfl
  · simp only [kO1] at hx
    split at hx
    · rename_i avs hav
      obtain ⟨told, o, news, g1, g2⟩ := outV_ok (res := res) hx
      exact ⟨avs, told, o, news, hav, g1, by rw [hres]; exact g2⟩
    · cases hx
/-- With no fuel a function comes to nothing. -/
theorem good_none {P : Program} {gt : Nat → Option GA} {f : FuncId} {L : Lay} {vs : List VO} {res : List Nat} {F : PV L.cs → PV L.vs → Option (WO vs)} (h : ∀ c v, F c v = none) : Good P gt f (semO L F (dkV res vs)) := by
  refine ⟨fun {R r X st G w dst args us K KP} hr _ _ _ => ?_, semO_det _ _ _ (dkV_ok res vs), semO_cong _ _ _ (dkV_ok res vs)⟩
  simp only [semO] at hr
  split at hr
  · cases hr
  · rw [h] at hr
    rename_i e _
    cases hb : (basIn L e.st && consIn e.b e.st) <;> simp [hb] at hr

/-! ### Functions on data -/
def kD (E : Env) (rv : List ResultVar) (rs : List Ty) (e : Exit) (s : St) : Option (DL rs) :=
  match e with
  | .normal => retD E rv rs s
  | .ret => retD E rv rs s
  | _ => none
theorem good_data {P : Program} {E : Env} (hE : EnvOk P E) {f : FuncId} {fn : Func} {ts rs : List Ty} {F : DL ts → Option (DL rs)}
    (hf : P.funcs[f]? = some fn) (hcall : ∀ args w, (callFunc f args).run P w = .ok (.enter f args) w) (hb : fn.body.isSome = true) (hL : LoopsOk P E (bodyOf fn)) (hn : Nat.ble ts.length fn.ntmps = true)
    (h : ∀ d, F d = runC E (bodyOf fn) (stD fn.ntmps ts d) (kD E fn.results.toList rs) (fun _ _ => none)) : Good P E.gt f (semD ts rs F id) := by
  have hbody : fn.body = some (bodyOf fn) := by
    unfold bodyOf
    cases hh : fn.body with
    | none => rw [hh] at hb; cases hb
    | some b => rfl
  refine ⟨fn_data hE (pack := id) (fun r => rfl) hf hbody hcall hL (Nat.le_of_ble_eq_true hn) fun d => ?_, semD_det _ _ _ _, semD_cong _ _ _ _⟩
  rw [h]
  congr 1
  funext e s
  cases e <;> simp [kD]
theorem good_noneD {P : Program} {gt : Nat → Option GA} {f : FuncId} {ts rs : List Ty} {F : DL ts → Option (DL rs)} (h : ∀ d, F d = none) : Good P gt f (semD ts rs F id) := by
  refine ⟨fun {R r X st G w dst args us K KP} hr _ _ _ => ?_, semD_det _ _ _ _, semD_cong _ _ _ _⟩
  simp only [semD] at hr
  split at hr
  · split at hr
    · rw [h] at hr; cases hr
    · cases hr
  · cases hr

/-! ### Loops and regions -/
/-- A way out of a loop. -/
inductive VL where
  | ex (e : Exit) (told : Pls) | pan (T : TypeId) (ts : List Ty)
def exEq : Exit → Exit → Bool
  | .normal, .normal => true
  | .ret, .ret => true
  | .exit i, .exit j => Nat.beq i j
  | _, _ => false
theorem exEq_ok {e e' : Exit} (h : exEq e e' = true) : e = e' := by
  cases e <;> cases e' <;> simp_all [exEq]
def VL.tys : VL → List Ty
  | .ex _ told => tysP told
  | .pan _ ts => ts
@[reducible] def WL : List VL → Type
  | [] => Empty
  | [v] => DL v.tys
  | v :: u :: r => DL v.tys ⊕ WL (u :: r)
def VL.out (L : Lay) (al : AL) (e : Exit) (s : St) : (v : VL) → Option (DL v.tys)
  | .ex e' told => bif exEq e e' then (rnd (L.with told) al s).map (ofPV told) else none
  | .pan _ _ => none
def VL.pout (L : Lay) (al : AL) (av : AVal) (s : St) : (v : VL) → Option (DL v.tys)
  | .ex _ _ => none
  | .pan T ts => (match av with
    | .ifc T' ls => (bif Nat.beq T T' then (match rnd (L.with []) al s with | some _ => getLs ts ls | none => none) else none)
    | _ => none)
def VL.dk {R : Type} : (v : VL) → DL v.tys → ((e : Exit) → (vs : Pls) → PV vs → Option R) → (TypeId → List Leaf → Option R) → Option R
  | .ex e told, d, f, _ => f e told (toPV told d)
  | .pan T ts, d, _, g => g T (datL ts d)
def outL (L : Lay) (al : AL) (e : Exit) (s : St) : (vs : List VL) → Option (WL vs)
  | [] => none
  | [v] => v.out L al e s
  | v :: u :: r => (match v.out L al e s with | some o => some (.inl o) | none => (outL L al e s (u :: r)).map .inr)
def poutL (L : Lay) (al : AL) (av : AVal) (s : St) : (vs : List VL) → Option (WL vs)
  | [] => none
  | [v] => v.pout L al av s
  | v :: u :: r => (match v.pout L al av s with | some o => some (.inl o) | none => (poutL L al av s (u :: r)).map .inr)
def dkL : (vs : List VL) → Dk (WL vs)
  | [] => fun x _ _ => x.elim
  | [v] => fun x f g => v.dk x f g
  | v :: u :: r => fun x f g => (match x with | .inl o => v.dk o f g | .inr y => dkL (u :: r) y f g)
theorem vlout_ok {L : Lay} {al : AL} {e : Exit} {s : St} {v : VL} {x : DL v.tys} (h : v.out L al e s = some x) :
    ∃ told o, rnd (L.with told) al s = some o ∧ ∀ (R : Type) (f : (e : Exit) → (vs : Pls) → PV vs → Option R) g, v.dk x f g = f e told o := by
  cases v with
  | ex e' told =>
    simp only [VL.out] at h
    cases hb : exEq e e' with
    | false => simp [hb] at h
    | true =>
      simp only [hb, cond_true] at h
      obtain rfl := exEq_ok hb
      obtain ⟨o, h1, rfl⟩ := Option.map_eq_some_iff.1 h
      exact ⟨told, o, h1, fun R f g => by simp only [VL.dk, to_of]⟩
  | pan T ts => cases h
theorem outL_ok {L : Lay} {al : AL} {e : Exit} {s : St} : ∀ {vs : List VL} {x : WL vs}, outL L al e s vs = some x →
    ∃ told o, rnd (L.with told) al s = some o ∧ ∀ (R : Type) (f : (e : Exit) → (vs : Pls) → PV vs → Option R) g, dkL vs (R := R) x f g = f e told o
  | [], x, h => by cases h
  | [v], x, h => vlout_ok h
  | v :: u :: r, x, h => by
    simp only [outL] at h
    split at h
    · rename_i o ho
      simp only [Option.some.injEq] at h
      subst h
      exact vlout_ok ho
    · obtain ⟨y, h1, rfl⟩ := Option.map_eq_some_iff.1 h
      exact outL_ok (vs := u :: r) h1
theorem vlpout_ok {L : Lay} {al : AL} {s : St} {av : AVal} {v : VL} {x : DL v.tys} (h : v.pout L al av s = some x) :
    ∃ T ls, av = .ifc T ls ∧ allDat ls = true ∧ rnd (L.with []) al s = some () ∧ ∀ (R : Type) (f : (e : Exit) → (vs : Pls) → PV vs → Option R) g, v.dk x f g = g T ls := by
  cases v with
  | ex e' told => cases h
  | pan T ts =>
    simp only [VL.pout] at h
    split at h
    · rename_i T' ls
      cases hb : Nat.beq T T' with
      | false => simp [hb] at h
      | true =>
        simp only [hb, cond_true] at h
        obtain rfl := Nat.eq_of_beq_eq_true hb
        split at h
        · rename_i u hu
          obtain ⟨e1, e2⟩ := getLs_ok h
          exact ⟨T, ls, rfl, e1, hu, fun R f g => by simp only [VL.dk, e2]⟩
        · cases h
    · cases h
theorem poutL_ok {L : Lay} {al : AL} {s : St} {av : AVal} : ∀ {vs : List VL} {x : WL vs}, poutL L al av s vs = some x →
    ∃ T ls, av = .ifc T ls ∧ allDat ls = true ∧ rnd (L.with []) al s = some () ∧ ∀ (R : Type) (f : (e : Exit) → (vs : Pls) → PV vs → Option R) g, dkL vs (R := R) x f g = g T ls
  | [], x, h => by cases h
  | [v], x, h => vlpout_ok h
  | v :: u :: r, x, h => by
    simp only [poutL] at h
    split at h
    · rename_i o ho
      simp only [Option.some.injEq] at h
      subst h
      exact vlpout_ok ho
    · obtain ⟨y, h1, rfl⟩ := Option.map_eq_some_iff.1 h
      exact poutL_ok (vs := u :: r) h1

/-- What is done behind a round, and at the ways out. -/
def kL (L : Lay) (vs : List VL) (c : PV L.cs) (l : PV L.vs → Option (WL vs)) (e : Exit) (s : St) : Option (WL vs) :=
  match e with
  | .normal => (rnd L (keepAL L.cs c) s).bind l
  | e => outL L (keepAL L.cs c) e s vs
def kLP (L : Lay) (vs : List VL) (c : PV L.cs) (av : AVal) (s : St) : Option (WL vs) := poutL L (keepAL L.cs c) av s vs
def kR (L : Lay) (vs : List VL) (c : PV L.cs) (s : St) : Option (WL vs) := outL L (keepAL L.cs c) .normal s vs

noncomputable def loopOf (id : Nat) (c : Code) : Option Code :=
  Code.rec (motive := fun _ => Option Code) none (fun _ _ _ => none)
    (fun _ _ x y => match x with | some c => some c | none => y) (fun _ _ _ x y => match x with | some c => some c | none => y)
    (fun i b x => bif Nat.beq i id then (match b with | .loop c => some c | _ => x) else x) (fun _ x => x) (fun _ _ _ _ x y => match x with | some c => some c | none => y)
    (fun _ => none) (fun _ x => x) (fun _ => none) (fun _ => none) none (fun _ => none) c
noncomputable def loopBody (f : Func) (id : Nat) : Code := (loopOf id (bodyOf f)).getD .skip
noncomputable def regOf (id : Nat) (c : Code) : Option (Array Oper) :=
  Code.rec (motive := fun _ => Option (Array Oper)) none (fun i ops d => bif Nat.beq i id then some ops else none)
    (fun _ _ x y => match x with | some c => some c | none => y) (fun _ _ _ x y => match x with | some c => some c | none => y)
    (fun i b x => x) (fun _ x => x) (fun _ _ _ _ x y => match x with | some c => some c | none => y)
    (fun _ => none) (fun _ x => x) (fun _ => none) (fun _ => none) none (fun _ => none) c
noncomputable def regOps (f : Func) (id : Nat) : Array Oper := (regOf id (bodyOf f)).getD #[]
noncomputable def blkC (f : Func) (id : Nat) : Code := .block id (.loop (loopBody f id))
noncomputable def regC (f : Func) (id : Nat) : Code := .region id (regOps f id) true

def Codes (P : Program) (gt : Nat → Option GA) : List (Code × LoopSem) → Prop
  | [] => True
  | p :: r => CodeOk P gt p.1 p.2 ∧ Codes P gt r
theorem codes_ok {P : Program} {E : Env} {c : Code} {l : List (Code × LoopSem)} (e : blocksOf E c = l) (h : Codes P E.gt l) : LoopsOk P E c := by
  refine loopsOk_list e ?_
  clear e
  induction l with
  | nil => intro x hx; cases hx
  | cons p r ih =>
    intro x hx
    rcases List.mem_cons.1 hx with rfl | hx
    · exact h.1
    · exact ih h.2 x hx

theorem loopV_ok {P : Program} {E : Env} (hE : EnvOk P E) {id : Nat} {f : Func} {L : Lay} {vs : List VL} {l : Nat → PV L.cs → PV L.vs → Option (WL vs)} (hb : LoopsOk P E (loopBody f id)) (h0 : ∀ c v, l 0 c v = none)
    (h1 : ∀ k c v, l (k + 1) c v = runC E (loopBody f id) (L.st c v) (kL L vs c (l k c)) (kLP L vs c)) (k : Nat) : CodeOk P E.gt (blkC f id) (loopSem id L (l k) (dkL vs)) :=
  loop_ok hE (out := fun c e s => outL L (keepAL L.cs c) e s vs) (pout := kLP L vs) hb h0 (fun k c v => by
      rw [h1]
      congr 1)
    (fun c e s x h => outL_ok h) (fun c av s x h => poutL_ok h) k
theorem regV_ok {P : Program} {E : Env} (hE : EnvOk P E) {id : Nat} {f : Func} {L : Lay} {vs : List VL} {F : PV L.cs → PV L.vs → Option (WL vs)} {ls : List (List Nat)}
    (hd : drawOk (regOps f id).toList (ancs (regOps f id).toList []) = true) (hc : canons (regOps f id).toList (ancs (regOps f id).toList []) (regOps f id).toList.length [] = ls)
    (h1 : ∀ l ∈ ls, covers (regOps f id).toList l = true ∧ ∀ c v, F c v = runD E (regOps f id).toList (ancs (regOps f id).toList []) l [] (L.st c v) (kR L vs c) (kLP L vs c)) :
    CodeOk P E.gt (regC f id) (loopSem (id + 1000000) L F (dkL vs)) :=
  reg_ok hE hd hc h1 (fun c s x h => outL_ok h) (fun c av s x h => poutL_ok h)

def EachL {α : Type} (p : α → Prop) : List α → Prop
  | [] => True
  | a :: r => p a ∧ EachL p r
theorem each_mem {α : Type} {p : α → Prop} : ∀ {l : List α}, EachL p l → ∀ a ∈ l, p a
  | [], _, _, h => by cases h
  | b :: r, hl, a, h => by
    rcases List.mem_cons.1 h with rfl | h
    · exact hl.1
    · exact each_mem hl.2 a h
/-- What is done behind two ways that meet. -/
def joinK {α β : Type} (f : β → α) (body : (β → α) → α) : α := body f
abbrev I : Ty := .int .i64
abbrev U : Ty := .int .u8
end Go.Fx
