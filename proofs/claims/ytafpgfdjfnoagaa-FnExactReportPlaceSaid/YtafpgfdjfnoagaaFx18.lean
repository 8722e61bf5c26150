/- The framework, eighteenth text: what stays behind a state stays; the interpreter minds its continuations alone. -/
import Derived.Test.YtafpgfdjfnoagaaFx17
namespace Go.Fx
set_option linter.unusedVariables false
set_option linter.unusedSimpArgs false

def Base (st s : St) : Prop := s.n = st.n ∧ s.bregs = st.bregs ∧ s.bleaves = st.bleaves ∧ s.barrs = st.barrs
theorem Base.refl (st : St) : Base st st := ⟨rfl, rfl, rfl, rfl⟩
theorem Base.trans {a b c : St} (h : Base a b) (k : Base b c) : Base a c := ⟨k.1.trans h.1, k.2.1.trans h.2.1, k.2.2.1.trans h.2.2.1, k.2.2.2.trans h.2.2.2⟩

theorem cond_cong {α : Type} {c : Bool} {a a' b b' : α} (h : a = a') (k : b = b') : cond c a b = cond c a' b' := by rw [h, k]
theorem bind_cong {α β : Type} {x : Option α} {f g : α → Option β} (h : ∀ y, f y = g y) : x.bind f = x.bind g := by rw [funext h]

section
variable {E : Env} {R : Type} {st : St} {T : TypeId} {x y v : AVal} {dst : Nat}

theorem opLoad_cong {K K' : AVal → St → Option R} (h : ∀ v, K v st = K' v st) : opLoad E T x st K = opLoad E T x st K' := by
  unfold opLoad
  repeat' (first | rfl | exact h _ | apply cond_cong | apply bind_cong | intro _ | split)
theorem opFieldAddr_cong {f : Nat} {K K' : AVal → St → Option R} (h : ∀ v, K v st = K' v st) : opFieldAddr E T x f st K = opFieldAddr E T x f st K' := by
  unfold opFieldAddr
  repeat' (first | rfl | exact h _ | apply cond_cong | apply bind_cong | intro _ | split)
theorem opField_cong {f : Nat} {K K' : AVal → St → Option R} (h : ∀ v, K v st = K' v st) : opField E T x f st K = opField E T x f st K' := by
  unfold opField
  repeat' (first | rfl | exact h _ | apply cond_cong | apply bind_cong | intro _ | split)
theorem opIndexAddr_cong {K K' : AVal → St → Option R} (h : ∀ v, K v st = K' v st) : opIndexAddr E T x y st K = opIndexAddr E T x y st K' := by
  unfold opIndexAddr
  repeat' (first | rfl | exact h _ | apply cond_cong | apply bind_cong | intro _ | split)
theorem opIndex_cong {K K' : AVal → St → Option R} (h : ∀ v, K v st = K' v st) : opIndex E T x y st K = opIndex E T x y st K' := by
  unfold opIndex
  repeat' (first | rfl | exact h _ | apply cond_cong | apply bind_cong | intro _ | split)
theorem share1_base {l : Leaf} {s : St} (h : st.share1 l = some s) : Base st s := by
  unfold St.share1 at h
  split at h
  · split at h
    · rename_i A _
      cases hs : A.sh <;> simp [hs] at h <;> subst h <;> exact ⟨rfl, rfl, rfl, rfl⟩
    · split at h
      · rename_i A _
        cases hs : A.sh <;> simp [hs] at h
        subst h; exact .refl _
      · cases h
  · cases h; exact .refl _
theorem shareL_base : ∀ {ls : List Leaf} {st s : St}, st.shareL ls = some s → Base st s
  | [], st, s, h => by cases h; exact .refl _
  | l :: r, st, s, h => by
    simp only [St.shareL] at h
    split at h
    · rename_i q hq; exact (share1_base hq).trans (shareL_base h)
    · cases h
theorem shared_base {s : St} (h : v.shared st = some s) : Base st s := by
  unfold AVal.shared at h
  split at h
  · exact share1_base h
  · exact shareL_base h
  · cases h
  · exact shareL_base h
theorem sliceParts_base {t : Ty} : ∀ {ps : List (Nat × AVal)} {i : Nat} {st s : St} {l : List t.den}, sliceParts t i ps st = some (l, s) → Base st s
  | [], i, st, s, l, h => by simp only [sliceParts, Option.some.injEq, Prod.mk.injEq] at h; obtain ⟨_, rfl⟩ := h; exact .refl _
  | (j, v) :: r, i, st, s, l, h => by
    simp only [sliceParts] at h
    cases hb : Nat.beq i j with
    | false => simp [hb] at h
    | true =>
      simp only [hb, cond_true] at h
      split at h
      · rename_i q hq
        split at h
        · split at h
          · rename_i l' s' hp
            simp only [Option.some.injEq, Prod.mk.injEq] at h
            obtain ⟨_, rfl⟩ := h
            exact (shared_base hq).trans (sliceParts_base hp)
          · cases h
        · cases h
      · cases h
theorem opStore_cong {K K' : St → Option R} (h : ∀ s, Base st s → K s = K' s) : opStore E T x v st K = opStore E T x v st K' := by
  unfold opStore
  repeat' (first | rfl | exact h _ ⟨rfl, rfl, rfl, rfl⟩ | (have hb := shareL_base ‹St.shareL _ _ = some _›; exact h _ (Base.trans hb ⟨rfl, rfl, rfl, rfl⟩)) | apply cond_cong | apply bind_cong | intro _ | split)
theorem opSlice_cong {lo hi mx : Option AVal} {K K' : AVal → St → Option R} (h : ∀ v s, Base st s → K v s = K' v s) : opSlice E T dst x lo hi mx st K = opSlice E T dst x lo hi mx st K' := by
  unfold opSlice
  repeat' (first | rfl | exact h _ _ ⟨rfl, rfl, rfl, rfl⟩ | apply cond_cong | apply bind_cong | intro _ | split)
theorem opBin_cong {op : BinOp} {K K' : AVal → Option R} (h : ∀ v, K v = K' v) : opBin E op T x y K = opBin E op T x y K' := by rw [funext h]
theorem opUn_cong {op : UnOp} {K K' : AVal → Option R} (h : ∀ v, K v = K' v) : opUn op x K = opUn op x K' := by rw [funext h]
theorem opConvert_cong {S D : TypeId} {K K' : AVal → St → Option R} (h : ∀ v, K v st = K' v st) : opConvert E S D x st K = opConvert E S D x st K' := by
  unfold opConvert
  repeat' (first | rfl | exact h _ | apply cond_cong | apply bind_cong | intro _ | split)
theorem opBuild_cong {ps : List (Nat × AVal)} {K K' : AVal → St → Option R} (h : ∀ v, K v st = K' v st) : opBuild E T ps st K = opBuild E T ps st K' := by
  unfold opBuild
  repeat' (first | rfl | exact h _ | apply cond_cong | apply bind_cong | intro _ | split)
theorem opBuildSlice_cong {len : Nat} {ps : List (Nat × AVal)} {K K' : AVal → St → Option R} (h : ∀ v s, Base st s → K v s = K' v s) : opBuildSlice E T dst len ps st K = opBuildSlice E T dst len ps st K' := by
  unfold opBuildSlice
  repeat' (first | rfl | (have hb := sliceParts_base ‹sliceParts _ _ _ _ = some _›; exact h _ _ (Base.trans hb ⟨rfl, rfl, rfl, rfl⟩)) | apply cond_cong | apply bind_cong | intro _ | split)
theorem opMakeSlice_cong {K K' : AVal → St → Option R} (h : ∀ v s, Base st s → K v s = K' v s) : opMakeSlice E T dst x y st K = opMakeSlice E T dst x y st K' := by
  unfold opMakeSlice
  repeat' (first | rfl | exact h _ _ ⟨rfl, rfl, rfl, rfl⟩ | apply cond_cong | apply bind_cong | intro _ | split)
theorem opNew_cong {o : Nat} {ls : List Leaf} {K K' : AVal → St → Option R} (h : ∀ v s, Base st s → K v s = K' v s) : opNew E T o ls st K = opNew E T o ls st K' := by
  unfold opNew
  repeat' (first | rfl | exact h _ _ ⟨rfl, rfl, rfl, rfl⟩ | apply cond_cong | apply bind_cong | intro _ | split)
theorem opAppend_cong {K K' : AVal → St → Option R} (h : ∀ v s, Base st s → K v s = K' v s) : opAppend E T dst x y st K = opAppend E T dst x y st K' := by
  unfold opAppend
  repeat' (first | rfl | (have hb := shared_base ‹AVal.shared _ _ = some _›; exact h _ _ (Base.trans hb ⟨rfl, rfl, rfl, rfl⟩)) | apply cond_cong | apply bind_cong | intro _ | split)
theorem opBuiltin_cong {b : Builtin} {ts : List TypeId} {vs : List AVal} {K K' : AVal → St → Option R} (h : ∀ v s, Base st s → K v s = K' v s) : opBuiltin E b dst ts vs st K = opBuiltin E b dst ts vs st K' := by
  unfold opBuiltin
  repeat' (first | rfl | exact h _ _ (.refl _) | exact opAppend_cong h | apply cond_cong | apply bind_cong | intro _ | split)

def SemCong (s : CSem) : Prop := ∀ {R : Type} {dst : Nat} {args : List AVal} {st : St} {K K' KP KP' : AVal → St → Option R},
  (∀ v q, Base st q → K v q = K' v q) → (∀ v q, Base st q → KP v q = KP' v q) → s.run dst args st K KP = s.run dst args st K' KP'
def LoopCong (L : LoopSem) : Prop := ∀ {R : Type} {st : St} {K K' : Exit → St → Option R} {KP KP' : AVal → St → Option R},
  (∀ e q, Base st q → K e q = K' e q) → (∀ v q, Base st q → KP v q = KP' v q) → L.run st K KP = L.run st K' KP'

theorem exec1_cong (hS : ∀ f s, E.sem f = some s → SemCong s) {o : Oper} {K K' KP KP' : AVal → St → Option R} (h : ∀ v s, Base st s → K v s = K' v s) (hp : ∀ v s, Base st s → KP v s = KP' v s) :
    exec1 E o st K KP = exec1 E o st K' KP' := by
  have h0 : ∀ v, K v st = K' v st := fun v => h v st (.refl _)
  have p0 : ∀ v, KP v st = KP' v st := fun v => hp v st (.refl _)
  unfold exec1
  split
  · exact h0 _
  · exact h0 _
  · split
    · exact cond_cong (h0 _) (h0 _)
    · rfl
  · split <;> first | exact h0 _ | rfl
  · split
    · exact opNew_cong h
    · rfl
  · split
    · exact opNew_cong h
    · rfl
  · exact opBuild_cong h0
  · exact opBuildSlice_cong h
  · exact opLoad_cong h0
  · exact opStore_cong (fun s hs => h _ s hs)
  · exact opBin_cong h0
  · exact opUn_cong h0
  · exact opConvert_cong h0
  · exact opMakeSlice_cong h
  · exact opSlice_cong h
  · exact opFieldAddr_cong h0
  · exact cond_cong (opField_cong h0) rfl
  · exact opIndexAddr_cong h0
  · exact opIndex_cong h0
  · split
    · split
      · exact h0 _
      · rfl
    · rfl
  · split
    · exact opBuiltin_cong h
    · split
      · rename_i s hs; exact hS _ s hs h hp
      · rfl
    · rfl
  · split
    · split
      · rfl
      · exact h0 _
      · rfl
    · rfl
  · split
    · exact p0 _
    · rfl
  · rfl

theorem putK_cong {d : Option Tmp} {v : AVal} {K K' : St → Option R} (h : ∀ s, Base st s → K s = K' s) : putK d v st K = putK d v st K' := by
  cases d with
  | none => exact h _ (.refl _)
  | some d => exact cond_cong rfl (h _ ⟨rfl, rfl, rfl, rfl⟩)

theorem runOps_cong (hS : ∀ f s, E.sem f = some s → SemCong s) {all : List Oper} : ∀ {l : List Oper} {st : St} {K K' : St → Option R} {KP KP' : AVal → St → Option R}, (∀ s, Base st s → K s = K' s) → (∀ v s, Base st s → KP v s = KP' v s) →
    runOps E all l st K KP = runOps E all l st K' KP'
  | [], st, K, K', KP, KP', h, hp => h _ (.refl _)
  | o :: rest, st, K, K', KP, KP', h, hp => by
    have step : ∀ q, Base st q → exec1 E o q (fun v st' => putK o.dst v st' fun s => runOps E all rest s K KP) KP = exec1 E o q (fun v st' => putK o.dst v st' fun s => runOps E all rest s K' KP') KP' := fun q hq =>
      exec1_cong hS (fun v s hs => putK_cong fun s' hs' => runOps_cong hS (fun s'' hs'' => h _ (hq.trans (hs.trans (hs'.trans hs'')))) (fun v s'' hs'' => hp _ _ (hq.trans (hs.trans (hs'.trans hs''))))) (fun v s hs => hp _ _ (hq.trans hs))
    have skip : ∀ q, Base st q → putK o.dst (.one .und) q (fun s => runOps E all rest s K KP) = putK o.dst (.one .und) q (fun s => runOps E all rest s K' KP') := fun q hq =>
      putK_cong fun s hs => runOps_cong hS (fun s'' hs'' => h _ (hq.trans (hs.trans hs''))) (fun v s'' hs'' => hp _ _ (hq.trans (hs.trans hs'')))
    simp only [runOps]
    split
    · exact step _ (.refl _)
    · split
      · rfl
      · split
        · exact cond_cong (cond_cong (step _ ⟨rfl, rfl, rfl, rfl⟩) (skip _ ⟨rfl, rfl, rfl, rfl⟩)) (cond_cong (skip _ ⟨rfl, rfl, rfl, rfl⟩) (step _ ⟨rfl, rfl, rfl, rfl⟩))
        · exact skip _ (.refl _)
        · rfl

theorem runC_cong (hS : ∀ f s, E.sem f = some s → SemCong s) (hL : ∀ i L, E.loops i = some L → LoopCong L) (c : Code) : ∀ {st : St} {K K' : Exit → St → Option R} {KP KP' : AVal → St → Option R},
    (∀ e s, Base st s → K e s = K' e s) → (∀ v s, Base st s → KP v s = KP' v s) → runC E c st K KP = runC E c st K' KP' := by
  induction c with
  | skip => intro st K K' KP KP' h hp; exact h _ _ (.refl _)
  | region id ops draw => intro st K K' KP KP' h hp; exact cond_cong rfl (runOps_cong hS (fun s hs => h _ s hs) hp)
  | seq a b iha ihb =>
    intro st K K' KP KP' h hp
    refine iha (fun e s hs => ?_) hp
    cases e with
    | normal => exact ihb (fun e s' hs' => h e s' (hs.trans hs')) (fun v s' hs' => hp v s' (hs.trans hs'))
    | _ => exact h _ s hs
  | cond c t e iht ihe =>
    intro st K K' KP KP' h hp
    show (match (ev st c).bool? with | some b => bif b then runC E t st K KP else runC E e st K KP | none => none) = (match (ev st c).bool? with | some b => bif b then runC E t st K' KP' else runC E e st K' KP' | none => none)
    split
    · exact cond_cong (iht h hp) (ihe h hp)
    · rfl
  | block id b ih =>
    intro st K K' KP KP' h hp
    show (match E.loops id with
      | some L => L.run st K KP
      | none => runC E b st (fun e s => match e with | .exit i => (bif Nat.beq i id then K .normal s else K (.exit i) s) | e => K e s) KP) = (match E.loops id with
      | some L => L.run st K' KP'
      | none => runC E b st (fun e s => match e with | .exit i => (bif Nat.beq i id then K' .normal s else K' (.exit i) s) | e => K' e s) KP')
    split
    · rename_i L hl; exact hL _ _ hl h hp
    · refine ih (fun e s hs => ?_) hp
      cases e with
      | exit i => exact cond_cong (h _ s hs) (h _ s hs)
      | _ => exact h _ s hs
  | exit id => intro st K K' KP KP' h hp; exact h _ _ (.refl _)
  | ret => intro st K K' KP KP' h hp; exact h _ _ (.refl _)
  | _ => intros; rfl
end
end Go.Fx
