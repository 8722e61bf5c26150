/- What the functions behind 'FnExactReportPlace' compute: one plain function each, and the proof that the code computes it. -/
import Derived.Test.YtafpgfdjfnoagaaChecked
import Derived.Test.YtafpgfdjfnoagaaStrCount
import Derived.Test.YtafpgfdjfnoagaaFx30
namespace Go.Fx.RP
open Go Go.Fx Go.Proofs
set_option linter.unusedVariables false

abbrev I : Ty := .int .i64
abbrev U : Ty := .int .u8
def tab : Nat → Option TI
  | 3 => some ⟨1, 8, some (.int .i64), .int .i64, [.int .i64 0]⟩
  | 4 => some ⟨1, 1, some .bool, .bool, [.bool false]⟩
  | 5 => some ⟨1, 1, some (.int .u8), .int .u8, [.int .u8 0]⟩
  | 9 => some ⟨1, 16, some .str, .str, [.string ⟨#[]⟩]⟩
  | _ => none
theorem ti3 : TIok Try.prog 3 ⟨1, 8, some (.int .i64), .int .i64, [.int .i64 0]⟩ := ⟨Try.t3, _, .int .i64 0, by kernel_rfl, Try.underlying3, by kernel_rfl, by kernel_rfl, by kernel_rfl, by kernel_rfl, rfl, fun _ => rfl, rfl⟩
theorem ti4 : TIok Try.prog 4 ⟨1, 1, some .bool, .bool, [.bool false]⟩ := ⟨Try.t4, _, .bool false, by kernel_rfl, Try.underlying4, by kernel_rfl, by kernel_rfl, by kernel_rfl, by kernel_rfl, trivial, fun _ => rfl, rfl⟩
theorem ti5 : TIok Try.prog 5 ⟨1, 1, some (.int .u8), .int .u8, [.int .u8 0]⟩ := ⟨Try.t5, _, .int .u8 0, by kernel_rfl, Try.underlying5, by kernel_rfl, by kernel_rfl, by kernel_rfl, by kernel_rfl, rfl, fun _ => rfl, rfl⟩
theorem ti9 : TIok Try.prog 9 ⟨1, 16, some .str, .str, [.string ⟨#[]⟩]⟩ := ⟨Try.t9, _, .string ⟨#[]⟩, by kernel_rfl, Try.underlying9, by kernel_rfl, by kernel_rfl, by kernel_rfl, by kernel_rfl, trivial, fun _ => rfl, rfl⟩
theorem tabOk : TabOk Try.prog tab := by
  intro t ti h
  unfold tab at h
  split at h <;> cases h
  · exact ti3
  · exact ti4
  · exact ti5
  · exact ti9

def bodyOf (f : Func) : Code := f.body.getD .skip
noncomputable def loopOf (id : Nat) (c : Code) : Option Code :=
  Code.rec (motive := fun _ => Option Code) none (fun _ _ _ => none)
    (fun _ _ x y => match x with | some c => some c | none => y) (fun _ _ _ x y => match x with | some c => some c | none => y)
    (fun i b x => bif Nat.beq i id then (match b with | .loop c => some c | _ => x) else x) (fun _ x => x) (fun _ _ _ _ x y => match x with | some c => some c | none => y)
    (fun _ => none) (fun _ x => x) (fun _ => none) (fun _ => none) none (fun _ => none) c
noncomputable def loopBody (f : Func) (id : Nat) : Code := (loopOf id (bodyOf f)).getD .skip

noncomputable def E0 : Env := ⟨tab, fun _ => none, fun _ => none, fun n => n + 10000⟩
theorem E0ok : EnvOk Try.prog E0 := ⟨tabOk, (fun _ _ h => (by cases h)), (fun _ _ h => (by cases h)), (fun _ _ h => (by cases h))⟩

/-! spec.l1In -/
def l1In (n lo hi : Int) : Option Bool := bif decide (n ≥ lo) then some (decide (n ≤ hi)) else some false
theorem l1In_eq (d : DL [I, I, I]) : l1In d.1 d.2.1 d.2.2.1 = runC E0 (bodyOf Try.f11) (stD Try.f11.ntmps [I, I, I] d) (fun e s => match e with | .normal => (retD Try.f11.results.toList [.bool] s).map (fun r => r.1) | .ret => (retD Try.f11.results.toList [.bool] s).map (fun r => r.1) | _ => none) (fun _ _ => none) := by kernel_rfl
def s11 : CSem := semD [I, I, I] [.bool] (fun d => l1In d.1 d.2.1 d.2.2.1) (fun r => (r, ()))
theorem s11ok : SemOk Try.prog 11 s11 :=
  fn_data E0ok (ts := [I, I, I]) (rs := [.bool]) (fun r => r.1) (fun r => rfl) Try.func11 (by kernel_rfl) Try.call11 (loopsOk_list (l := []) (by kernel_rfl) (by simp)) (by rw [Try.ntmps11]; decide) l1In_eq

/-! strings.LastIndexByte -/
def lib_l0 : Nat → Str → Int → Int → Option (Unit ⊕ Int)
  | 0, _, _, _ => none
  | k + 1, s, c, i => bif decide (i ≥ 0) then (idx s i).bind fun b => bif ((b.toNat : Int) == c) then some (.inr i) else lib_l0 k s c (w64 (i - 1)) else some (.inl ())
def lib (k : Nat) (s : Str) (c : Int) : Option Int := (lib_l0 k s c (w64 ((s.length : Int) - 1))).bind fun r => match r with | .inl _ => some (-1) | .inr r => some r
noncomputable def L20 : Lay := ⟨Try.f20.ntmps, [], [(.r 0, .d .str), (.r 1, .d U)], [(.r 5, .d I)]⟩
noncomputable def out20 (c : PV L20.cs) (e : Exit) (s : St) : Option (Unit ⊕ Int) := match e with
  | .exit 0 => (rnd (L20.with []) (keepAL L20.cs c) s).map (fun _ => .inl ())
  | .ret => (rnd (L20.with [(.r 4, .d I)]) (keepAL L20.cs c) s).map (fun o => .inr o.1)
  | _ => none
def dk20 : Dk (Unit ⊕ Int) := fun x f _ => match x with
  | .inl _ => f (.exit 0) [] ()
  | .inr r => f .ret [(.r 4, .d I)] (r, ())
theorem lib_l0_eq (k : Nat) (c : PV L20.cs) (v : PV L20.vs) : lib_l0 (k + 1) c.1 c.2.1 v.1 = runC E0 (loopBody Try.f20 0) (L20.st c v) (fun e s => match e with
   | .normal => (rnd L20 (keepAL L20.cs c) s).bind (fun v => lib_l0 k c.1 c.2.1 v.1)
   | e => out20 c e s) (fun _ _ => none) := by kernel_rfl
noncomputable def l20 (k : Nat) : LoopSem := loopSem 0 L20 (fun c v => lib_l0 k c.1 c.2.1 v.1) dk20
theorem l20ok (k : Nat) : LoopOk Try.prog 0 (.loop (loopBody Try.f20 0)) (l20 k) :=
  loop_ok E0ok (L := L20) (l := fun k (c : PV L20.cs) (v : PV L20.vs) => lib_l0 k c.1 c.2.1 v.1) (out := out20) (pout := fun _ _ _ => none) (loopsOk_list (l := []) (by kernel_rfl) (by simp)) (fun _ _ => rfl) lib_l0_eq
    (fun c e s x h => by
      unfold out20 at h
      split at h
      · obtain ⟨o, h1, rfl⟩ := Option.map_eq_some_iff.1 h; exact ⟨_, o, h1, fun _ _ _ => rfl⟩
      · obtain ⟨o, h1, rfl⟩ := Option.map_eq_some_iff.1 h; exact ⟨_, o, h1, fun _ _ _ => rfl⟩
      · cases h) (fun _ _ _ _ h => by cases h) k
noncomputable def E20 (k : Nat) : Env := ⟨tab, fun _ => none, fun n => match n with | 0 => some (l20 k) | _ => none, fun n => n + 10000⟩
theorem E20ok (k : Nat) : EnvOk Try.prog (E20 k) := by
  refine ⟨tabOk, (fun _ _ h => (by cases h)), (fun _ _ h => (by cases h)), fun i L h => ?_⟩
  unfold E20 at h
  simp only at h
  split at h
  · cases h; exact loop_cong _ _ _ _
  · cases h
theorem lib_eq (k : Nat) (d : DL [.str, U]) : lib k d.1 d.2.1 = runC (E20 k) (bodyOf Try.f20) (stD Try.f20.ntmps [.str, U] d) (fun e s => match e with | .normal => (retD Try.f20.results.toList [I] s).map (fun r => r.1) | .ret => (retD Try.f20.results.toList [I] s).map (fun r => r.1) | _ => none) (fun _ _ => none) := by kernel_rfl
def s20 (k : Nat) : CSem := semD [.str, U] [I] (fun d => lib k d.1 d.2.1) (fun r => (r, ()))
theorem s20ok (k : Nat) : SemOk Try.prog 20 (s20 k) :=
  fn_data (E20ok k) (ts := [.str, U]) (rs := [I]) (fun r => r.1) (fun r => rfl) Try.func20 (by kernel_rfl) Try.call20 (loopsOk_list (l := [(0, .loop (loopBody Try.f20 0), l20 k)]) (by kernel_rfl) (by intro x hx; simp only [List.mem_singleton] at hx; subst hx; exact l20ok k)) (by rw [Try.ntmps20]; decide) (lib_eq k)
noncomputable def E13 (k : Nat) : Env := ⟨tab, fun n => match n with | 20 => some (s20 k) | _ => none, fun _ => none, fun n => n + 10000⟩
theorem E13ok (k : Nat) : EnvOk Try.prog (E13 k) := by
  refine ⟨tabOk, fun f s h => ?_, fun f s h => ?_, (fun _ _ h => (by cases h))⟩
  · unfold E13 at h; simp only at h
    split at h <;> cases h
    exact s20ok k
  · unfold E13 at h; simp only at h
    split at h <;> cases h
    exact semD_cong _ _ _ _
def lastByte (k : Nat) (s : Str) (c : Int) : Option Int := (lib k s c).bind fun r => some r
theorem lastByte_eq (k : Nat) (d : DL [.str, U]) : lastByte k d.1 d.2.1 = runC (E13 k) (bodyOf Try.f13) (stD Try.f13.ntmps [.str, U] d) (fun e s => match e with | .normal => (retD Try.f13.results.toList [I] s).map (fun r => r.1) | .ret => (retD Try.f13.results.toList [I] s).map (fun r => r.1) | _ => none) (fun _ _ => none) := by kernel_rfl
def s13 (k : Nat) : CSem := semD [.str, U] [I] (fun d => lastByte k d.1 d.2.1) (fun r => (r, ()))
theorem s13ok (k : Nat) : SemOk Try.prog 13 (s13 k) :=
  fn_data (E13ok k) (ts := [.str, U]) (rs := [I]) (fun r => r.1) (fun r => rfl) Try.func13 (by kernel_rfl) Try.call13 (loopsOk_list (l := []) (by kernel_rfl) (by simp)) (by rw [Try.ntmps13]; decide) (lastByte_eq k)

/-! strings.Count of one byte -/
def cntF (s sub : Str) : Option Int := match sub with
  | [c] => some (Lib.countByte s c)
  | _ => none
def s12 : CSem := semD [.str, .str] [I] (fun d => cntF d.1 d.2.1) (fun r => (r, ()))
theorem s12ok : SemOk Try.prog 12 s12 := by
  refine semOk_below (ts := [.str, .str]) (rs := [I]) rfl rfl Try.call12 fun d y w h => ?_
  obtain ⟨s, sub, u⟩ := d
  simp only [cntF] at h
  split at h
  · rename_i c
    cases h
    refine (Try.strings_Count_one ⟨s.toArray⟩ c w).mono fun e w' ⟨he, hw⟩ => ?_
    subst hw
    exact ⟨by rw [he]; simp [svals, sval, retval], Go.RowKit.Below.refl _ _⟩
  · cases h

/-! impl.ReportPlace -/
def impl (k : Nat) (text : Str) (at' : Int) : Option (Int × Int) :=
  bif decide (at' < 0) then some (0, 0) else bif decide (at' > (text.length : Int)) then some (0, 0) else
    (sub text 0 at').bind fun ahead => (cntF ahead [10]).bind fun n => (lastByte k ahead 10).bind fun r => some (w64 (n + 1), w64 (at' - r))
noncomputable def E9 (k : Nat) : Env := ⟨tab, fun n => match n with | 12 => some s12 | 13 => some (s13 k) | _ => none, fun _ => none, fun n => n + 10000⟩
theorem E9ok (k : Nat) : EnvOk Try.prog (E9 k) := by
  refine ⟨tabOk, fun f s h => ?_, fun f s h => ?_, (fun _ _ h => (by cases h))⟩
  · unfold E9 at h; simp only at h
    split at h <;> cases h
    · exact s12ok
    · exact s13ok k
  · unfold E9 at h; simp only at h
    split at h <;> cases h
    · exact semD_cong _ _ _ _
    · exact semD_cong _ _ _ _
theorem impl_eq (k : Nat) (d : DL [.str, I]) : impl k d.1 d.2.1 = runC (E9 k) (bodyOf Try.f9) (stD Try.f9.ntmps [.str, I] d) (fun e s => match e with | .normal => (retD Try.f9.results.toList [I, I] s).map (fun r => (r.1, r.2.1)) | .ret => (retD Try.f9.results.toList [I, I] s).map (fun r => (r.1, r.2.1)) | _ => none) (fun _ _ => none) := by kernel_rfl
def s9 (k : Nat) : CSem := semD [.str, I] [I, I] (fun d => impl k d.1 d.2.1) (fun r => (r.1, r.2, ()))
theorem s9ok (k : Nat) : SemOk Try.prog 9 (s9 k) :=
  fn_data (E9ok k) (ts := [.str, I]) (rs := [I, I]) (fun r => (r.1, r.2.1)) (fun r => rfl) Try.func9 (by kernel_rfl) Try.call9 (loopsOk_list (l := []) (by kernel_rfl) (by simp)) (by rw [Try.ntmps9]; decide) (impl_eq k)

/-! spec.ReportPlace -/
def spec_l0 : Nat → Str → Int → Int → Int → Int → Option (Int × Int × Int)
  | 0, _, _, _, _, _ => none
  | k + 1, text, at', line, col, i =>
    bif decide (i < at') then (idx text i).bind fun b =>
      bif ((b.toNat : Int) == 10) then spec_l0 k text at' (w64 (line + 1)) 1 (w64 (i + 1)) else spec_l0 k text at' line (w64 (col + 1)) (w64 (i + 1))
    else some (line, col, i)
noncomputable def L8 : Lay := ⟨Try.f8.ntmps, [], [(.r 0, .d .str), (.r 1, .d I)], [(.r 6, .d I), (.r 7, .d I), (.r 8, .d I)]⟩
noncomputable def E8 : Env := ⟨tab, fun n => match n with | 11 => some s11 | _ => none, fun _ => none, fun n => n + 10000⟩
theorem E8ok : EnvOk Try.prog E8 := by
  refine ⟨tabOk, fun f s h => ?_, fun f s h => ?_, (fun _ _ h => (by cases h))⟩
  · unfold E8 at h; simp only at h
    split at h <;> cases h
    exact s11ok
  · unfold E8 at h; simp only at h
    split at h <;> cases h
    exact semD_cong _ _ _ _
noncomputable def out8 (c : PV L8.cs) (e : Exit) (s : St) : Option (Int × Int × Int) := match e with
  | .exit 0 => (rnd (L8.with [(.r 6, .d I), (.r 7, .d I), (.r 8, .d I)]) (keepAL L8.cs c) s).map (fun o => (o.1, o.2.1, o.2.2.1))
  | _ => none
theorem spec_l0_eq (k : Nat) (c : PV L8.cs) (v : PV L8.vs) : spec_l0 (k + 1) c.1 c.2.1 v.1 v.2.1 v.2.2.1 = runC E8 (loopBody Try.f8 0) (L8.st c v) (fun e s => match e with
   | .normal => (rnd L8 (keepAL L8.cs c) s).bind (fun v => spec_l0 k c.1 c.2.1 v.1 v.2.1 v.2.2.1)
   | e => out8 c e s) (fun _ _ => none) := by kernel_rfl
noncomputable def l8 (k : Nat) : LoopSem := loopSem 0 L8 (fun c v => spec_l0 k c.1 c.2.1 v.1 v.2.1 v.2.2.1) (fun o f _ => f (.exit 0) [(.r 6, .d I), (.r 7, .d I), (.r 8, .d I)] (o.1, o.2.1, o.2.2, ()))
theorem l8ok (k : Nat) : LoopOk Try.prog 0 (.loop (loopBody Try.f8 0)) (l8 k) :=
  loop_ok E8ok (L := L8) (l := fun k (c : PV L8.cs) (v : PV L8.vs) => spec_l0 k c.1 c.2.1 v.1 v.2.1 v.2.2.1) (out := out8) (pout := fun _ _ _ => none) (loopsOk_list (l := []) (by kernel_rfl) (by simp)) (fun _ _ => rfl) spec_l0_eq
    (fun c e s x h => by
      unfold out8 at h
      split at h
      · obtain ⟨o, h1, rfl⟩ := Option.map_eq_some_iff.1 h; exact ⟨_, o, h1, fun _ _ _ => rfl⟩
      · cases h) (fun _ _ _ _ h => by cases h) k
noncomputable def E8b (k : Nat) : Env := ⟨tab, fun n => match n with | 11 => some s11 | _ => none, fun n => match n with | 0 => some (l8 k) | _ => none, fun n => n + 10000⟩
theorem E8bok (k : Nat) : EnvOk Try.prog (E8b k) := by
  refine ⟨tabOk, E8ok.sem, E8ok.cong, fun i L h => ?_⟩
  unfold E8b at h
  simp only at h
  split at h
  · cases h; exact loop_cong _ _ _ _
  · cases h
def spec (k : Nat) (text : Str) (at' : Int) : Option (Int × Int) :=
  (l1In at' 0 (text.length : Int)).bind fun b => bif !b then some (0, 0) else (spec_l0 k text at' 1 1 0).bind fun o => some (o.1, o.2.1)
theorem spec_eq (k : Nat) (d : DL [.str, I]) : spec k d.1 d.2.1 = runC (E8b k) (bodyOf Try.f8) (stD Try.f8.ntmps [.str, I] d) (fun e s => match e with | .normal => (retD Try.f8.results.toList [I, I] s).map (fun r => (r.1, r.2.1)) | .ret => (retD Try.f8.results.toList [I, I] s).map (fun r => (r.1, r.2.1)) | _ => none) (fun _ _ => none) := by kernel_rfl
def s8 (k : Nat) : CSem := semD [.str, I] [I, I] (fun d => spec k d.1 d.2.1) (fun r => (r.1, r.2, ()))
theorem s8ok (k : Nat) : SemOk Try.prog 8 (s8 k) :=
  fn_data (E8bok k) (ts := [.str, I]) (rs := [I, I]) (fun r => (r.1, r.2.1)) (fun r => rfl) Try.func8 (by kernel_rfl) Try.call8 (loopsOk_list (l := [(0, .loop (loopBody Try.f8 0), l8 k)]) (by kernel_rfl) (by intro x hx; simp only [List.mem_singleton] at hx; subst hx; exact l8ok k)) (by rw [Try.ntmps8]; decide) (spec_eq k)

/-! laws.FnExactReportPlace -/
def law (k : Nat) (text : Str) (at' : Int) : Option Bool :=
  bif decide ((text.length : Int) > 1048576) then some true else
    (spec k text at').bind fun a => (impl k text at').bind fun b => bif b.1 != a.1 then some false else bif b.2 != a.2 then some false else some true
noncomputable def E4 (k : Nat) : Env := ⟨tab, fun n => match n with | 8 => some (s8 k) | 9 => some (s9 k) | _ => none, fun _ => none, fun n => n + 10000⟩
theorem E4ok (k : Nat) : EnvOk Try.prog (E4 k) := by
  refine ⟨tabOk, fun f s h => ?_, fun f s h => ?_, (fun _ _ h => (by cases h))⟩
  · unfold E4 at h; simp only at h
    split at h <;> cases h
    · exact s8ok k
    · exact s9ok k
  · unfold E4 at h; simp only at h
    split at h <;> cases h
    · exact semD_cong _ _ _ _
    · exact semD_cong _ _ _ _
theorem law_eq (k : Nat) (d : DL [.str, I]) : law k d.1 d.2.1 = runC (E4 k) (bodyOf Try.f4) (stD Try.f4.ntmps [.str, I] d) (fun e s => match e with | .normal => (retD Try.f4.results.toList [.bool] s).map (fun r => r.1) | .ret => (retD Try.f4.results.toList [.bool] s).map (fun r => r.1) | _ => none) (fun _ _ => none) := by kernel_rfl
def s4 (k : Nat) : CSem := semD [.str, I] [.bool] (fun d => law k d.1 d.2.1) (fun r => (r, ()))
theorem s4ok (k : Nat) : SemOk Try.prog 4 (s4 k) :=
  fn_data (E4ok k) (ts := [.str, I]) (rs := [.bool]) (fun r => r.1) (fun r => rfl) Try.func4 (by kernel_rfl) Try.call4 (loopsOk_list (l := []) (by kernel_rfl) (by simp)) (by rw [Try.ntmps4]; decide) (law_eq k)
end Go.Fx.RP
