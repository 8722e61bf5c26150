/- Parts: R3b. -/
import Derived.Test.YtafpgfdjfnoagaaChecked
import Derived.Test.YtafpgfdjfnoagaaStrCount
import Derived.Test.YtafpgfdjfnoagaaR3a
/- What the functions behind 'FnReportPlace' compute, and the proof that the code computes it. Printed by gen2.py. -/
namespace Go.Fx.R3
open Go Go.Fx Go.Proofs
set_option linter.unusedVariables false

/-! strings.Count of one byte -/
def cntF (s sub : Str) : Option (Int × Unit) := match sub with
  | [c] => some (Lib.countByte s c, ())
  | _ => none
def s_cnt : CSem := semD [.str, .str] [I] (fun d => cntF d.1 d.2.1) id
theorem g_cnt : Good Try.prog gt 12 s_cnt := by
  refine ⟨semOk_below (ts := [.str, .str]) (rs := [I]) (dec := id) rfl rfl Try.call12 fun d y w hg h => ?_, semD_det _ _ _ _, semD_cong _ _ _ _⟩
  obtain ⟨s, sub, u⟩ := d
  simp only [cntF] at h
  split at h
  · rename_i c
    cases h
    refine (Try.strings_Count_one ⟨s.toArray⟩ c w).mono fun e w' ⟨he, hw⟩ => ?_
    subst hw
    exact ⟨by rw [he]; simp [svals, sval, retval], Go.RowKit.Below.refl _ _⟩
  · cases h

/-! loop.example/sedge/spec.l1In -/
def S_spec_l1In (f : Int → Int → Int → Option (Bool × Unit)) : CSem := semD [I, I, I] [.bool] (fun d => f d.1 d.2.1 d.2.2.1) id
def spec_l1In (n : Int) (low : Int) (high : Int) : Option (Bool × Unit) :=
  joinK (fun (v : Bool) =>
   some (v, ())) fun jx1 =>
  bif decide (n ≥ low) then
   jx1 (decide (n ≤ high))
  else
   jx1 false
def E_spec_l1In : Env := envOf gt tab [] [] []
theorem e_spec_l1In : EnvOk Try.prog (E_spec_l1In) := env_ok mix tabOk trivial trivial
theorem eq_spec_l1In (d : DL [I, I, I]) : spec_l1In d.1 d.2.1 d.2.2.1 = runC (E_spec_l1In) (bodyOf Try.f11) (stD Try.f11.ntmps [I, I, I] d) (kD Try.f11.results.toList [.bool]) (fun _ _ => none) := by kernel_rfl
theorem g_spec_l1In : Good Try.prog gt 11 (S_spec_l1In (spec_l1In)) := good_data (e_spec_l1In) (ts := [I, I, I]) (rs := [.bool]) (F := fun d => spec_l1In d.1 d.2.1 d.2.2.1) Try.func11 Try.call11 (by kernel_rfl) (codes_ok (l := []) (by kernel_rfl) trivial) (by kernel_rfl) (eq_spec_l1In)

/-! loop.example/sedge/spec.ReportPlace -/
def S_spec_ReportPlace (f : Str → Int → Option (Int × Int × Unit)) : CSem := semD [.str, I] [I, I] (fun d => f d.1 d.2.1) id
def spec_ReportPlace_l0 (q : Nat) : Nat → Str → Int → Int → Int → Int → Option (Int × Int × Unit)
  | 0, _, _, _, _, _ => none
  | k + 1, text2, at2, line, col, i1 =>
    bif decide (i1 < at2) then
     joinK (fun (jv : Int × Int) =>
      spec_ReportPlace_l0 q k text2 at2 (jv.1) (jv.2) (w64 (i1 + 1))) fun jx1 =>
     (idx text2 i1).bind fun b =>
     bif (b.toNat : Int) == 10 then
      jx1 ((w64 (line + 1)), 1)
     else
      jx1 (line, (w64 (col + 1)))
    else
     some (line, col, ())
def L_spec_ReportPlace_l0 : Lay := ⟨29, [], [(.r 0, .d .str), (.r 1, .d I)], [(.r 6, .d I), (.r 7, .d I), (.r 8, .d I)]⟩
def V_spec_ReportPlace_l0 : List VL := [.ex (.exit 0) [(.r 6, .d I), (.r 7, .d I)]]
def spec_ReportPlace (k : Nat) (text : Str) (at1 : Int) : Option (Int × Int × Unit) :=
  (spec_l1In at1 0 (text.length : Int)).bind fun r1 =>
  bif !r1.1 then
   some (0, 0, ())
  else
   (spec_ReportPlace_l0 k k text at1 1 1 0).bind fun o =>
   some (o.1, o.2.1, ())
def E_spec_ReportPlace (k : Nat) : Env := envOf gt tab [(11, S_spec_l1In spec_l1In)] [(0, loopSem 0 L_spec_ReportPlace_l0 (fun c v => spec_ReportPlace_l0 k k c.1 c.2.1 v.1 v.2.1 v.2.2.1) (dkL V_spec_ReportPlace_l0))] []
theorem e_spec_ReportPlace (k : Nat) : EnvOk Try.prog (E_spec_ReportPlace k) := env_ok mix tabOk ⟨g_spec_l1In, trivial⟩ ⟨loop_cong _ _ _ _, trivial⟩
theorem eq_spec_ReportPlace_l0 (k q : Nat) (c : PV L_spec_ReportPlace_l0.cs) (v : PV L_spec_ReportPlace_l0.vs) : spec_ReportPlace_l0 k (q + 1) c.1 c.2.1 v.1 v.2.1 v.2.2.1 = runC (E_spec_ReportPlace k) (loopBody Try.f8 0) (L_spec_ReportPlace_l0.st c v) (kL L_spec_ReportPlace_l0 V_spec_ReportPlace_l0 c (fun v => spec_ReportPlace_l0 k q c.1 c.2.1 v.1 v.2.1 v.2.2.1)) (kLP L_spec_ReportPlace_l0 V_spec_ReportPlace_l0 c) := by kernel_rfl
theorem C_spec_ReportPlace_l0 (k q : Nat) : CodeOk Try.prog gt (blkC Try.f8 0) (loopSem 0 L_spec_ReportPlace_l0 (fun c v => spec_ReportPlace_l0 k q c.1 c.2.1 v.1 v.2.1 v.2.2.1) (dkL V_spec_ReportPlace_l0)) := loopV_ok (e_spec_ReportPlace k) (id := 0) (f := Try.f8) (L := L_spec_ReportPlace_l0) (vs := V_spec_ReportPlace_l0) (l := fun q c v => spec_ReportPlace_l0 k q c.1 c.2.1 v.1 v.2.1 v.2.2.1) (codes_ok (l := []) (by kernel_rfl) trivial) (fun _ _ => rfl) (eq_spec_ReportPlace_l0 k) q
theorem eq_spec_ReportPlace (k : Nat) (d : DL [.str, I]) : spec_ReportPlace k d.1 d.2.1 = runC (E_spec_ReportPlace k) (bodyOf Try.f8) (stD Try.f8.ntmps [.str, I] d) (kD Try.f8.results.toList [I, I]) (fun _ _ => none) := by kernel_rfl
theorem g_spec_ReportPlace (k : Nat) : Good Try.prog gt 8 (S_spec_ReportPlace (spec_ReportPlace k)) := good_data (e_spec_ReportPlace k) (ts := [.str, I]) (rs := [I, I]) (F := fun d => spec_ReportPlace k d.1 d.2.1) Try.func8 Try.call8 (by kernel_rfl) (codes_ok (l := [(blkC Try.f8 0, loopSem 0 L_spec_ReportPlace_l0 (fun c v => spec_ReportPlace_l0 k k c.1 c.2.1 v.1 v.2.1 v.2.2.1) (dkL V_spec_ReportPlace_l0))]) (by kernel_rfl) ⟨C_spec_ReportPlace_l0 k k, trivial⟩) (by kernel_rfl) (eq_spec_ReportPlace k)

/-! internal/bytealg.LastIndexByteString -/
def S_bytealg_LastIndexByteString (f : Str → Int → Option (Int × Unit)) : CSem := semD [.str, U] [I] (fun d => f d.1 d.2.1) id
def bytealg_LastIndexByteString_l0 (q : Nat) : Nat → Str → Int → Int → Option (((Unit) ⊕ (Int × Unit)))
  | 0, _, _, _ => none
  | k + 1, s2, c2, i1 =>
    bif decide (i1 ≥ 0) then
     (idx s2 i1).bind fun b =>
     bif (b.toNat : Int) == c2 then
      some (.inr (i1, ()))
     else
      bytealg_LastIndexByteString_l0 q k s2 c2 (w64 (i1 - 1))
    else
     some (.inl ())
def L_bytealg_LastIndexByteString_l0 : Lay := ⟨19, [], [(.r 0, .d .str), (.r 1, .d U)], [(.r 5, .d I)]⟩
def V_bytealg_LastIndexByteString_l0 : List VL := [.ex (.exit 0) [], .ex .ret [(.r 4, .d I)]]
def bytealg_LastIndexByteString (k : Nat) (s : Str) (c : Int) : Option (Int × Unit) :=
  (bytealg_LastIndexByteString_l0 k k s c (w64 ((s.length : Int) - 1))).bind fun r => match r with
  | .inl o =>
   some ((-1), ())
  | .inr o2 =>
   some (o2.1, ())
def E_bytealg_LastIndexByteString (k : Nat) : Env := envOf gt tab [] [(0, loopSem 0 L_bytealg_LastIndexByteString_l0 (fun c v => bytealg_LastIndexByteString_l0 k k c.1 c.2.1 v.1) (dkL V_bytealg_LastIndexByteString_l0))] []
theorem e_bytealg_LastIndexByteString (k : Nat) : EnvOk Try.prog (E_bytealg_LastIndexByteString k) := env_ok mix tabOk trivial ⟨loop_cong _ _ _ _, trivial⟩
theorem eq_bytealg_LastIndexByteString_l0 (k q : Nat) (c : PV L_bytealg_LastIndexByteString_l0.cs) (v : PV L_bytealg_LastIndexByteString_l0.vs) : bytealg_LastIndexByteString_l0 k (q + 1) c.1 c.2.1 v.1 = runC (E_bytealg_LastIndexByteString k) (loopBody Try.f20 0) (L_bytealg_LastIndexByteString_l0.st c v) (kL L_bytealg_LastIndexByteString_l0 V_bytealg_LastIndexByteString_l0 c (fun v => bytealg_LastIndexByteString_l0 k q c.1 c.2.1 v.1)) (kLP L_bytealg_LastIndexByteString_l0 V_bytealg_LastIndexByteString_l0 c) := by kernel_rfl
theorem C_bytealg_LastIndexByteString_l0 (k q : Nat) : CodeOk Try.prog gt (blkC Try.f20 0) (loopSem 0 L_bytealg_LastIndexByteString_l0 (fun c v => bytealg_LastIndexByteString_l0 k q c.1 c.2.1 v.1) (dkL V_bytealg_LastIndexByteString_l0)) := loopV_ok (e_bytealg_LastIndexByteString k) (id := 0) (f := Try.f20) (L := L_bytealg_LastIndexByteString_l0) (vs := V_bytealg_LastIndexByteString_l0) (l := fun q c v => bytealg_LastIndexByteString_l0 k q c.1 c.2.1 v.1) (codes_ok (l := []) (by kernel_rfl) trivial) (fun _ _ => rfl) (eq_bytealg_LastIndexByteString_l0 k) q
theorem eq_bytealg_LastIndexByteString (k : Nat) (d : DL [.str, U]) : bytealg_LastIndexByteString k d.1 d.2.1 = runC (E_bytealg_LastIndexByteString k) (bodyOf Try.f20) (stD Try.f20.ntmps [.str, U] d) (kD Try.f20.results.toList [I]) (fun _ _ => none) := by kernel_rfl
theorem g_bytealg_LastIndexByteString (k : Nat) : Good Try.prog gt 20 (S_bytealg_LastIndexByteString (bytealg_LastIndexByteString k)) := good_data (e_bytealg_LastIndexByteString k) (ts := [.str, U]) (rs := [I]) (F := fun d => bytealg_LastIndexByteString k d.1 d.2.1) Try.func20 Try.call20 (by kernel_rfl) (codes_ok (l := [(blkC Try.f20 0, loopSem 0 L_bytealg_LastIndexByteString_l0 (fun c v => bytealg_LastIndexByteString_l0 k k c.1 c.2.1 v.1) (dkL V_bytealg_LastIndexByteString_l0))]) (by kernel_rfl) ⟨C_bytealg_LastIndexByteString_l0 k k, trivial⟩) (by kernel_rfl) (eq_bytealg_LastIndexByteString k)

/-! strings.LastIndexByte -/
def S_strings_LastIndexByte (f : Str → Int → Option (Int × Unit)) : CSem := semD [.str, U] [I] (fun d => f d.1 d.2.1) id
def strings_LastIndexByte (k : Nat) (s : Str) (c : Int) : Option (Int × Unit) :=
  (bytealg_LastIndexByteString k s c).bind fun r1 =>
  some (r1.1, ())
def E_strings_LastIndexByte (k : Nat) : Env := envOf gt tab [(20, S_bytealg_LastIndexByteString (bytealg_LastIndexByteString k))] [] []
theorem e_strings_LastIndexByte (k : Nat) : EnvOk Try.prog (E_strings_LastIndexByte k) := env_ok mix tabOk ⟨g_bytealg_LastIndexByteString k, trivial⟩ trivial
theorem eq_strings_LastIndexByte (k : Nat) (d : DL [.str, U]) : strings_LastIndexByte k d.1 d.2.1 = runC (E_strings_LastIndexByte k) (bodyOf Try.f13) (stD Try.f13.ntmps [.str, U] d) (kD Try.f13.results.toList [I]) (fun _ _ => none) := by kernel_rfl
theorem g_strings_LastIndexByte (k : Nat) : Good Try.prog gt 13 (S_strings_LastIndexByte (strings_LastIndexByte k)) := good_data (e_strings_LastIndexByte k) (ts := [.str, U]) (rs := [I]) (F := fun d => strings_LastIndexByte k d.1 d.2.1) Try.func13 Try.call13 (by kernel_rfl) (codes_ok (l := []) (by kernel_rfl) trivial) (by kernel_rfl) (eq_strings_LastIndexByte k)

/-! loop.example/sedge/impl.ReportPlace -/
def S_impl_ReportPlace (f : Str → Int → Option (Int × Int × Unit)) : CSem := semD [.str, I] [I, I] (fun d => f d.1 d.2.1) id
def impl_ReportPlace (k : Nat) (text : Str) (at1 : Int) : Option (Int × Int × Unit) :=
  joinK (fun (v : Bool) =>
   bif v then
    some (0, 0, ())
   else
    (sub text 0 at1).bind fun l =>
    (cntF l ([10] : Str)).bind fun r1 =>
    (strings_LastIndexByte k l 10).bind fun r2 =>
    some ((w64 (r1.1 + 1)), (w64 (at1 - r2.1)), ())) fun jx1 =>
  bif decide (at1 < 0) then
   jx1 true
  else
   jx1 (decide (at1 > (text.length : Int)))
def E_impl_ReportPlace (k : Nat) : Env := envOf gt tab [(12, s_cnt), (13, S_strings_LastIndexByte (strings_LastIndexByte k))] [] []
theorem e_impl_ReportPlace (k : Nat) : EnvOk Try.prog (E_impl_ReportPlace k) := env_ok mix tabOk ⟨g_cnt, g_strings_LastIndexByte k, trivial⟩ trivial
theorem eq_impl_ReportPlace (k : Nat) (d : DL [.str, I]) : impl_ReportPlace k d.1 d.2.1 = runC (E_impl_ReportPlace k) (bodyOf Try.f9) (stD Try.f9.ntmps [.str, I] d) (kD Try.f9.results.toList [I, I]) (fun _ _ => none) := by kernel_rfl
theorem g_impl_ReportPlace (k : Nat) : Good Try.prog gt 9 (S_impl_ReportPlace (impl_ReportPlace k)) := good_data (e_impl_ReportPlace k) (ts := [.str, I]) (rs := [I, I]) (F := fun d => impl_ReportPlace k d.1 d.2.1) Try.func9 Try.call9 (by kernel_rfl) (codes_ok (l := []) (by kernel_rfl) trivial) (by kernel_rfl) (eq_impl_ReportPlace k)

/-! loop.example/sedge/laws.FnReportPlace -/
def S_laws_FnReportPlace (f : List Int → Option (Bool × Unit)) : CSem := semD [(.slice U)] [.bool] (fun d => f d.1) id
def laws_FnReportPlace_l2 (q : Nat) : Nat → Str → Int → Option (Int × Unit)
  | 0, _, _ => none
  | k + 1, s2, at2 =>
    joinK (fun (v4 : Bool) =>
     bif v4 then
      laws_FnReportPlace_l2 q k s2 (w64 (at2 + 1))
     else
      some (at2, ())) fun jx1 =>
    bif decide (at2 < (s2.length : Int)) then
     (idx s2 at2).bind fun b =>
     jx1 ((b.toNat : Int) != 10)
    else
     jx1 false
def L_laws_FnReportPlace_l2 : Lay := ⟨86, [], [(.r 3, .d .str), (.r 4, .d I), (.r 5, .d I), (.r 6, .d I), (.r 10, .d I)], [(.r 9, .d I)]⟩
def V_laws_FnReportPlace_l2 : List VL := [.ex (.exit 2) [(.r 9, .d I)]]
def laws_FnReportPlace_l0 (q : Nat) : Nat → Str → Int → Int → Int → Option (Int × Unit)
  | 0, _, _, _, _ => none
  | k + 1, s, l, at1, k1 =>
    bif decide (k1 < l) then
     (laws_FnReportPlace_l2 q q s at1).bind fun o =>
     laws_FnReportPlace_l0 q k s l (w64 (o.1 + 1)) (w64 (k1 + 1))
    else
     some (at1, ())
def L_laws_FnReportPlace_l0 : Lay := ⟨86, [], [(.r 3, .d .str), (.r 4, .d I), (.r 5, .d I), (.r 6, .d I)], [(.r 9, .d I), (.r 10, .d I)]⟩
def V_laws_FnReportPlace_l0 : List VL := [.ex (.exit 0) [(.r 9, .d I)]]
def laws_FnReportPlace (k : Nat) (code : List Int) : Option (Bool × Unit) :=
  bif decide ((code.length : Int) > 1048576) then
   some (true, ())
  else
   (spec_DrawReportPlace k code).bind fun r1 =>
   (impl_ReportPlace k r1.1 r1.2.1).bind fun r2 =>
   (spec_ReportPlace k r1.1 r1.2.1).bind fun r3 =>
   joinK (fun (v : Bool) =>
    bif v then
     some (false, ())
    else
     joinK (fun (v2 : Bool) =>
      bif v2 then
       joinK (fun (v3 : Bool) =>
        some (v3, ())) fun jx3 =>
       bif r2.1 == 0 then
        jx3 (r2.2.1 == 0)
       else
        jx3 false
      else
       (laws_FnReportPlace_l0 k k r1.1 r2.1 0 1).bind fun o =>
       joinK (fun (v4 : Bool) =>
        joinK (fun (v5 : Bool) =>
         some (v5, ())) fun jx5 =>
        bif v4 then
         jx5 ((w64 ((w64 (o.1 + r2.2.1)) - 1)) == r1.2.1)
        else
         jx5 false) fun jx4 =>
       bif decide (r2.1 > 0) then
        jx4 (decide (r2.2.1 > 0))
       else
        jx4 false) fun jx2 =>
     bif decide (r1.2.1 < 0) then
      jx2 true
     else
      jx2 (decide (r1.2.1 > (r1.1.length : Int)))) fun jx1 =>
   bif r2.1 != r3.1 then
    jx1 true
   else
    jx1 (r2.2.1 != r3.2.1)
def E_laws_FnReportPlace (k : Nat) : Env := envOf gt tab [(8, S_spec_ReportPlace (spec_ReportPlace k)), (9, S_impl_ReportPlace (impl_ReportPlace k)), (10, S_spec_DrawReportPlace (spec_DrawReportPlace k))] [(2, loopSem 2 L_laws_FnReportPlace_l2 (fun c v => laws_FnReportPlace_l2 k k c.1 v.1) (dkL V_laws_FnReportPlace_l2)), (0, loopSem 0 L_laws_FnReportPlace_l0 (fun c v => laws_FnReportPlace_l0 k k c.1 c.2.2.1 v.1 v.2.1) (dkL V_laws_FnReportPlace_l0))] []
theorem e_laws_FnReportPlace (k : Nat) : EnvOk Try.prog (E_laws_FnReportPlace k) := env_ok mix tabOk ⟨g_spec_ReportPlace k, g_impl_ReportPlace k, g_spec_DrawReportPlace k, trivial⟩ ⟨loop_cong _ _ _ _, loop_cong _ _ _ _, trivial⟩
theorem eq_laws_FnReportPlace_l2 (k q : Nat) (c : PV L_laws_FnReportPlace_l2.cs) (v : PV L_laws_FnReportPlace_l2.vs) : laws_FnReportPlace_l2 k (q + 1) c.1 v.1 = runC (E_laws_FnReportPlace k) (loopBody Try.f5 2) (L_laws_FnReportPlace_l2.st c v) (kL L_laws_FnReportPlace_l2 V_laws_FnReportPlace_l2 c (fun v => laws_FnReportPlace_l2 k q c.1 v.1)) (kLP L_laws_FnReportPlace_l2 V_laws_FnReportPlace_l2 c) := by kernel_rfl
theorem C_laws_FnReportPlace_l2 (k q : Nat) : CodeOk Try.prog gt (blkC Try.f5 2) (loopSem 2 L_laws_FnReportPlace_l2 (fun c v => laws_FnReportPlace_l2 k q c.1 v.1) (dkL V_laws_FnReportPlace_l2)) := loopV_ok (e_laws_FnReportPlace k) (id := 2) (f := Try.f5) (L := L_laws_FnReportPlace_l2) (vs := V_laws_FnReportPlace_l2) (l := fun q c v => laws_FnReportPlace_l2 k q c.1 v.1) (codes_ok (l := []) (by kernel_rfl) trivial) (fun _ _ => rfl) (eq_laws_FnReportPlace_l2 k) q
theorem eq_laws_FnReportPlace_l0 (k q : Nat) (c : PV L_laws_FnReportPlace_l0.cs) (v : PV L_laws_FnReportPlace_l0.vs) : laws_FnReportPlace_l0 k (q + 1) c.1 c.2.2.1 v.1 v.2.1 = runC (E_laws_FnReportPlace k) (loopBody Try.f5 0) (L_laws_FnReportPlace_l0.st c v) (kL L_laws_FnReportPlace_l0 V_laws_FnReportPlace_l0 c (fun v => laws_FnReportPlace_l0 k q c.1 c.2.2.1 v.1 v.2.1)) (kLP L_laws_FnReportPlace_l0 V_laws_FnReportPlace_l0 c) := by kernel_rfl
theorem C_laws_FnReportPlace_l0 (k q : Nat) : CodeOk Try.prog gt (blkC Try.f5 0) (loopSem 0 L_laws_FnReportPlace_l0 (fun c v => laws_FnReportPlace_l0 k q c.1 c.2.2.1 v.1 v.2.1) (dkL V_laws_FnReportPlace_l0)) := loopV_ok (e_laws_FnReportPlace k) (id := 0) (f := Try.f5) (L := L_laws_FnReportPlace_l0) (vs := V_laws_FnReportPlace_l0) (l := fun q c v => laws_FnReportPlace_l0 k q c.1 c.2.2.1 v.1 v.2.1) (codes_ok (l := [(blkC Try.f5 2, loopSem 2 L_laws_FnReportPlace_l2 (fun c v => laws_FnReportPlace_l2 k k c.1 v.1) (dkL V_laws_FnReportPlace_l2))]) (by kernel_rfl) ⟨C_laws_FnReportPlace_l2 k k, trivial⟩) (fun _ _ => rfl) (eq_laws_FnReportPlace_l0 k) q
theorem eq_laws_FnReportPlace (k : Nat) (d : DL [(.slice U)]) : laws_FnReportPlace k d.1 = runC (E_laws_FnReportPlace k) (bodyOf Try.f5) (stD Try.f5.ntmps [(.slice U)] d) (kD Try.f5.results.toList [.bool]) (fun _ _ => none) := by kernel_rfl
theorem g_laws_FnReportPlace (k : Nat) : Good Try.prog gt 5 (S_laws_FnReportPlace (laws_FnReportPlace k)) := good_data (e_laws_FnReportPlace k) (ts := [(.slice U)]) (rs := [.bool]) (F := fun d => laws_FnReportPlace k d.1) Try.func5 Try.call5 (by kernel_rfl) (codes_ok (l := [(blkC Try.f5 0, loopSem 0 L_laws_FnReportPlace_l0 (fun c v => laws_FnReportPlace_l0 k k c.1 c.2.2.1 v.1 v.2.1) (dkL V_laws_FnReportPlace_l0))]) (by kernel_rfl) ⟨C_laws_FnReportPlace_l0 k k, trivial⟩) (by kernel_rfl) (eq_laws_FnReportPlace k)
end Go.Fx.R3
