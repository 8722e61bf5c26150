/- Parts: R3a. -/
import Derived.Test.YtafpgfdjfnoagaaChecked
import Derived.Test.YtafpgfdjfnoagaaFxd
/- What the functions behind 'FnReportPlace' compute, and the proof that the code computes it. Printed by gen2.py. -/
namespace Go.Fx.R3
open Go Go.Fx Go.Proofs
set_option linter.unusedVariables false
theorem mix : Try.prog.follows .mixedOrders = true := by kernel_rfl
def gt : Nat → Option GA := fun _ => none
def i3 : TI := ⟨1, 8, some I, .int .i64, [.int .i64 0]⟩
theorem ti3 : TIok Try.prog 3 i3 := ti_of (i := Try.t3) (by kernel_rfl) Try.underlying3 (by kernel_rfl) (by kernel_rfl) (by kernel_rfl)
def i5 : TI := ⟨1, 1, some U, .int .u8, [.int .u8 0]⟩
theorem ti5 : TIok Try.prog 5 i5 := ti_of (i := Try.t5) (by kernel_rfl) Try.underlying5 (by kernel_rfl) (by kernel_rfl) (by kernel_rfl)
def i9 : TI := ⟨1, 16, some .str, .str, [.string ⟨#[]⟩]⟩
theorem ti9 : TIok Try.prog 9 i9 := ti_of (i := Try.t9) (by kernel_rfl) Try.underlying9 (by kernel_rfl) (by kernel_rfl) (by kernel_rfl)
def i27 : TI := ⟨1, 24, some (.slice U), .slice 5, [.slice none 0 0]⟩
theorem ti27 : TIok Try.prog 27 i27 := ti_of (i := Try.t27) (by kernel_rfl) Try.underlying27 (by kernel_rfl) (by kernel_rfl) (by kernel_rfl)
def i34 : TI := ⟨1, 8, none, .ptr 40, [.pointer none]⟩
theorem ti34 : TIok Try.prog 34 i34 := ti_of (i := Try.t34) (by kernel_rfl) Try.underlying34 (by kernel_rfl) (by kernel_rfl) (by kernel_rfl)
def i40 : TI := ⟨2, 32, some (.pair (.slice U) I), .struct [(0, 27), (1, 3)], [.slice none 0 0, .int .i64 0]⟩
theorem ti40 : TIok Try.prog 40 i40 := ti_of (i := Try.t40) (by kernel_rfl) Try.underlying40 (by kernel_rfl) (by kernel_rfl) (by kernel_rfl)
def i41 : TI := ⟨1, 8, none, .ptr 44, [.pointer none]⟩
theorem ti41 : TIok Try.prog 41 i41 := ti_of (i := Try.t41) (by kernel_rfl) Try.underlying41 (by kernel_rfl) (by kernel_rfl) (by kernel_rfl)
def i42 : TI := ⟨1, 24, some (.slice .str), .slice 9, [.slice none 0 0]⟩
theorem ti42 : TIok Try.prog 42 i42 := ti_of (i := Try.t42) (by kernel_rfl) Try.underlying42 (by kernel_rfl) (by kernel_rfl) (by kernel_rfl)
def i44 : TI := ⟨5, 88, none, .struct [(0, 34), (1, 42), (2, 42), (3, 42), (4, 3)], [.pointer none, .slice none 0 0, .slice none 0 0, .slice none 0 0, .int .i64 0]⟩
theorem ti44 : TIok Try.prog 44 i44 := ti_of (i := Try.t44) (by kernel_rfl) Try.underlying44 (by kernel_rfl) (by kernel_rfl) (by kernel_rfl)
def tab : List (Nat × TI) := [(3, i3), (5, i5), (9, i9), (27, i27), (34, i34), (40, i40), (41, i41), (42, i42), (44, i44)]
theorem tabOk : TabL Try.prog tab := ⟨ti3, ti5, ti9, ti27, ti34, ti40, ti41, ti42, ti44, trivial⟩

/-! loop.example/sedge/spec.l1Open -/
def L_spec_l1Open : Lay := ⟨11, [], [], [(.r 0, .d (.slice U))]⟩
def V_spec_l1Open : List VO := [.ret [(.r 2, .lit (.ptr 40 0)), (.l 40 0, .d (.slice U)), (.l 40 1, .d I)] [(40, 2, 40)]]
def S_spec_l1Open (f : List Int → Option (List Int × Int × Unit)) : CSem := semO L_spec_l1Open (fun c v => f v.1) (dkV [2] V_spec_l1Open)
def spec_l1Open (code : List Int) : Option (List Int × Int × Unit) :=
  joinK (fun (code2 : List Int) =>
   some (code2, 0, ())) fun jx1 =>
  bif decide ((code.length : Int) > 2000) then
   (sub code 0 2000).bind fun l =>
   jx1 l
  else
   jx1 code
def E_spec_l1Open : Env := envOf gt tab [] [] [(10, 40)]
theorem e_spec_l1Open : EnvOk Try.prog (E_spec_l1Open) := env_ok mix tabOk trivial trivial
theorem eq_spec_l1Open (c : PV L_spec_l1Open.cs) (v : PV L_spec_l1Open.vs) : spec_l1Open v.1 = runC (E_spec_l1Open) (bodyOf Try.f14) (L_spec_l1Open.st c v) (kO L_spec_l1Open V_spec_l1Open c) (kP L_spec_l1Open V_spec_l1Open c) := by kernel_rfl
theorem g_spec_l1Open : Good Try.prog gt 14 (S_spec_l1Open (spec_l1Open)) := good_obj (e_spec_l1Open) (L := L_spec_l1Open) (vs := V_spec_l1Open) (res := [2]) (F := fun c v => spec_l1Open v.1) Try.func14 Try.call14 (by kernel_rfl) (codes_ok (l := []) (by kernel_rfl) trivial) (by kernel_rfl) (by kernel_rfl) (eq_spec_l1Open)

/-! (*loop.example/sedge/spec.l1Rd).pick -/
def L_spec_l1Rd_pick : Lay := ⟨99, [(40, 2)], [(.l 40 0, .d (.slice U))], [(.r 0, .lit (.ptr 40 0)), (.r 1, .d I), (.l 40 1, .d I)]⟩
def V_spec_l1Rd_pick : List VO := [.ret [(.r 4, .d I), (.l 40 1, .d I)] []]
def S_spec_l1Rd_pick (f : List Int → Int → Int → Option (Int × Int × Unit)) : CSem := semO L_spec_l1Rd_pick (fun c v => f c.1 v.2.2.1 v.2.1) (dkV [4] V_spec_l1Rd_pick)
def spec_l1Rd_pick (b : List Int) (p : Int) (n : Int) : Option (Int × Int × Unit) :=
  joinK (fun (v : Bool) =>
   bif v then
    some (0, (w64 (p + 1)), ())
   else
    bif decide ((w64 ((w64 (p + 1)) - 1)) < (b.length : Int)) then
     (idx b (w64 ((w64 (p + 1)) - 1))).bind fun x1 =>
     bif decide (n = 0) then
      none
     else
      some (((w64 (x1)).tmod n), (w64 (p + 1)), ())
    else
     bif decide ((b.length : Int) = 0) then
      none
     else
      (idx b ((w64 ((w64 (p + 1)) - 1)).tmod (b.length : Int))).bind fun x2 =>
      bif decide ((b.length : Int) = 0) then
       none
      else
       (idx b ((w64 ((w64 ((w64 ((w64 (p + 1)) - 1)) * 7)) + 3)).tmod (b.length : Int))).bind fun x3 =>
       bif decide ((b.length : Int) = 0) then
        none
       else
        bif decide (n = 0) then
         none
        else
         some (((bitop .xor .i64 (w64 ((w64 ((w64 ((w64 ((w64 (x2)) * 131)) + (w64 ((w64 (x3)) * 1117)))) + (w64 ((w64 ((w64 (p + 1)) - 1)) * 29)))) + (w64 ((w64 ((w64 ((w64 (p + 1)) - 1)).tdiv (b.length : Int))) * 53)))) (w64 ((w64 ((w64 ((w64 ((w64 ((w64 (x2)) * 131)) + (w64 ((w64 (x3)) * 1117)))) + (w64 ((w64 ((w64 (p + 1)) - 1)) * 29)))) + (w64 ((w64 ((w64 ((w64 (p + 1)) - 1)).tdiv (b.length : Int))) * 53)))).tdiv 64))).tmod n), (w64 (p + 1)), ())) fun jx1 =>
  bif decide (n < 1) then
   jx1 true
  else
   jx1 ((b.length : Int) == 0)
def E_spec_l1Rd_pick : Env := envOf gt tab [] [] []
theorem e_spec_l1Rd_pick : EnvOk Try.prog (E_spec_l1Rd_pick) := env_ok mix tabOk trivial trivial
theorem eq_spec_l1Rd_pick (c : PV L_spec_l1Rd_pick.cs) (v : PV L_spec_l1Rd_pick.vs) : spec_l1Rd_pick c.1 v.2.2.1 v.2.1 = runC (E_spec_l1Rd_pick) (bodyOf Try.f16) (L_spec_l1Rd_pick.st c v) (kO L_spec_l1Rd_pick V_spec_l1Rd_pick c) (kP L_spec_l1Rd_pick V_spec_l1Rd_pick c) := by kernel_rfl
theorem g_spec_l1Rd_pick : Good Try.prog gt 16 (S_spec_l1Rd_pick (spec_l1Rd_pick)) := good_obj (e_spec_l1Rd_pick) (L := L_spec_l1Rd_pick) (vs := V_spec_l1Rd_pick) (res := [4]) (F := fun c v => spec_l1Rd_pick c.1 v.2.2.1 v.2.1) Try.func16 Try.call16 (by kernel_rfl) (codes_ok (l := []) (by kernel_rfl) trivial) (by kernel_rfl) (by kernel_rfl) (eq_spec_l1Rd_pick)

/-! loop.example/sedge/spec.l1Dec -/
def S_spec_l1Dec (f : Int → Option (Str × Unit)) : CSem := semD [I] [.str] (fun d => f d.1) id
def spec_l1Dec_r2 (r_spec_l1Dec : Int → Option (Str × Unit)) (q : Nat) (n2 : Int) : Option (Str × Unit) :=
  (r_spec_l1Dec (w64 (n2.tdiv (-10)))).bind fun r1 =>
  (app ([45] : Str) r1.1).bind fun s =>
  (app s (List.map (fun n => UInt8.ofNat n.toNat) ([(IntKind.u8.wrap ((w64 (48 - (n2.tmod 10)))))]) : Str)).bind fun s2 =>
  some (s2, ())
def L_spec_l1Dec_r2 : Lay := ⟨41, [], [(.r 0, .d I)], []⟩
def V_spec_l1Dec_r2 : List VL := [.ex .normal [(.r 2, .d .str)]]
def spec_l1Dec_r7 (r_spec_l1Dec : Int → Option (Str × Unit)) (q : Nat) (n2 : Int) : Option (Str × Unit) :=
  (r_spec_l1Dec (w64 (n2.tdiv 10))).bind fun r1 =>
  (app r1.1 (List.map (fun n => UInt8.ofNat n.toNat) ([(IntKind.u8.wrap ((w64 (48 + (n2.tmod 10)))))]) : Str)).bind fun s2 =>
  some (s2, ())
def L_spec_l1Dec_r7 : Lay := ⟨41, [], [(.r 0, .d I)], []⟩
def V_spec_l1Dec_r7 : List VL := [.ex .normal [(.r 2, .d .str)]]
def spec_l1Dec_b (r_spec_l1Dec : Int → Option (Str × Unit)) (k : Nat) (n : Int) : Option (Str × Unit) :=
  bif decide (n < (-9)) then
   (spec_l1Dec_r2 r_spec_l1Dec k n).bind fun o =>
   some (o.1, ())
  else
   bif decide (n < 0) then
    (app ([45] : Str) (List.map (fun n => UInt8.ofNat n.toNat) ([(IntKind.u8.wrap ((w64 (48 - n))))]) : Str)).bind fun s =>
    some (s, ())
   else
    bif decide (n < 10) then
     some ((List.map (fun n => UInt8.ofNat n.toNat) ([(IntKind.u8.wrap ((w64 (48 + n))))]) : Str), ())
    else
     (spec_l1Dec_r7 r_spec_l1Dec k n).bind fun o2 =>
     some (o2.1, ())
def E_spec_l1Dec (r_spec_l1Dec : Int → Option (Str × Unit)) (k : Nat) : Env := envOf gt tab [(21, S_spec_l1Dec r_spec_l1Dec)] [(1000002, loopSem 1000002 L_spec_l1Dec_r2 (fun c v => spec_l1Dec_r2 r_spec_l1Dec k c.1) (dkL V_spec_l1Dec_r2)), (1000007, loopSem 1000007 L_spec_l1Dec_r7 (fun c v => spec_l1Dec_r7 r_spec_l1Dec k c.1) (dkL V_spec_l1Dec_r7))] []
theorem e_spec_l1Dec (r_spec_l1Dec : Int → Option (Str × Unit)) (h_spec_l1Dec : Good Try.prog gt 21 (S_spec_l1Dec r_spec_l1Dec)) (k : Nat) : EnvOk Try.prog (E_spec_l1Dec r_spec_l1Dec k) := env_ok mix tabOk ⟨h_spec_l1Dec, trivial⟩ ⟨loop_cong _ _ _ _, loop_cong _ _ _ _, trivial⟩
theorem eq_spec_l1Dec_r2_0 (r_spec_l1Dec : Int → Option (Str × Unit)) (k : Nat) (c : PV L_spec_l1Dec_r2.cs) (v : PV L_spec_l1Dec_r2.vs) : spec_l1Dec_r2 r_spec_l1Dec k c.1 = runD (E_spec_l1Dec r_spec_l1Dec k) (regOps Try.f21 2).toList (ancs (regOps Try.f21 2).toList []) [0, 1, 4, 5, 6, 7, 2, 3, 8, 9, 10, 11] [] (L_spec_l1Dec_r2.st c v) (kR L_spec_l1Dec_r2 V_spec_l1Dec_r2 c) (kLP L_spec_l1Dec_r2 V_spec_l1Dec_r2 c) := by kernel_rfl
theorem eq_spec_l1Dec_r2_1 (r_spec_l1Dec : Int → Option (Str × Unit)) (k : Nat) (c : PV L_spec_l1Dec_r2.cs) (v : PV L_spec_l1Dec_r2.vs) : spec_l1Dec_r2 r_spec_l1Dec k c.1 = runD (E_spec_l1Dec r_spec_l1Dec k) (regOps Try.f21 2).toList (ancs (regOps Try.f21 2).toList []) [0, 1, 4, 5, 6, 7, 8, 9, 2, 3, 10, 11] [] (L_spec_l1Dec_r2.st c v) (kR L_spec_l1Dec_r2 V_spec_l1Dec_r2 c) (kLP L_spec_l1Dec_r2 V_spec_l1Dec_r2 c) := by kernel_rfl
theorem C_spec_l1Dec_r2 (r_spec_l1Dec : Int → Option (Str × Unit)) (h_spec_l1Dec : Good Try.prog gt 21 (S_spec_l1Dec r_spec_l1Dec)) (k : Nat) : CodeOk Try.prog gt (regC Try.f21 2) (loopSem 1000002 L_spec_l1Dec_r2 (fun c v => spec_l1Dec_r2 r_spec_l1Dec k c.1) (dkL V_spec_l1Dec_r2)) := regV_ok (e_spec_l1Dec r_spec_l1Dec h_spec_l1Dec k) (id := 2) (f := Try.f21) (L := L_spec_l1Dec_r2) (vs := V_spec_l1Dec_r2) (F := fun c v => spec_l1Dec_r2 r_spec_l1Dec k c.1) (ls := [[0, 1, 4, 5, 6, 7, 2, 3, 8, 9, 10, 11], [0, 1, 4, 5, 6, 7, 8, 9, 2, 3, 10, 11]]) (by kernel_rfl) (by kernel_rfl) (each_mem ⟨⟨by kernel_rfl, eq_spec_l1Dec_r2_0 r_spec_l1Dec k⟩, ⟨by kernel_rfl, eq_spec_l1Dec_r2_1 r_spec_l1Dec k⟩, trivial⟩)
theorem eq_spec_l1Dec_r7_0 (r_spec_l1Dec : Int → Option (Str × Unit)) (k : Nat) (c : PV L_spec_l1Dec_r7.cs) (v : PV L_spec_l1Dec_r7.vs) : spec_l1Dec_r7 r_spec_l1Dec k c.1 = runD (E_spec_l1Dec r_spec_l1Dec k) (regOps Try.f21 7).toList (ancs (regOps Try.f21 7).toList []) [0, 1, 3, 4, 5, 6, 2, 7, 8, 9, 10] [] (L_spec_l1Dec_r7.st c v) (kR L_spec_l1Dec_r7 V_spec_l1Dec_r7 c) (kLP L_spec_l1Dec_r7 V_spec_l1Dec_r7 c) := by kernel_rfl
theorem eq_spec_l1Dec_r7_1 (r_spec_l1Dec : Int → Option (Str × Unit)) (k : Nat) (c : PV L_spec_l1Dec_r7.cs) (v : PV L_spec_l1Dec_r7.vs) : spec_l1Dec_r7 r_spec_l1Dec k c.1 = runD (E_spec_l1Dec r_spec_l1Dec k) (regOps Try.f21 7).toList (ancs (regOps Try.f21 7).toList []) [0, 1, 3, 4, 5, 6, 7, 8, 2, 9, 10] [] (L_spec_l1Dec_r7.st c v) (kR L_spec_l1Dec_r7 V_spec_l1Dec_r7 c) (kLP L_spec_l1Dec_r7 V_spec_l1Dec_r7 c) := by kernel_rfl
theorem C_spec_l1Dec_r7 (r_spec_l1Dec : Int → Option (Str × Unit)) (h_spec_l1Dec : Good Try.prog gt 21 (S_spec_l1Dec r_spec_l1Dec)) (k : Nat) : CodeOk Try.prog gt (regC Try.f21 7) (loopSem 1000007 L_spec_l1Dec_r7 (fun c v => spec_l1Dec_r7 r_spec_l1Dec k c.1) (dkL V_spec_l1Dec_r7)) := regV_ok (e_spec_l1Dec r_spec_l1Dec h_spec_l1Dec k) (id := 7) (f := Try.f21) (L := L_spec_l1Dec_r7) (vs := V_spec_l1Dec_r7) (F := fun c v => spec_l1Dec_r7 r_spec_l1Dec k c.1) (ls := [[0, 1, 3, 4, 5, 6, 2, 7, 8, 9, 10], [0, 1, 3, 4, 5, 6, 7, 8, 2, 9, 10]]) (by kernel_rfl) (by kernel_rfl) (each_mem ⟨⟨by kernel_rfl, eq_spec_l1Dec_r7_0 r_spec_l1Dec k⟩, ⟨by kernel_rfl, eq_spec_l1Dec_r7_1 r_spec_l1Dec k⟩, trivial⟩)
theorem eq_spec_l1Dec (r_spec_l1Dec : Int → Option (Str × Unit)) (k : Nat) (d : DL [I]) : spec_l1Dec_b r_spec_l1Dec k d.1 = runC (E_spec_l1Dec r_spec_l1Dec k) (bodyOf Try.f21) (stD Try.f21.ntmps [I] d) (kD Try.f21.results.toList [.str]) (fun _ _ => none) := by kernel_rfl
theorem g_spec_l1Dec (r_spec_l1Dec : Int → Option (Str × Unit)) (h_spec_l1Dec : Good Try.prog gt 21 (S_spec_l1Dec r_spec_l1Dec)) (k : Nat) : Good Try.prog gt 21 (S_spec_l1Dec (spec_l1Dec_b r_spec_l1Dec k)) := good_data (e_spec_l1Dec r_spec_l1Dec h_spec_l1Dec k) (ts := [I]) (rs := [.str]) (F := fun d => spec_l1Dec_b r_spec_l1Dec k d.1) Try.func21 Try.call21 (by kernel_rfl) (codes_ok (l := [(regC Try.f21 2, loopSem 1000002 L_spec_l1Dec_r2 (fun c v => spec_l1Dec_r2 r_spec_l1Dec k c.1) (dkL V_spec_l1Dec_r2)), (regC Try.f21 7, loopSem 1000007 L_spec_l1Dec_r7 (fun c v => spec_l1Dec_r7 r_spec_l1Dec k c.1) (dkL V_spec_l1Dec_r7))]) (by kernel_rfl) ⟨C_spec_l1Dec_r2 r_spec_l1Dec h_spec_l1Dec k, C_spec_l1Dec_r7 r_spec_l1Dec h_spec_l1Dec k, trivial⟩) (by kernel_rfl) (eq_spec_l1Dec r_spec_l1Dec k)
def spec_l1Dec : Nat → Int → Option (Str × Unit)
  | 0 => fun _ => none
  | k + 1 => spec_l1Dec_b (spec_l1Dec k) k
theorem gg_spec_l1Dec : ∀ k, Good Try.prog gt 21 (S_spec_l1Dec (spec_l1Dec k))
  | 0 => good_noneD (F := fun _ => none) (fun _ => rfl)
  | k + 1 => g_spec_l1Dec _ (gg_spec_l1Dec k) k

/-! (*loop.example/sedge/spec.l3G).one -/
def L_spec_l3G_one : Lay := ⟨18, [(44, 5), (40, 2)], [(.l 44 0, .lit (.ptr 40 0)), (.l 44 1, .d (.slice .str)), (.l 44 2, .d (.slice .str)), (.l 44 3, .d (.slice .str)), (.l 44 4, .d I), (.l 40 0, .d (.slice U))], [(.r 0, .lit (.ptr 44 0)), (.r 1, .d (.slice .str)), (.l 40 1, .d I)]⟩
def V_spec_l3G_one : List VO := [.ret [(.r 4, .d .str), (.l 40 1, .d I)] []]
def S_spec_l3G_one (f : List Int → Int → List Str → Option (Str × Int × Unit)) : CSem := semO L_spec_l3G_one (fun c v => f c.2.2.2.2.2.1 v.2.2.1 v.2.1) (dkV [4] V_spec_l3G_one)
def spec_l3G_one (b : List Int) (p : Int) (l : List Str) : Option (Str × Int × Unit) :=
  bif (l.length : Int) == 0 then
   some (([120] : Str), p, ())
  else
   (spec_l1Rd_pick b p (l.length : Int)).bind fun r1 =>
   (idx l r1.1).bind fun x1 =>
   some (x1, r1.2.1, ())
def E_spec_l3G_one : Env := envOf gt tab [(16, S_spec_l1Rd_pick spec_l1Rd_pick)] [] []
theorem e_spec_l3G_one : EnvOk Try.prog (E_spec_l3G_one) := env_ok mix tabOk ⟨g_spec_l1Rd_pick, trivial⟩ trivial
theorem eq_spec_l3G_one (c : PV L_spec_l3G_one.cs) (v : PV L_spec_l3G_one.vs) : spec_l3G_one c.2.2.2.2.2.1 v.2.2.1 v.2.1 = runC (E_spec_l3G_one) (bodyOf Try.f29) (L_spec_l3G_one.st c v) (kO L_spec_l3G_one V_spec_l3G_one c) (kP L_spec_l3G_one V_spec_l3G_one c) := by kernel_rfl
theorem g_spec_l3G_one : Good Try.prog gt 29 (S_spec_l3G_one (spec_l3G_one)) := good_obj (e_spec_l3G_one) (L := L_spec_l3G_one) (vs := V_spec_l3G_one) (res := [4]) (F := fun c v => spec_l3G_one c.2.2.2.2.2.1 v.2.2.1 v.2.1) Try.func29 Try.call29 (by kernel_rfl) (codes_ok (l := []) (by kernel_rfl) trivial) (by kernel_rfl) (by kernel_rfl) (eq_spec_l3G_one)

/-! (*loop.example/sedge/spec.l3G).term -/
def L_spec_l3G_term : Lay := ⟨98, [(44, 5), (40, 2)], [(.l 44 0, .lit (.ptr 40 0)), (.l 44 1, .d (.slice .str)), (.l 44 2, .d (.slice .str)), (.l 44 3, .d (.slice .str)), (.l 44 4, .d I), (.l 40 0, .d (.slice U))], [(.r 0, .lit (.ptr 44 0)), (.r 1, .d I), (.l 40 1, .d I)]⟩
def V_spec_l3G_term : List VO := [.ret [(.r 4, .d .str), (.l 40 1, .d I)] []]
def S_spec_l3G_term (f : List Str → List Str → List Str → Int → List Int → Int → Int → Option (Str × Int × Unit)) : CSem := semO L_spec_l3G_term (fun c v => f c.2.1 c.2.2.1 c.2.2.2.1 c.2.2.2.2.1 c.2.2.2.2.2.1 v.2.2.1 v.2.1) (dkV [4] V_spec_l3G_term)
def spec_l3G_term_b (r_spec_l3G_term : List Str → List Str → List Str → Int → List Int → Int → Int → Option (Str × Int × Unit)) (k : Nat) (ints : List Str) (refs : List Str) (own : List Str) (less : Int) (b : List Int) (p : Int) (deep : Int) : Option (Str × Int × Unit) :=
  (spec_l1Rd_pick b p 12).bind fun r1 =>
  joinK (fun (v : Bool) =>
   bif v then
    (spec_l1Rd_pick b r1.2.1 2).bind fun r2 =>
    bif r2.1 == 0 then
     (spec_l3G_one b r2.2.1 ints).bind fun r3 =>
     some (r3.1, r3.2.1, ())
    else
     (spec_l1Rd_pick b r2.2.1 9).bind fun r4 =>
     (spec_l1Dec k r4.1).bind fun r5 =>
     some (r5.1, r4.2.1, ())
   else
    bif r1.1 == 3 then
     (spec_l3G_one b r1.2.1 ([([49, 48, 48, 48] : Str), ([50, 49, 52, 55, 52, 56, 51, 54, 52, 55] : Str), ([54, 53, 53, 51, 54] : Str), ([49, 48, 48] : Str)])).bind fun r6 =>
     some (r6.1, r6.2.1, ())
    else
     bif r1.1 == 4 then
      (r_spec_l3G_term ints refs own less b r1.2.1 (w64 (deep - 1))).bind fun r7 =>
      (app ([97, 91] : Str) r7.1).bind fun s =>
      (app s ([93] : Str)).bind fun s2 =>
      some (s2, r7.2.1, ())
     else
      joinK (fun (v2 : Bool) =>
       bif v2 then
        (spec_l3G_one b r1.2.1 refs).bind fun r8 =>
        (app ([42] : Str) r8.1).bind fun s3 =>
        some (s3, r8.2.1, ())
       else
        bif r1.1 == 6 then
         (r_spec_l3G_term ints refs own less b r1.2.1 0).bind fun r9 =>
         (app ([45] : Str) r9.1).bind fun s4 =>
         some (s4, r9.2.1, ())
        else
         (spec_l3G_one b r1.2.1 ([([43] : Str), ([45] : Str), ([42] : Str), ([47] : Str), ([37] : Str), ([38] : Str), ([124] : Str), ([94] : Str), ([60, 60] : Str), ([62, 62] : Str), ([43, 37] : Str), ([45, 37] : Str), ([42, 37] : Str), ([43] : Str), ([45] : Str), ([43] : Str)])).bind fun r10 =>
         (r_spec_l3G_term ints refs own less b r10.2.1 (w64 (deep - 1))).bind fun r11 =>
         (app r11.1 ([32] : Str)).bind fun s5 =>
         (app s5 r10.1).bind fun s6 =>
         (app s6 ([32] : Str)).bind fun s7 =>
         (r_spec_l3G_term ints refs own less b r11.2.1 (w64 (deep - 1))).bind fun r12 =>
         (app s7 r12.1).bind fun s8 =>
         (spec_l1Rd_pick b r12.2.1 2).bind fun r13 =>
         bif r13.1 == 0 then
          (app ([40] : Str) s8).bind fun s9 =>
          (app s9 ([41] : Str)).bind fun s10 =>
          some (s10, r13.2.1, ())
         else
          some (s8, r13.2.1, ())) fun jx2 =>
      bif r1.1 == 5 then
       jx2 (decide ((refs.length : Int) > 0))
      else
       jx2 false) fun jx1 =>
  bif decide (deep ≤ 0) then
   jx1 true
  else
   jx1 (decide (r1.1 < 3))
def E_spec_l3G_term (r_spec_l3G_term : List Str → List Str → List Str → Int → List Int → Int → Int → Option (Str × Int × Unit)) (k : Nat) : Env := envOf gt tab [(16, S_spec_l1Rd_pick spec_l1Rd_pick), (21, S_spec_l1Dec (spec_l1Dec k)), (29, S_spec_l3G_one spec_l3G_one), (30, S_spec_l3G_term r_spec_l3G_term)] [] []
theorem e_spec_l3G_term (r_spec_l3G_term : List Str → List Str → List Str → Int → List Int → Int → Int → Option (Str × Int × Unit)) (h_spec_l3G_term : Good Try.prog gt 30 (S_spec_l3G_term r_spec_l3G_term)) (k : Nat) : EnvOk Try.prog (E_spec_l3G_term r_spec_l3G_term k) := env_ok mix tabOk ⟨g_spec_l1Rd_pick, gg_spec_l1Dec k, g_spec_l3G_one, h_spec_l3G_term, trivial⟩ trivial
theorem eq_spec_l3G_term (r_spec_l3G_term : List Str → List Str → List Str → Int → List Int → Int → Int → Option (Str × Int × Unit)) (k : Nat) (c : PV L_spec_l3G_term.cs) (v : PV L_spec_l3G_term.vs) : spec_l3G_term_b r_spec_l3G_term k c.2.1 c.2.2.1 c.2.2.2.1 c.2.2.2.2.1 c.2.2.2.2.2.1 v.2.2.1 v.2.1 = runC (E_spec_l3G_term r_spec_l3G_term k) (bodyOf Try.f30) (L_spec_l3G_term.st c v) (kO L_spec_l3G_term V_spec_l3G_term c) (kP L_spec_l3G_term V_spec_l3G_term c) := by kernel_rfl
theorem g_spec_l3G_term (r_spec_l3G_term : List Str → List Str → List Str → Int → List Int → Int → Int → Option (Str × Int × Unit)) (h_spec_l3G_term : Good Try.prog gt 30 (S_spec_l3G_term r_spec_l3G_term)) (k : Nat) : Good Try.prog gt 30 (S_spec_l3G_term (spec_l3G_term_b r_spec_l3G_term k)) := good_obj (e_spec_l3G_term r_spec_l3G_term h_spec_l3G_term k) (L := L_spec_l3G_term) (vs := V_spec_l3G_term) (res := [4]) (F := fun c v => spec_l3G_term_b r_spec_l3G_term k c.2.1 c.2.2.1 c.2.2.2.1 c.2.2.2.2.1 c.2.2.2.2.2.1 v.2.2.1 v.2.1) Try.func30 Try.call30 (by kernel_rfl) (codes_ok (l := []) (by kernel_rfl) trivial) (by kernel_rfl) (by kernel_rfl) (eq_spec_l3G_term r_spec_l3G_term k)
def spec_l3G_term : Nat → List Str → List Str → List Str → Int → List Int → Int → Int → Option (Str × Int × Unit)
  | 0 => fun _ _ _ _ _ _ _ => none
  | k + 1 => spec_l3G_term_b (spec_l3G_term k) k
theorem gg_spec_l3G_term : ∀ k, Good Try.prog gt 30 (S_spec_l3G_term (spec_l3G_term k))
  | 0 => good_none (L := L_spec_l3G_term) (vs := V_spec_l3G_term) (res := [4]) (F := fun _ _ => none) (fun _ _ => rfl)
  | k + 1 => g_spec_l3G_term _ (gg_spec_l3G_term k) k

/-! (*loop.example/sedge/spec.l3G).cond -/
def L_spec_l3G_cond : Lay := ⟨104, [(44, 5), (40, 2)], [(.l 44 0, .lit (.ptr 40 0)), (.l 44 1, .d (.slice .str)), (.l 44 2, .d (.slice .str)), (.l 44 3, .d (.slice .str)), (.l 44 4, .d I), (.l 40 0, .d (.slice U))], [(.r 0, .lit (.ptr 44 0)), (.r 1, .d I), (.l 40 1, .d I)]⟩
def V_spec_l3G_cond : List VO := [.ret [(.r 4, .d .str), (.l 40 1, .d I)] []]
def S_spec_l3G_cond (f : List Str → List Str → List Str → Int → List Int → Int → Int → Option (Str × Int × Unit)) : CSem := semO L_spec_l3G_cond (fun c v => f c.2.1 c.2.2.1 c.2.2.2.1 c.2.2.2.2.1 c.2.2.2.2.2.1 v.2.2.1 v.2.1) (dkV [4] V_spec_l3G_cond)
def spec_l3G_cond_r11 (r_spec_l3G_cond : List Str → List Str → List Str → Int → List Int → Int → Int → Option (Str × Int × Unit)) (q : Nat) (b2 : List Int) (ints2 : List Str) (p2 : Int) : Option (Int × Str × Unit) :=
  (spec_l3G_one b2 p2 ints2).bind fun r8 =>
  (app r8.1 ([32] : Str)).bind fun s8 =>
  (spec_l3G_one b2 r8.2.1 ([([61, 61] : Str), ([33, 61] : Str), ([60] : Str), ([60, 61] : Str), ([62] : Str), ([62, 61] : Str)])).bind fun r9 =>
  (app s8 r9.1).bind fun s9 =>
  (app s9 ([32] : Str)).bind fun s10 =>
  (spec_l1Rd_pick b2 r9.2.1 12).bind fun r10 =>
  (spec_l1Dec q r10.1).bind fun r11 =>
  (app s10 r11.1).bind fun s11 =>
  some (r10.2.1, s11, ())
def L_spec_l3G_cond_r11 : Lay := ⟨104, [(40, 2), (44, 5)], [(.l 40 0, .d (.slice U)), (.l 44 0, .lit (.ptr 40 0)), (.l 44 1, .d (.slice .str)), (.l 44 2, .d (.slice .str)), (.l 44 3, .d (.slice .str)), (.l 44 4, .d I), (.r 0, .lit (.ptr 44 0))], [(.l 40 1, .d I)]⟩
def V_spec_l3G_cond_r11 : List VL := [.ex .normal [(.l 40 1, .d I), (.r 4, .d .str)]]
def spec_l3G_cond_b (r_spec_l3G_cond : List Str → List Str → List Str → Int → List Int → Int → Int → Option (Str × Int × Unit)) (k : Nat) (ints : List Str) (refs : List Str) (own : List Str) (less : Int) (b : List Int) (p : Int) (deep : Int) : Option (Str × Int × Unit) :=
  (spec_l1Rd_pick b p 9).bind fun r1 =>
  joinK (fun (v : Bool) =>
   bif v then
    (r_spec_l3G_cond ints refs own less b r1.2.1 (w64 (deep - 1))).bind fun r2 =>
    (app r2.1 ([32, 97, 110, 100, 32] : Str)).bind fun s =>
    (r_spec_l3G_cond ints refs own less b r2.2.1 (w64 (deep - 1))).bind fun r3 =>
    (app s r3.1).bind fun s2 =>
    some (s2, r3.2.1, ())
   else
    joinK (fun (v2 : Bool) =>
     bif v2 then
      (r_spec_l3G_cond ints refs own less b r1.2.1 (w64 (deep - 1))).bind fun r4 =>
      (app r4.1 ([32, 111, 114, 32] : Str)).bind fun s3 =>
      (r_spec_l3G_cond ints refs own less b r4.2.1 (w64 (deep - 1))).bind fun r5 =>
      (app s3 r5.1).bind fun s4 =>
      some (s4, r5.2.1, ())
     else
      joinK (fun (v3 : Bool) =>
       bif v3 then
        (r_spec_l3G_cond ints refs own less b r1.2.1 (w64 (deep - 1))).bind fun r6 =>
        (app ([110, 111, 116, 32, 91] : Str) r6.1).bind fun s5 =>
        (app s5 ([93] : Str)).bind fun s6 =>
        some (s6, r6.2.1, ())
       else
        joinK (fun (v4 : Bool) =>
         bif v4 then
          (spec_l3G_one b r1.2.1 refs).bind fun r7 =>
          (app ([110, 117, 108, 108, 32] : Str) r7.1).bind fun s7 =>
          some (s7, r7.2.1, ())
         else
          bif decide (r1.1 < 6) then
           (spec_l3G_cond_r11 r_spec_l3G_cond k b ints r1.2.1).bind fun o =>
           some (o.2.1, o.1, ())
          else
           (spec_l3G_term k ints refs own less b r1.2.1 1).bind fun r8 =>
           (app r8.1 ([32] : Str)).bind fun s8 =>
           (spec_l3G_one b r8.2.1 ([([61, 61] : Str), ([33, 61] : Str), ([60] : Str), ([60, 61] : Str), ([62] : Str), ([62, 61] : Str)])).bind fun r9 =>
           (app s8 r9.1).bind fun s9 =>
           (app s9 ([32] : Str)).bind fun s10 =>
           (spec_l3G_term k ints refs own less b r9.2.1 1).bind fun r10 =>
           (app s10 r10.1).bind fun s11 =>
           some (s11, r10.2.1, ())) fun jx4 =>
        bif r1.1 == 3 then
         jx4 (decide ((refs.length : Int) > 0))
        else
         jx4 false) fun jx3 =>
      bif decide (deep > 0) then
       jx3 (r1.1 == 2)
      else
       jx3 false) fun jx2 =>
    bif decide (deep > 0) then
     jx2 (r1.1 == 1)
    else
     jx2 false) fun jx1 =>
  bif decide (deep > 0) then
   jx1 (r1.1 == 0)
  else
   jx1 false
def E_spec_l3G_cond (r_spec_l3G_cond : List Str → List Str → List Str → Int → List Int → Int → Int → Option (Str × Int × Unit)) (k : Nat) : Env := envOf gt tab [(16, S_spec_l1Rd_pick spec_l1Rd_pick), (21, S_spec_l1Dec (spec_l1Dec k)), (29, S_spec_l3G_one spec_l3G_one), (30, S_spec_l3G_term (spec_l3G_term k)), (31, S_spec_l3G_cond r_spec_l3G_cond)] [(1000011, loopSem 1000011 L_spec_l3G_cond_r11 (fun c v => spec_l3G_cond_r11 r_spec_l3G_cond k c.1 c.2.2.1 v.1) (dkL V_spec_l3G_cond_r11))] []
theorem e_spec_l3G_cond (r_spec_l3G_cond : List Str → List Str → List Str → Int → List Int → Int → Int → Option (Str × Int × Unit)) (h_spec_l3G_cond : Good Try.prog gt 31 (S_spec_l3G_cond r_spec_l3G_cond)) (k : Nat) : EnvOk Try.prog (E_spec_l3G_cond r_spec_l3G_cond k) := env_ok mix tabOk ⟨g_spec_l1Rd_pick, gg_spec_l1Dec k, g_spec_l3G_one, gg_spec_l3G_term k, h_spec_l3G_cond, trivial⟩ ⟨loop_cong _ _ _ _, trivial⟩
theorem eq_spec_l3G_cond_r11_0 (r_spec_l3G_cond : List Str → List Str → List Str → Int → List Int → Int → Int → Option (Str × Int × Unit)) (k : Nat) (c : PV L_spec_l3G_cond_r11.cs) (v : PV L_spec_l3G_cond_r11.vs) : spec_l3G_cond_r11 r_spec_l3G_cond k c.1 c.2.2.1 v.1 = runD (E_spec_l3G_cond r_spec_l3G_cond k) (regOps Try.f31 11).toList (ancs (regOps Try.f31 11).toList []) [0, 1, 2, 3, 4, 7, 12, 13, 14, 15, 5, 6, 8, 9, 10, 11, 16, 17, 18, 19] [] (L_spec_l3G_cond_r11.st c v) (kR L_spec_l3G_cond_r11 V_spec_l3G_cond_r11 c) (kLP L_spec_l3G_cond_r11 V_spec_l3G_cond_r11 c) := by kernel_rfl
theorem eq_spec_l3G_cond_r11_1 (r_spec_l3G_cond : List Str → List Str → List Str → Int → List Int → Int → Int → Option (Str × Int × Unit)) (k : Nat) (c : PV L_spec_l3G_cond_r11.cs) (v : PV L_spec_l3G_cond_r11.vs) : spec_l3G_cond_r11 r_spec_l3G_cond k c.1 c.2.2.1 v.1 = runD (E_spec_l3G_cond r_spec_l3G_cond k) (regOps Try.f31 11).toList (ancs (regOps Try.f31 11).toList []) [0, 1, 2, 3, 4, 7, 12, 13, 14, 15, 8, 5, 6, 9, 10, 11, 16, 17, 18, 19] [] (L_spec_l3G_cond_r11.st c v) (kR L_spec_l3G_cond_r11 V_spec_l3G_cond_r11 c) (kLP L_spec_l3G_cond_r11 V_spec_l3G_cond_r11 c) := by kernel_rfl
theorem C_spec_l3G_cond_r11 (r_spec_l3G_cond : List Str → List Str → List Str → Int → List Int → Int → Int → Option (Str × Int × Unit)) (h_spec_l3G_cond : Good Try.prog gt 31 (S_spec_l3G_cond r_spec_l3G_cond)) (k : Nat) : CodeOk Try.prog gt (regC Try.f31 11) (loopSem 1000011 L_spec_l3G_cond_r11 (fun c v => spec_l3G_cond_r11 r_spec_l3G_cond k c.1 c.2.2.1 v.1) (dkL V_spec_l3G_cond_r11)) := regV_ok (e_spec_l3G_cond r_spec_l3G_cond h_spec_l3G_cond k) (id := 11) (f := Try.f31) (L := L_spec_l3G_cond_r11) (vs := V_spec_l3G_cond_r11) (F := fun c v => spec_l3G_cond_r11 r_spec_l3G_cond k c.1 c.2.2.1 v.1) (ls := [[0, 1, 2, 3, 4, 7, 12, 13, 14, 15, 5, 6, 8, 9, 10, 11, 16, 17, 18, 19], [0, 1, 2, 3, 4, 7, 12, 13, 14, 15, 8, 5, 6, 9, 10, 11, 16, 17, 18, 19]]) (by kernel_rfl) (by kernel_rfl) (each_mem ⟨⟨by kernel_rfl, eq_spec_l3G_cond_r11_0 r_spec_l3G_cond k⟩, ⟨by kernel_rfl, eq_spec_l3G_cond_r11_1 r_spec_l3G_cond k⟩, trivial⟩)
theorem eq_spec_l3G_cond (r_spec_l3G_cond : List Str → List Str → List Str → Int → List Int → Int → Int → Option (Str × Int × Unit)) (k : Nat) (c : PV L_spec_l3G_cond.cs) (v : PV L_spec_l3G_cond.vs) : spec_l3G_cond_b r_spec_l3G_cond k c.2.1 c.2.2.1 c.2.2.2.1 c.2.2.2.2.1 c.2.2.2.2.2.1 v.2.2.1 v.2.1 = runC (E_spec_l3G_cond r_spec_l3G_cond k) (bodyOf Try.f31) (L_spec_l3G_cond.st c v) (kO L_spec_l3G_cond V_spec_l3G_cond c) (kP L_spec_l3G_cond V_spec_l3G_cond c) := by kernel_rfl
theorem g_spec_l3G_cond (r_spec_l3G_cond : List Str → List Str → List Str → Int → List Int → Int → Int → Option (Str × Int × Unit)) (h_spec_l3G_cond : Good Try.prog gt 31 (S_spec_l3G_cond r_spec_l3G_cond)) (k : Nat) : Good Try.prog gt 31 (S_spec_l3G_cond (spec_l3G_cond_b r_spec_l3G_cond k)) := good_obj (e_spec_l3G_cond r_spec_l3G_cond h_spec_l3G_cond k) (L := L_spec_l3G_cond) (vs := V_spec_l3G_cond) (res := [4]) (F := fun c v => spec_l3G_cond_b r_spec_l3G_cond k c.2.1 c.2.2.1 c.2.2.2.1 c.2.2.2.2.1 c.2.2.2.2.2.1 v.2.2.1 v.2.1) Try.func31 Try.call31 (by kernel_rfl) (codes_ok (l := [(regC Try.f31 11, loopSem 1000011 L_spec_l3G_cond_r11 (fun c v => spec_l3G_cond_r11 r_spec_l3G_cond k c.1 c.2.2.1 v.1) (dkL V_spec_l3G_cond_r11))]) (by kernel_rfl) ⟨C_spec_l3G_cond_r11 r_spec_l3G_cond h_spec_l3G_cond k, trivial⟩) (by kernel_rfl) (by kernel_rfl) (eq_spec_l3G_cond r_spec_l3G_cond k)
def spec_l3G_cond : Nat → List Str → List Str → List Str → Int → List Int → Int → Int → Option (Str × Int × Unit)
  | 0 => fun _ _ _ _ _ _ _ => none
  | k + 1 => spec_l3G_cond_b (spec_l3G_cond k) k
theorem gg_spec_l3G_cond : ∀ k, Good Try.prog gt 31 (S_spec_l3G_cond (spec_l3G_cond k))
  | 0 => good_none (L := L_spec_l3G_cond) (vs := V_spec_l3G_cond) (res := [4]) (F := fun _ _ => none) (fun _ _ => rfl)
  | k + 1 => g_spec_l3G_cond _ (gg_spec_l3G_cond k) k

/-! (*loop.example/sedge/spec.l3G).small -/
def L_spec_l3G_small : Lay := ⟨168, [(44, 5), (40, 2)], [(.l 44 0, .lit (.ptr 40 0)), (.l 44 1, .d (.slice .str)), (.l 44 2, .d (.slice .str)), (.l 44 3, .d (.slice .str)), (.l 44 4, .d I), (.l 40 0, .d (.slice U))], [(.r 0, .lit (.ptr 44 0)), (.r 1, .d I), (.l 40 1, .d I)]⟩
def V_spec_l3G_small : List VO := [.ret [(.r 4, .d .str), (.l 40 1, .d I)] []]
def S_spec_l3G_small (f : List Str → List Str → List Str → Int → List Int → Int → Int → Option (Str × Int × Unit)) : CSem := semO L_spec_l3G_small (fun c v => f c.2.1 c.2.2.1 c.2.2.2.1 c.2.2.2.2.1 c.2.2.2.2.2.1 v.2.2.1 v.2.1) (dkV [4] V_spec_l3G_small)
def spec_l3G_small (k : Nat) (ints : List Str) (refs : List Str) (own : List Str) (less : Int) (b : List Int) (p : Int) (k1 : Int) : Option (Str × Int × Unit) :=
  bif decide (k1 < 13) then
   (spec_l3G_one b p ([([105] : Str), ([105] : Str), ([120] : Str), ([51] : Str), ([55] : Str), ([105, 32, 43, 32, 49] : Str)])).bind fun r1 =>
   (app ([97, 91] : Str) r1.1).bind fun s =>
   (app s ([93, 32, 61, 32] : Str)).bind fun s2 =>
   (spec_l3G_term k ints refs own less b r1.2.1 1).bind fun r2 =>
   (app s2 r2.1).bind fun s3 =>
   (app s3 ([59, 10] : Str)).bind fun s4 =>
   some (s4, r2.2.1, ())
  else
   bif k1 == 13 then
    (spec_l3G_one b p own).bind fun r3 =>
    (app ([114, 101, 97, 100, 32] : Str) r3.1).bind fun s5 =>
    (app s5 ([59, 10] : Str)).bind fun s6 =>
    some (s6, r3.2.1, ())
   else
    bif k1 == 14 then
     (spec_l3G_term k ints refs own less b p 2).bind fun r4 =>
     (app ([112, 114, 105, 110, 116, 32] : Str) r4.1).bind fun s7 =>
     (app s7 ([59, 10] : Str)).bind fun s8 =>
     some (s8, r4.2.1, ())
    else
     joinK (fun (v : Bool) =>
      bif v then
       (spec_l3G_one b p refs).bind fun r5 =>
       (app r5.1 ([32, 61, 32, 38] : Str)).bind fun s9 =>
       (spec_l3G_one b r5.2.1 ([([97] : Str), ([98] : Str)])).bind fun r6 =>
       (app s9 r6.1).bind fun s10 =>
       (app s10 ([91] : Str)).bind fun s11 =>
       (spec_l3G_one b r6.2.1 ([([105] : Str), ([48] : Str), ([50] : Str), ([120] : Str)])).bind fun r7 =>
       (app s11 r7.1).bind fun s12 =>
       (app s12 ([93, 59, 10] : Str)).bind fun s13 =>
       some (s13, r7.2.1, ())
      else
       joinK (fun (v2 : Bool) =>
        bif v2 then
         (spec_l3G_one b p refs).bind fun r8 =>
         (app ([42] : Str) r8.1).bind fun s14 =>
         (app s14 ([32, 61, 32] : Str)).bind fun s15 =>
         (spec_l3G_term k ints refs own less b r8.2.1 1).bind fun r9 =>
         (app s15 r9.1).bind fun s16 =>
         (app s16 ([59, 10] : Str)).bind fun s17 =>
         some (s17, r9.2.1, ())
        else
         joinK (fun (v3 : Bool) =>
          bif v3 then
           (spec_l3G_one b p refs).bind fun r10 =>
           (app r10.1 ([32, 43, 61, 32] : Str)).bind fun s18 =>
           (spec_l3G_one b r10.2.1 ([([49] : Str), ([49] : Str), ([120] : Str), ([45, 49] : Str)])).bind fun r11 =>
           (app s18 r11.1).bind fun s19 =>
           (app s19 ([59, 10] : Str)).bind fun s20 =>
           some (s20, r11.2.1, ())
          else
           joinK (fun (v4 : Bool) =>
            bif v4 then
             (spec_l3G_one b p refs).bind fun r12 =>
             (app r12.1 ([32, 61, 32] : Str)).bind fun s21 =>
             (spec_l3G_one b r12.2.1 ([([112] : Str), ([113] : Str), ([110, 117, 108, 108] : Str)])).bind fun r13 =>
             (app s21 r13.1).bind fun s22 =>
             (app s22 ([59, 10] : Str)).bind fun s23 =>
             some (s23, r13.2.1, ())
            else
             bif k1 == 19 then
              (spec_l3G_one b p own).bind fun r14 =>
              (app r14.1 ([32, 61, 32, 102, 40] : Str)).bind fun s24 =>
              (spec_l3G_term k ints refs own less b r14.2.1 1).bind fun r15 =>
              (app s24 r15.1).bind fun s25 =>
              (app s25 ([44, 32] : Str)).bind fun s26 =>
              (spec_l3G_term k ints refs own less b r15.2.1 0).bind fun r16 =>
              (app s26 r16.1).bind fun s27 =>
              (app s27 ([41, 59, 10] : Str)).bind fun s28 =>
              some (s28, r16.2.1, ())
             else
              bif k1 == 20 then
               (spec_l3G_one b p own).bind fun r17 =>
               (app r17.1 ([32, 61, 32, 104, 40] : Str)).bind fun s29 =>
               (spec_l3G_term k ints refs own less b r17.2.1 1).bind fun r18 =>
               (app s29 r18.1).bind fun s30 =>
               (app s30 ([41, 59, 10] : Str)).bind fun s31 =>
               some (s31, r18.2.1, ())
              else
               joinK (fun (jv : Bool × Int) =>
                bif (jv.1) then
                 (spec_l3G_one b (jv.2) ([([115, 116, 111, 112, 59, 10] : Str), ([114, 101, 116, 117, 114, 110, 32, 120, 59, 10] : Str)])).bind fun r20 =>
                 some (r20.1, r20.2.1, ())
                else
                 some (([120, 32, 61, 32, 120, 32, 43, 32, 49, 59, 10] : Str), (jv.2), ())) fun jx5 =>
               bif k1 == 21 then
                (spec_l1Rd_pick b p 4).bind fun r19 =>
                jx5 (r19.1 == 0, r19.2.1)
               else
                jx5 (false, p)) fun jx4 =>
           bif k1 == 18 then
            jx4 (decide ((refs.length : Int) > 0))
           else
            jx4 false) fun jx3 =>
         bif k1 == 17 then
          jx3 (decide ((refs.length : Int) > 0))
         else
          jx3 false) fun jx2 =>
       bif k1 == 16 then
        jx2 (decide ((refs.length : Int) > 0))
       else
        jx2 false) fun jx1 =>
     bif k1 == 15 then
      jx1 (decide ((refs.length : Int) > 0))
     else
      jx1 false
def E_spec_l3G_small (k : Nat) : Env := envOf gt tab [(16, S_spec_l1Rd_pick spec_l1Rd_pick), (29, S_spec_l3G_one spec_l3G_one), (30, S_spec_l3G_term (spec_l3G_term k))] [] []
theorem e_spec_l3G_small (k : Nat) : EnvOk Try.prog (E_spec_l3G_small k) := env_ok mix tabOk ⟨g_spec_l1Rd_pick, g_spec_l3G_one, gg_spec_l3G_term k, trivial⟩ trivial
theorem eq_spec_l3G_small (k : Nat) (c : PV L_spec_l3G_small.cs) (v : PV L_spec_l3G_small.vs) : spec_l3G_small k c.2.1 c.2.2.1 c.2.2.2.1 c.2.2.2.2.1 c.2.2.2.2.2.1 v.2.2.1 v.2.1 = runC (E_spec_l3G_small k) (bodyOf Try.f33) (L_spec_l3G_small.st c v) (kO L_spec_l3G_small V_spec_l3G_small c) (kP L_spec_l3G_small V_spec_l3G_small c) := by kernel_rfl
theorem g_spec_l3G_small (k : Nat) : Good Try.prog gt 33 (S_spec_l3G_small (spec_l3G_small k)) := good_obj (e_spec_l3G_small k) (L := L_spec_l3G_small) (vs := V_spec_l3G_small) (res := [4]) (F := fun c v => spec_l3G_small k c.2.1 c.2.2.1 c.2.2.2.1 c.2.2.2.2.1 c.2.2.2.2.2.1 v.2.2.1 v.2.1) Try.func33 Try.call33 (by kernel_rfl) (codes_ok (l := []) (by kernel_rfl) trivial) (by kernel_rfl) (by kernel_rfl) (eq_spec_l3G_small k)

/-! (*loop.example/sedge/spec.l3G).line -/
def L_spec_l3G_line : Lay := ⟨192, [(44, 5), (40, 2)], [(.l 44 0, .lit (.ptr 40 0)), (.l 44 1, .d (.slice .str)), (.l 44 2, .d (.slice .str)), (.l 44 3, .d (.slice .str)), (.l 40 0, .d (.slice U))], [(.r 0, .lit (.ptr 44 0)), (.r 1, .d I), (.l 44 4, .d I), (.l 40 1, .d I)]⟩
def V_spec_l3G_line : List VO := [.ret [(.r 4, .d .str), (.l 40 1, .d I), (.l 44 4, .d I)] []]
def S_spec_l3G_line (f : List Str → List Str → List Str → Int → List Int → Int → Int → Option (Str × Int × Int × Unit)) : CSem := semO L_spec_l3G_line (fun c v => f c.2.1 c.2.2.1 c.2.2.2.1 v.2.2.1 c.2.2.2.2.1 v.2.2.2.1 v.2.1) (dkV [4] V_spec_l3G_line)

/-! (*loop.example/sedge/spec.l3G).block -/
def L_spec_l3G_block : Lay := ⟨21, [(44, 5), (40, 2)], [(.l 44 0, .lit (.ptr 40 0)), (.l 44 1, .d (.slice .str)), (.l 44 2, .d (.slice .str)), (.l 44 3, .d (.slice .str)), (.l 40 0, .d (.slice U))], [(.r 0, .lit (.ptr 44 0)), (.r 1, .d I), (.r 2, .d I), (.l 44 4, .d I), (.l 40 1, .d I)]⟩
def V_spec_l3G_block : List VO := [.ret [(.r 6, .d .str), (.l 40 1, .d I), (.l 44 4, .d I)] []]
def S_spec_l3G_block (f : List Str → List Str → List Str → Int → List Int → Int → Int → Int → Option (Str × Int × Int × Unit)) : CSem := semO L_spec_l3G_block (fun c v => f c.2.1 c.2.2.1 c.2.2.2.1 v.2.2.2.1 c.2.2.2.2.1 v.2.2.2.2.1 v.2.1 v.2.2.1) (dkV [6] V_spec_l3G_block)
def spec_l3G_line_r15 (r_spec_l3G_line : List Str → List Str → List Str → Int → List Int → Int → Int → Option (Str × Int × Int × Unit)) (r_spec_l3G_block : List Str → List Str → List Str → Int → List Int → Int → Int → Int → Option (Str × Int × Int × Unit)) (q : Nat) (b2 : List Int) (ints2 : List Str) (refs2 : List Str) (own2 : List Str) (deep2 : Int) (p2 : Int) (less2 : Int) : Option (Int × Int × Str × Unit) :=
  (spec_l1Rd_pick b2 p2 3).bind fun r19 =>
  (spec_l1Dec q r19.1).bind fun r20 =>
  (app ([102, 111, 114, 32, 105, 32, 61, 32] : Str) r20.1).bind fun s25 =>
  (app s25 ([32, 46, 46, 32] : Str)).bind fun s26 =>
  (spec_l3G_one b2 r19.2.1 ([([52] : Str), ([56] : Str), ([120] : Str), ([57] : Str)])).bind fun r21 =>
  (app s26 r21.1).bind fun s27 =>
  (app s27 ([32] : Str)).bind fun s28 =>
  (spec_l1Rd_pick b2 r21.2.1 2).bind fun r22 =>
  (r_spec_l3G_block ints2 refs2 own2 less2 b2 r22.2.1 (w64 (deep2 - 1)) (w64 (1 + r22.1))).bind fun r23 =>
  (app s28 r23.1).bind fun s29 =>
  (app s29 ([10] : Str)).bind fun s30 =>
  some (r23.2.1, r23.2.2.1, s30, ())
def L_spec_l3G_line_r15 : Lay := ⟨192, [(40, 2), (44, 5)], [(.l 40 0, .d (.slice U)), (.l 44 0, .lit (.ptr 40 0)), (.l 44 1, .d (.slice .str)), (.l 44 2, .d (.slice .str)), (.l 44 3, .d (.slice .str)), (.r 0, .lit (.ptr 44 0)), (.r 1, .d I)], [(.l 40 1, .d I), (.l 44 4, .d I)]⟩
def V_spec_l3G_line_r15 : List VL := [.ex .normal [(.l 40 1, .d I), (.l 44 4, .d I), (.r 4, .d .str)]]
def spec_l3G_line_b (r_spec_l3G_line : List Str → List Str → List Str → Int → List Int → Int → Int → Option (Str × Int × Int × Unit)) (r_spec_l3G_block : List Str → List Str → List Str → Int → List Int → Int → Int → Int → Option (Str × Int × Int × Unit)) (k : Nat) (ints : List Str) (refs : List Str) (own : List Str) (less : Int) (b : List Int) (p : Int) (deep : Int) : Option (Str × Int × Int × Unit) :=
  (spec_l1Rd_pick b p 22).bind fun r1 =>
  bif decide ((w64 (less - 1)) < 0) then
   some (([120, 32, 61, 32, 120, 59, 10] : Str), r1.2.1, (w64 (less - 1)), ())
  else
   joinK (fun (v2 : Bool) =>
    bif v2 then
     (spec_l3G_one b r1.2.1 own).bind fun r2 =>
     (app r2.1 ([32, 61, 32] : Str)).bind fun s =>
     (spec_l3G_term k ints refs own (w64 (less - 1)) b r2.2.1 2).bind fun r3 =>
     (app s r3.1).bind fun s2 =>
     (app s2 ([59, 10] : Str)).bind fun s3 =>
     some (s3, r3.2.1, (w64 (less - 1)), ())
    else
     bif r1.1 == 5 then
      (spec_l3G_cond k ints refs own (w64 (less - 1)) b r1.2.1 1).bind fun r4 =>
      (app ([105, 102, 32] : Str) r4.1).bind fun s4 =>
      (app s4 ([32] : Str)).bind fun s5 =>
      (spec_l1Rd_pick b r4.2.1 2).bind fun r5 =>
      (r_spec_l3G_block ints refs own (w64 (less - 1)) b r5.2.1 (w64 (deep - 1)) (w64 (1 + r5.1))).bind fun r6 =>
      (app s5 r6.1).bind fun s6 =>
      (app s6 ([32, 101, 108, 115, 101, 32] : Str)).bind fun s7 =>
      (spec_l1Rd_pick b r6.2.1 2).bind fun r7 =>
      (r_spec_l3G_block ints refs own r6.2.2.1 b r7.2.1 (w64 (deep - 1)) r7.1).bind fun r8 =>
      (app s7 r8.1).bind fun s8 =>
      (app s8 ([10] : Str)).bind fun s9 =>
      some (s9, r8.2.1, r8.2.2.1, ())
     else
      bif r1.1 == 6 then
       (spec_l3G_cond k ints refs own (w64 (less - 1)) b r1.2.1 2).bind fun r9 =>
       (app ([105, 102, 32] : Str) r9.1).bind fun s10 =>
       (app s10 ([32] : Str)).bind fun s11 =>
       (spec_l1Rd_pick b r9.2.1 2).bind fun r10 =>
       (r_spec_l3G_block ints refs own (w64 (less - 1)) b r10.2.1 (w64 (deep - 1)) (w64 (1 + r10.1))).bind fun r11 =>
       (app s11 r11.1).bind fun s12 =>
       (app s12 ([10] : Str)).bind fun s13 =>
       some (s13, r11.2.1, r11.2.2.1, ())
      else
       bif r1.1 == 7 then
        (spec_l3G_one b r1.2.1 own).bind fun r12 =>
        (app ([119, 104, 105, 108, 101, 32] : Str) r12.1).bind fun s14 =>
        (app s14 ([32, 60, 32] : Str)).bind fun s15 =>
        (spec_l1Rd_pick b r12.2.1 14).bind fun r13 =>
        (spec_l1Dec k r13.1).bind fun r14 =>
        (app s15 r14.1).bind fun s16 =>
        (app s16 ([32] : Str)).bind fun s17 =>
        (spec_l1Rd_pick b r13.2.1 2).bind fun r15 =>
        (r_spec_l3G_block ints refs own (w64 (less - 1)) b r15.2.1 (w64 (deep - 1)) r15.1).bind fun r16 =>
        (sub r16.1 0 2).bind fun l =>
        (app s17 l).bind fun s18 =>
        (app s18 r12.1).bind fun s19 =>
        (app s19 ([32, 61, 32] : Str)).bind fun s20 =>
        (app s20 r12.1).bind fun s21 =>
        (app s21 ([32, 43, 32] : Str)).bind fun s22 =>
        (spec_l1Rd_pick b r16.2.1 3).bind fun r17 =>
        (spec_l1Dec k (w64 (1 + r17.1))).bind fun r18 =>
        (app s22 r18.1).bind fun s23 =>
        (app s23 ([59, 10, 125, 10] : Str)).bind fun s24 =>
        some (s24, r17.2.1, r16.2.2.1, ())
       else
        bif r1.1 == 8 then
         (spec_l3G_line_r15 r_spec_l3G_line r_spec_l3G_block k b ints refs own deep r1.2.1 (w64 (less - 1))).bind fun o =>
         some (o.2.2.1, o.1, o.2.1, ())
        else
         bif r1.1 == 9 then
          (spec_l3G_cond k ints refs own (w64 (less - 1)) b r1.2.1 1).bind fun r19 =>
          (app ([119, 104, 105, 108, 101, 32] : Str) r19.1).bind fun s25 =>
          (app s25 ([32] : Str)).bind fun s26 =>
          (spec_l1Rd_pick b r19.2.1 2).bind fun r20 =>
          (r_spec_l3G_block ints refs own (w64 (less - 1)) b r20.2.1 (w64 (deep - 1)) (w64 (1 + r20.1))).bind fun r21 =>
          (app s26 r21.1).bind fun s27 =>
          (app s27 ([10] : Str)).bind fun s28 =>
          some (s28, r21.2.1, r21.2.2.1, ())
         else
          bif r1.1 == 10 then
           (spec_l3G_cond k ints refs own (w64 (less - 1)) b r1.2.1 1).bind fun r22 =>
           (app ([97, 115, 115, 101, 114, 116, 32] : Str) r22.1).bind fun s29 =>
           (app s29 ([59, 10] : Str)).bind fun s30 =>
           some (s30, r22.2.1, (w64 (less - 1)), ())
          else
           (spec_l3G_small k ints refs own (w64 (less - 1)) b r1.2.1 r1.1).bind fun r23 =>
           some (r23.1, r23.2.1, (w64 (less - 1)), ())) fun jx2 =>
   bif decide (r1.1 < 5) then
    jx2 true
   else
    joinK (fun (v : Bool) =>
     jx2 v) fun jx1 =>
    bif decide (deep ≤ 0) then
     jx1 (decide (r1.1 < 11))
    else
     jx1 false
def E_spec_l3G_line (r_spec_l3G_line : List Str → List Str → List Str → Int → List Int → Int → Int → Option (Str × Int × Int × Unit)) (r_spec_l3G_block : List Str → List Str → List Str → Int → List Int → Int → Int → Int → Option (Str × Int × Int × Unit)) (k : Nat) : Env := envOf gt tab [(16, S_spec_l1Rd_pick spec_l1Rd_pick), (21, S_spec_l1Dec (spec_l1Dec k)), (29, S_spec_l3G_one spec_l3G_one), (30, S_spec_l3G_term (spec_l3G_term k)), (31, S_spec_l3G_cond (spec_l3G_cond k)), (32, S_spec_l3G_block r_spec_l3G_block), (33, S_spec_l3G_small (spec_l3G_small k))] [(1000015, loopSem 1000015 L_spec_l3G_line_r15 (fun c v => spec_l3G_line_r15 r_spec_l3G_line r_spec_l3G_block k c.1 c.2.2.1 c.2.2.2.1 c.2.2.2.2.1 c.2.2.2.2.2.2.1 v.1 v.2.1) (dkL V_spec_l3G_line_r15))] []
theorem e_spec_l3G_line (r_spec_l3G_line : List Str → List Str → List Str → Int → List Int → Int → Int → Option (Str × Int × Int × Unit)) (r_spec_l3G_block : List Str → List Str → List Str → Int → List Int → Int → Int → Int → Option (Str × Int × Int × Unit)) (h_spec_l3G_line : Good Try.prog gt 24 (S_spec_l3G_line r_spec_l3G_line)) (h_spec_l3G_block : Good Try.prog gt 32 (S_spec_l3G_block r_spec_l3G_block)) (k : Nat) : EnvOk Try.prog (E_spec_l3G_line r_spec_l3G_line r_spec_l3G_block k) := env_ok mix tabOk ⟨g_spec_l1Rd_pick, gg_spec_l1Dec k, g_spec_l3G_one, gg_spec_l3G_term k, gg_spec_l3G_cond k, h_spec_l3G_block, g_spec_l3G_small k, trivial⟩ ⟨loop_cong _ _ _ _, trivial⟩
theorem eq_spec_l3G_line_r15_0 (r_spec_l3G_line : List Str → List Str → List Str → Int → List Int → Int → Int → Option (Str × Int × Int × Unit)) (r_spec_l3G_block : List Str → List Str → List Str → Int → List Int → Int → Int → Int → Option (Str × Int × Int × Unit)) (k : Nat) (c : PV L_spec_l3G_line_r15.cs) (v : PV L_spec_l3G_line_r15.vs) : spec_l3G_line_r15 r_spec_l3G_line r_spec_l3G_block k c.1 c.2.2.1 c.2.2.2.1 c.2.2.2.2.1 c.2.2.2.2.2.2.1 v.1 v.2.1 = runD (E_spec_l3G_line r_spec_l3G_line r_spec_l3G_block k) (regOps Try.f24 15).toList (ancs (regOps Try.f24 15).toList []) [0, 1, 2, 3, 8, 13, 14, 15, 16, 17, 18, 19, 4, 5, 6, 7, 9, 10, 11, 12, 20, 21, 22, 23, 24, 25] [] (L_spec_l3G_line_r15.st c v) (kR L_spec_l3G_line_r15 V_spec_l3G_line_r15 c) (kLP L_spec_l3G_line_r15 V_spec_l3G_line_r15 c) := by kernel_rfl
theorem eq_spec_l3G_line_r15_1 (r_spec_l3G_line : List Str → List Str → List Str → Int → List Int → Int → Int → Option (Str × Int × Int × Unit)) (r_spec_l3G_block : List Str → List Str → List Str → Int → List Int → Int → Int → Int → Option (Str × Int × Int × Unit)) (k : Nat) (c : PV L_spec_l3G_line_r15.cs) (v : PV L_spec_l3G_line_r15.vs) : spec_l3G_line_r15 r_spec_l3G_line r_spec_l3G_block k c.1 c.2.2.1 c.2.2.2.1 c.2.2.2.2.1 c.2.2.2.2.2.2.1 v.1 v.2.1 = runD (E_spec_l3G_line r_spec_l3G_line r_spec_l3G_block k) (regOps Try.f24 15).toList (ancs (regOps Try.f24 15).toList []) [0, 1, 2, 3, 8, 13, 14, 15, 16, 17, 18, 19, 4, 9, 5, 6, 7, 10, 11, 12, 20, 21, 22, 23, 24, 25] [] (L_spec_l3G_line_r15.st c v) (kR L_spec_l3G_line_r15 V_spec_l3G_line_r15 c) (kLP L_spec_l3G_line_r15 V_spec_l3G_line_r15 c) := by kernel_rfl
theorem eq_spec_l3G_line_r15_2 (r_spec_l3G_line : List Str → List Str → List Str → Int → List Int → Int → Int → Option (Str × Int × Int × Unit)) (r_spec_l3G_block : List Str → List Str → List Str → Int → List Int → Int → Int → Int → Option (Str × Int × Int × Unit)) (k : Nat) (c : PV L_spec_l3G_line_r15.cs) (v : PV L_spec_l3G_line_r15.vs) : spec_l3G_line_r15 r_spec_l3G_line r_spec_l3G_block k c.1 c.2.2.1 c.2.2.2.1 c.2.2.2.2.1 c.2.2.2.2.2.2.1 v.1 v.2.1 = runD (E_spec_l3G_line r_spec_l3G_line r_spec_l3G_block k) (regOps Try.f24 15).toList (ancs (regOps Try.f24 15).toList []) [0, 1, 2, 3, 8, 13, 14, 15, 16, 17, 18, 19, 9, 4, 5, 6, 7, 10, 11, 12, 20, 21, 22, 23, 24, 25] [] (L_spec_l3G_line_r15.st c v) (kR L_spec_l3G_line_r15 V_spec_l3G_line_r15 c) (kLP L_spec_l3G_line_r15 V_spec_l3G_line_r15 c) := by kernel_rfl
theorem C_spec_l3G_line_r15 (r_spec_l3G_line : List Str → List Str → List Str → Int → List Int → Int → Int → Option (Str × Int × Int × Unit)) (r_spec_l3G_block : List Str → List Str → List Str → Int → List Int → Int → Int → Int → Option (Str × Int × Int × Unit)) (h_spec_l3G_line : Good Try.prog gt 24 (S_spec_l3G_line r_spec_l3G_line)) (h_spec_l3G_block : Good Try.prog gt 32 (S_spec_l3G_block r_spec_l3G_block)) (k : Nat) : CodeOk Try.prog gt (regC Try.f24 15) (loopSem 1000015 L_spec_l3G_line_r15 (fun c v => spec_l3G_line_r15 r_spec_l3G_line r_spec_l3G_block k c.1 c.2.2.1 c.2.2.2.1 c.2.2.2.2.1 c.2.2.2.2.2.2.1 v.1 v.2.1) (dkL V_spec_l3G_line_r15)) := regV_ok (e_spec_l3G_line r_spec_l3G_line r_spec_l3G_block h_spec_l3G_line h_spec_l3G_block k) (id := 15) (f := Try.f24) (L := L_spec_l3G_line_r15) (vs := V_spec_l3G_line_r15) (F := fun c v => spec_l3G_line_r15 r_spec_l3G_line r_spec_l3G_block k c.1 c.2.2.1 c.2.2.2.1 c.2.2.2.2.1 c.2.2.2.2.2.2.1 v.1 v.2.1) (ls := [[0, 1, 2, 3, 8, 13, 14, 15, 16, 17, 18, 19, 4, 5, 6, 7, 9, 10, 11, 12, 20, 21, 22, 23, 24, 25], [0, 1, 2, 3, 8, 13, 14, 15, 16, 17, 18, 19, 4, 9, 5, 6, 7, 10, 11, 12, 20, 21, 22, 23, 24, 25], [0, 1, 2, 3, 8, 13, 14, 15, 16, 17, 18, 19, 9, 4, 5, 6, 7, 10, 11, 12, 20, 21, 22, 23, 24, 25]]) (by kernel_rfl) (by kernel_rfl) (each_mem ⟨⟨by kernel_rfl, eq_spec_l3G_line_r15_0 r_spec_l3G_line r_spec_l3G_block k⟩, ⟨by kernel_rfl, eq_spec_l3G_line_r15_1 r_spec_l3G_line r_spec_l3G_block k⟩, ⟨by kernel_rfl, eq_spec_l3G_line_r15_2 r_spec_l3G_line r_spec_l3G_block k⟩, trivial⟩)
theorem eq_spec_l3G_line (r_spec_l3G_line : List Str → List Str → List Str → Int → List Int → Int → Int → Option (Str × Int × Int × Unit)) (r_spec_l3G_block : List Str → List Str → List Str → Int → List Int → Int → Int → Int → Option (Str × Int × Int × Unit)) (k : Nat) (c : PV L_spec_l3G_line.cs) (v : PV L_spec_l3G_line.vs) : spec_l3G_line_b r_spec_l3G_line r_spec_l3G_block k c.2.1 c.2.2.1 c.2.2.2.1 v.2.2.1 c.2.2.2.2.1 v.2.2.2.1 v.2.1 = runC (E_spec_l3G_line r_spec_l3G_line r_spec_l3G_block k) (bodyOf Try.f24) (L_spec_l3G_line.st c v) (kO L_spec_l3G_line V_spec_l3G_line c) (kP L_spec_l3G_line V_spec_l3G_line c) := by kernel_rfl
theorem g_spec_l3G_line (r_spec_l3G_line : List Str → List Str → List Str → Int → List Int → Int → Int → Option (Str × Int × Int × Unit)) (r_spec_l3G_block : List Str → List Str → List Str → Int → List Int → Int → Int → Int → Option (Str × Int × Int × Unit)) (h_spec_l3G_line : Good Try.prog gt 24 (S_spec_l3G_line r_spec_l3G_line)) (h_spec_l3G_block : Good Try.prog gt 32 (S_spec_l3G_block r_spec_l3G_block)) (k : Nat) : Good Try.prog gt 24 (S_spec_l3G_line (spec_l3G_line_b r_spec_l3G_line r_spec_l3G_block k)) := good_obj (e_spec_l3G_line r_spec_l3G_line r_spec_l3G_block h_spec_l3G_line h_spec_l3G_block k) (L := L_spec_l3G_line) (vs := V_spec_l3G_line) (res := [4]) (F := fun c v => spec_l3G_line_b r_spec_l3G_line r_spec_l3G_block k c.2.1 c.2.2.1 c.2.2.2.1 v.2.2.1 c.2.2.2.2.1 v.2.2.2.1 v.2.1) Try.func24 Try.call24 (by kernel_rfl) (codes_ok (l := [(regC Try.f24 15, loopSem 1000015 L_spec_l3G_line_r15 (fun c v => spec_l3G_line_r15 r_spec_l3G_line r_spec_l3G_block k c.1 c.2.2.1 c.2.2.2.1 c.2.2.2.2.1 c.2.2.2.2.2.2.1 v.1 v.2.1) (dkL V_spec_l3G_line_r15))]) (by kernel_rfl) ⟨C_spec_l3G_line_r15 r_spec_l3G_line r_spec_l3G_block h_spec_l3G_line h_spec_l3G_block k, trivial⟩) (by kernel_rfl) (by kernel_rfl) (eq_spec_l3G_line r_spec_l3G_line r_spec_l3G_block k)
def spec_l3G_block_l0 (r_spec_l3G_line : List Str → List Str → List Str → Int → List Int → Int → Int → Option (Str × Int × Int × Unit)) (r_spec_l3G_block : List Str → List Str → List Str → Int → List Int → Int → Int → Int → Option (Str × Int × Int × Unit)) (q : Nat) : Nat → List Int → List Str → List Str → List Str → Int → Int → Int → Int → Str → Int → Option (Int × Int × Str × Unit)
  | 0, _, _, _, _, _, _, _, _, _, _ => none
  | k + 1, b2, ints2, refs2, own2, deep2, n2, p2, less2, out, k1 =>
    bif decide (k1 < n2) then
     (r_spec_l3G_line ints2 refs2 own2 less2 b2 p2 deep2).bind fun r1 =>
     (app out r1.1).bind fun s =>
     spec_l3G_block_l0 r_spec_l3G_line r_spec_l3G_block q k b2 ints2 refs2 own2 deep2 n2 r1.2.1 r1.2.2.1 s (w64 (k1 + 1))
    else
     some (p2, less2, out, ())
def L_spec_l3G_block_l0 : Lay := ⟨21, [(40, 2), (44, 5)], [(.l 40 0, .d (.slice U)), (.l 44 0, .lit (.ptr 40 0)), (.l 44 1, .d (.slice .str)), (.l 44 2, .d (.slice .str)), (.l 44 3, .d (.slice .str)), (.r 0, .lit (.ptr 44 0)), (.r 1, .d I), (.r 2, .d I)], [(.l 40 1, .d I), (.l 44 4, .d I), (.r 7, .d .str), (.r 8, .d I)]⟩
def V_spec_l3G_block_l0 : List VL := [.ex (.exit 0) [(.l 40 1, .d I), (.l 44 4, .d I), (.r 7, .d .str)]]
def spec_l3G_block_b (r_spec_l3G_line : List Str → List Str → List Str → Int → List Int → Int → Int → Option (Str × Int × Int × Unit)) (r_spec_l3G_block : List Str → List Str → List Str → Int → List Int → Int → Int → Int → Option (Str × Int × Int × Unit)) (k : Nat) (ints : List Str) (refs : List Str) (own : List Str) (less : Int) (b : List Int) (p : Int) (deep : Int) (n : Int) : Option (Str × Int × Int × Unit) :=
  (spec_l3G_block_l0 r_spec_l3G_line r_spec_l3G_block k k b ints refs own deep n p less ([123, 10] : Str) 0).bind fun o =>
  (app o.2.2.1 ([125] : Str)).bind fun s =>
  some (s, o.1, o.2.1, ())
def E_spec_l3G_block (r_spec_l3G_line : List Str → List Str → List Str → Int → List Int → Int → Int → Option (Str × Int × Int × Unit)) (r_spec_l3G_block : List Str → List Str → List Str → Int → List Int → Int → Int → Int → Option (Str × Int × Int × Unit)) (k : Nat) : Env := envOf gt tab [(24, S_spec_l3G_line r_spec_l3G_line)] [(0, loopSem 0 L_spec_l3G_block_l0 (fun c v => spec_l3G_block_l0 r_spec_l3G_line r_spec_l3G_block k k c.1 c.2.2.1 c.2.2.2.1 c.2.2.2.2.1 c.2.2.2.2.2.2.1 c.2.2.2.2.2.2.2.1 v.1 v.2.1 v.2.2.1 v.2.2.2.1) (dkL V_spec_l3G_block_l0))] []
theorem e_spec_l3G_block (r_spec_l3G_line : List Str → List Str → List Str → Int → List Int → Int → Int → Option (Str × Int × Int × Unit)) (r_spec_l3G_block : List Str → List Str → List Str → Int → List Int → Int → Int → Int → Option (Str × Int × Int × Unit)) (h_spec_l3G_line : Good Try.prog gt 24 (S_spec_l3G_line r_spec_l3G_line)) (h_spec_l3G_block : Good Try.prog gt 32 (S_spec_l3G_block r_spec_l3G_block)) (k : Nat) : EnvOk Try.prog (E_spec_l3G_block r_spec_l3G_line r_spec_l3G_block k) := env_ok mix tabOk ⟨h_spec_l3G_line, trivial⟩ ⟨loop_cong _ _ _ _, trivial⟩
theorem eq_spec_l3G_block_l0 (r_spec_l3G_line : List Str → List Str → List Str → Int → List Int → Int → Int → Option (Str × Int × Int × Unit)) (r_spec_l3G_block : List Str → List Str → List Str → Int → List Int → Int → Int → Int → Option (Str × Int × Int × Unit)) (k q : Nat) (c : PV L_spec_l3G_block_l0.cs) (v : PV L_spec_l3G_block_l0.vs) : spec_l3G_block_l0 r_spec_l3G_line r_spec_l3G_block k (q + 1) c.1 c.2.2.1 c.2.2.2.1 c.2.2.2.2.1 c.2.2.2.2.2.2.1 c.2.2.2.2.2.2.2.1 v.1 v.2.1 v.2.2.1 v.2.2.2.1 = runC (E_spec_l3G_block r_spec_l3G_line r_spec_l3G_block k) (loopBody Try.f32 0) (L_spec_l3G_block_l0.st c v) (kL L_spec_l3G_block_l0 V_spec_l3G_block_l0 c (fun v => spec_l3G_block_l0 r_spec_l3G_line r_spec_l3G_block k q c.1 c.2.2.1 c.2.2.2.1 c.2.2.2.2.1 c.2.2.2.2.2.2.1 c.2.2.2.2.2.2.2.1 v.1 v.2.1 v.2.2.1 v.2.2.2.1)) (kLP L_spec_l3G_block_l0 V_spec_l3G_block_l0 c) := by kernel_rfl
theorem C_spec_l3G_block_l0 (r_spec_l3G_line : List Str → List Str → List Str → Int → List Int → Int → Int → Option (Str × Int × Int × Unit)) (r_spec_l3G_block : List Str → List Str → List Str → Int → List Int → Int → Int → Int → Option (Str × Int × Int × Unit)) (h_spec_l3G_line : Good Try.prog gt 24 (S_spec_l3G_line r_spec_l3G_line)) (h_spec_l3G_block : Good Try.prog gt 32 (S_spec_l3G_block r_spec_l3G_block)) (k q : Nat) : CodeOk Try.prog gt (blkC Try.f32 0) (loopSem 0 L_spec_l3G_block_l0 (fun c v => spec_l3G_block_l0 r_spec_l3G_line r_spec_l3G_block k q c.1 c.2.2.1 c.2.2.2.1 c.2.2.2.2.1 c.2.2.2.2.2.2.1 c.2.2.2.2.2.2.2.1 v.1 v.2.1 v.2.2.1 v.2.2.2.1) (dkL V_spec_l3G_block_l0)) := loopV_ok (e_spec_l3G_block r_spec_l3G_line r_spec_l3G_block h_spec_l3G_line h_spec_l3G_block k) (id := 0) (f := Try.f32) (L := L_spec_l3G_block_l0) (vs := V_spec_l3G_block_l0) (l := fun q c v => spec_l3G_block_l0 r_spec_l3G_line r_spec_l3G_block k q c.1 c.2.2.1 c.2.2.2.1 c.2.2.2.2.1 c.2.2.2.2.2.2.1 c.2.2.2.2.2.2.2.1 v.1 v.2.1 v.2.2.1 v.2.2.2.1) (codes_ok (l := []) (by kernel_rfl) trivial) (fun _ _ => rfl) (eq_spec_l3G_block_l0 r_spec_l3G_line r_spec_l3G_block k) q
theorem eq_spec_l3G_block (r_spec_l3G_line : List Str → List Str → List Str → Int → List Int → Int → Int → Option (Str × Int × Int × Unit)) (r_spec_l3G_block : List Str → List Str → List Str → Int → List Int → Int → Int → Int → Option (Str × Int × Int × Unit)) (k : Nat) (c : PV L_spec_l3G_block.cs) (v : PV L_spec_l3G_block.vs) : spec_l3G_block_b r_spec_l3G_line r_spec_l3G_block k c.2.1 c.2.2.1 c.2.2.2.1 v.2.2.2.1 c.2.2.2.2.1 v.2.2.2.2.1 v.2.1 v.2.2.1 = runC (E_spec_l3G_block r_spec_l3G_line r_spec_l3G_block k) (bodyOf Try.f32) (L_spec_l3G_block.st c v) (kO L_spec_l3G_block V_spec_l3G_block c) (kP L_spec_l3G_block V_spec_l3G_block c) := by kernel_rfl
theorem g_spec_l3G_block (r_spec_l3G_line : List Str → List Str → List Str → Int → List Int → Int → Int → Option (Str × Int × Int × Unit)) (r_spec_l3G_block : List Str → List Str → List Str → Int → List Int → Int → Int → Int → Option (Str × Int × Int × Unit)) (h_spec_l3G_line : Good Try.prog gt 24 (S_spec_l3G_line r_spec_l3G_line)) (h_spec_l3G_block : Good Try.prog gt 32 (S_spec_l3G_block r_spec_l3G_block)) (k : Nat) : Good Try.prog gt 32 (S_spec_l3G_block (spec_l3G_block_b r_spec_l3G_line r_spec_l3G_block k)) := good_obj (e_spec_l3G_block r_spec_l3G_line r_spec_l3G_block h_spec_l3G_line h_spec_l3G_block k) (L := L_spec_l3G_block) (vs := V_spec_l3G_block) (res := [6]) (F := fun c v => spec_l3G_block_b r_spec_l3G_line r_spec_l3G_block k c.2.1 c.2.2.1 c.2.2.2.1 v.2.2.2.1 c.2.2.2.2.1 v.2.2.2.2.1 v.2.1 v.2.2.1) Try.func32 Try.call32 (by kernel_rfl) (codes_ok (l := [(blkC Try.f32 0, loopSem 0 L_spec_l3G_block_l0 (fun c v => spec_l3G_block_l0 r_spec_l3G_line r_spec_l3G_block k k c.1 c.2.2.1 c.2.2.2.1 c.2.2.2.2.1 c.2.2.2.2.2.2.1 c.2.2.2.2.2.2.2.1 v.1 v.2.1 v.2.2.1 v.2.2.2.1) (dkL V_spec_l3G_block_l0))]) (by kernel_rfl) ⟨C_spec_l3G_block_l0 r_spec_l3G_line r_spec_l3G_block h_spec_l3G_line h_spec_l3G_block k k, trivial⟩) (by kernel_rfl) (by kernel_rfl) (eq_spec_l3G_block r_spec_l3G_line r_spec_l3G_block k)
def grp_spec_l3G_line : Nat → (List Str → List Str → List Str → Int → List Int → Int → Int → Option (Str × Int × Int × Unit)) × (List Str → List Str → List Str → Int → List Int → Int → Int → Int → Option (Str × Int × Int × Unit))
  | 0 => (fun _ _ _ _ _ _ _ => none, fun _ _ _ _ _ _ _ _ => none)
  | k + 1 => (spec_l3G_line_b (grp_spec_l3G_line k).1 (grp_spec_l3G_line k).2 k, spec_l3G_block_b (grp_spec_l3G_line k).1 (grp_spec_l3G_line k).2 k)
def spec_l3G_line (k : Nat) : List Str → List Str → List Str → Int → List Int → Int → Int → Option (Str × Int × Int × Unit) := (grp_spec_l3G_line k).1
def spec_l3G_block (k : Nat) : List Str → List Str → List Str → Int → List Int → Int → Int → Int → Option (Str × Int × Int × Unit) := (grp_spec_l3G_line k).2
theorem gg_grp_spec_l3G_line : ∀ k, Good Try.prog gt 24 (S_spec_l3G_line (spec_l3G_line k)) ∧ Good Try.prog gt 32 (S_spec_l3G_block (spec_l3G_block k))
  | 0 => ⟨good_none (L := L_spec_l3G_line) (vs := V_spec_l3G_line) (res := [4]) (F := fun _ _ => none) (fun _ _ => rfl), good_none (L := L_spec_l3G_block) (vs := V_spec_l3G_block) (res := [6]) (F := fun _ _ => none) (fun _ _ => rfl)⟩
  | k + 1 => have ih := gg_grp_spec_l3G_line k
    ⟨g_spec_l3G_line _ _ ih.1 ih.2 k, g_spec_l3G_block _ _ ih.1 ih.2 k⟩
theorem gg_spec_l3G_line (k : Nat) : Good Try.prog gt 24 (S_spec_l3G_line (spec_l3G_line k)) := (gg_grp_spec_l3G_line k).1
theorem gg_spec_l3G_block (k : Nat) : Good Try.prog gt 32 (S_spec_l3G_block (spec_l3G_block k)) := (gg_grp_spec_l3G_line k).2

/-! (*loop.example/sedge/spec.l3G).body -/
def L_spec_l3G_body : Lay := ⟨24, [(44, 5), (40, 2)], [(.l 44 0, .lit (.ptr 40 0)), (.l 44 1, .d (.slice .str)), (.l 44 2, .d (.slice .str)), (.l 44 3, .d (.slice .str)), (.l 40 0, .d (.slice U))], [(.r 0, .lit (.ptr 44 0)), (.r 1, .d I), (.l 44 4, .d I), (.l 40 1, .d I)]⟩
def V_spec_l3G_body : List VO := [.ret [(.r 4, .d .str), (.l 40 1, .d I), (.l 44 4, .d I)] []]
def S_spec_l3G_body (f : List Str → List Str → List Str → Int → List Int → Int → Int → Option (Str × Int × Int × Unit)) : CSem := semO L_spec_l3G_body (fun c v => f c.2.1 c.2.2.1 c.2.2.2.1 v.2.2.1 c.2.2.2.2.1 v.2.2.2.1 v.2.1) (dkV [4] V_spec_l3G_body)
def spec_l3G_body_l0 (q : Nat) : Nat → List Int → List Str → List Str → List Str → Int → Int → Str → Int → Option (Int × Int × Str × Unit)
  | 0, _, _, _, _, _, _, _, _ => none
  | k + 1, b2, ints2, refs2, own2, p2, less2, out, k1 =>
    bif decide (k1 > 0) then
     (spec_l3G_line q ints2 refs2 own2 less2 b2 p2 2).bind fun r2 =>
     (app out r2.1).bind fun s =>
     spec_l3G_body_l0 q k b2 ints2 refs2 own2 r2.2.1 r2.2.2.1 s (w64 (k1 - 1))
    else
     some (p2, less2, out, ())
def L_spec_l3G_body_l0 : Lay := ⟨24, [(40, 2), (44, 5)], [(.l 40 0, .d (.slice U)), (.l 44 0, .lit (.ptr 40 0)), (.l 44 1, .d (.slice .str)), (.l 44 2, .d (.slice .str)), (.l 44 3, .d (.slice .str)), (.r 0, .lit (.ptr 44 0))], [(.l 40 1, .d I), (.l 44 4, .d I), (.r 5, .d .str), (.r 6, .d I)]⟩
def V_spec_l3G_body_l0 : List VL := [.ex (.exit 0) [(.l 40 1, .d I), (.l 44 4, .d I), (.r 5, .d .str)]]
def spec_l3G_body (k : Nat) (ints : List Str) (refs : List Str) (own : List Str) (less : Int) (b : List Int) (p : Int) (n : Int) : Option (Str × Int × Int × Unit) :=
  (spec_l1Rd_pick b p (w64 (2 * n))).bind fun r1 =>
  (spec_l3G_body_l0 k k b ints refs own r1.2.1 less ([] : Str) (w64 (1 + r1.1))).bind fun o =>
  some (o.2.2.1, o.1, o.2.1, ())
def E_spec_l3G_body (k : Nat) : Env := envOf gt tab [(16, S_spec_l1Rd_pick spec_l1Rd_pick), (24, S_spec_l3G_line (spec_l3G_line k))] [(0, loopSem 0 L_spec_l3G_body_l0 (fun c v => spec_l3G_body_l0 k k c.1 c.2.2.1 c.2.2.2.1 c.2.2.2.2.1 v.1 v.2.1 v.2.2.1 v.2.2.2.1) (dkL V_spec_l3G_body_l0))] []
theorem e_spec_l3G_body (k : Nat) : EnvOk Try.prog (E_spec_l3G_body k) := env_ok mix tabOk ⟨g_spec_l1Rd_pick, gg_spec_l3G_line k, trivial⟩ ⟨loop_cong _ _ _ _, trivial⟩
theorem eq_spec_l3G_body_l0 (k q : Nat) (c : PV L_spec_l3G_body_l0.cs) (v : PV L_spec_l3G_body_l0.vs) : spec_l3G_body_l0 k (q + 1) c.1 c.2.2.1 c.2.2.2.1 c.2.2.2.2.1 v.1 v.2.1 v.2.2.1 v.2.2.2.1 = runC (E_spec_l3G_body k) (loopBody Try.f22 0) (L_spec_l3G_body_l0.st c v) (kL L_spec_l3G_body_l0 V_spec_l3G_body_l0 c (fun v => spec_l3G_body_l0 k q c.1 c.2.2.1 c.2.2.2.1 c.2.2.2.2.1 v.1 v.2.1 v.2.2.1 v.2.2.2.1)) (kLP L_spec_l3G_body_l0 V_spec_l3G_body_l0 c) := by kernel_rfl
theorem C_spec_l3G_body_l0 (k q : Nat) : CodeOk Try.prog gt (blkC Try.f22 0) (loopSem 0 L_spec_l3G_body_l0 (fun c v => spec_l3G_body_l0 k q c.1 c.2.2.1 c.2.2.2.1 c.2.2.2.2.1 v.1 v.2.1 v.2.2.1 v.2.2.2.1) (dkL V_spec_l3G_body_l0)) := loopV_ok (e_spec_l3G_body k) (id := 0) (f := Try.f22) (L := L_spec_l3G_body_l0) (vs := V_spec_l3G_body_l0) (l := fun q c v => spec_l3G_body_l0 k q c.1 c.2.2.1 c.2.2.2.1 c.2.2.2.2.1 v.1 v.2.1 v.2.2.1 v.2.2.2.1) (codes_ok (l := []) (by kernel_rfl) trivial) (fun _ _ => rfl) (eq_spec_l3G_body_l0 k) q
theorem eq_spec_l3G_body (k : Nat) (c : PV L_spec_l3G_body.cs) (v : PV L_spec_l3G_body.vs) : spec_l3G_body k c.2.1 c.2.2.1 c.2.2.2.1 v.2.2.1 c.2.2.2.2.1 v.2.2.2.1 v.2.1 = runC (E_spec_l3G_body k) (bodyOf Try.f22) (L_spec_l3G_body.st c v) (kO L_spec_l3G_body V_spec_l3G_body c) (kP L_spec_l3G_body V_spec_l3G_body c) := by kernel_rfl
theorem g_spec_l3G_body (k : Nat) : Good Try.prog gt 22 (S_spec_l3G_body (spec_l3G_body k)) := good_obj (e_spec_l3G_body k) (L := L_spec_l3G_body) (vs := V_spec_l3G_body) (res := [4]) (F := fun c v => spec_l3G_body k c.2.1 c.2.2.1 c.2.2.2.1 v.2.2.1 c.2.2.2.2.1 v.2.2.2.1 v.2.1) Try.func22 Try.call22 (by kernel_rfl) (codes_ok (l := [(blkC Try.f22 0, loopSem 0 L_spec_l3G_body_l0 (fun c v => spec_l3G_body_l0 k k c.1 c.2.2.1 c.2.2.2.1 c.2.2.2.2.1 v.1 v.2.1 v.2.2.1 v.2.2.2.1) (dkL V_spec_l3G_body_l0))]) (by kernel_rfl) ⟨C_spec_l3G_body_l0 k k, trivial⟩) (by kernel_rfl) (by kernel_rfl) (eq_spec_l3G_body k)

/-! loop.example/sedge/spec.l3Source -/
def L_spec_l3Source : Lay := ⟨75, [(40, 2)], [(.l 40 0, .d (.slice U))], [(.r 0, .lit (.ptr 40 0)), (.l 40 1, .d I)]⟩
def V_spec_l3Source : List VO := [.ret [(.r 2, .d .str), (.l 40 1, .d I)] []]
def S_spec_l3Source (f : List Int → Int → Option (Str × Int × Unit)) : CSem := semO L_spec_l3Source (fun c v => f c.1 v.2.1) (dkV [2] V_spec_l3Source)
def spec_l3Source (k : Nat) (b : List Int) (p : Int) : Option (Str × Int × Unit) :=
  (spec_l1Rd_pick b p 16).bind fun r1 =>
  (spec_l1Rd_pick b r1.2.1 5).bind fun r2 =>
  (spec_l1Dec k (w64 (1 + r2.1))).bind fun r3 =>
  (app ([97, 114, 114, 97, 121, 32, 97, 91, 56, 93, 59, 10, 97, 114, 114, 97, 121, 32, 98, 91] : Str) r3.1).bind fun s =>
  (app s ([93, 59, 10, 118, 97, 114, 32, 103, 59, 10, 118, 97, 114, 32, 110, 59, 10] : Str)).bind fun s2 =>
  (spec_l3G_body k ([([120] : Str), ([121] : Str), ([103] : Str)]) [] ([([120] : Str), ([103] : Str)]) (w64 (5 + r1.1)) b r2.2.1 1).bind fun r4 =>
  (app ([102, 117, 110, 99, 32, 102, 40, 120, 44, 32, 121, 41, 32, 123, 10, 118, 97, 114, 32, 105, 59, 10] : Str) r4.1).bind fun s3 =>
  (app s3 ([114, 101, 116, 117, 114, 110, 32, 120, 59, 10, 125, 10] : Str)).bind fun s4 =>
  (spec_l3G_body k ([([120] : Str), ([121] : Str), ([103] : Str)]) [] ([([120] : Str), ([103] : Str)]) r4.2.2.1 b r4.2.1 1).bind fun r5 =>
  (app ([102, 117, 110, 99, 32, 104, 40, 120, 41, 32, 123, 10, 118, 97, 114, 32, 105, 44, 32, 121, 59, 10] : Str) r5.1).bind fun s5 =>
  (app s5 ([114, 101, 116, 117, 114, 110, 32, 121, 59, 10, 125, 10] : Str)).bind fun s6 =>
  (spec_l1Rd_pick b r5.2.1 14).bind fun r6 =>
  (spec_l3G_body k ([([120] : Str), ([121] : Str), ([122] : Str), ([103] : Str), ([110] : Str), ([105] : Str)]) ([([112] : Str), ([113] : Str)]) ([([120] : Str), ([121] : Str), ([122] : Str), ([103] : Str), ([110] : Str)]) (w64 (4 + r6.1)) b r6.2.1 5).bind fun r7 =>
  (app ([102, 117, 110, 99, 32, 109, 97, 105, 110, 40, 41, 32, 123, 10, 118, 97, 114, 32, 105, 44, 32, 120, 44, 32, 121, 44, 32, 122, 59, 10, 114, 101, 102, 32, 112, 44, 32, 113, 59, 10] : Str) r7.1).bind fun s7 =>
  (app s7 ([125, 10] : Str)).bind fun s8 =>
  (spec_l1Rd_pick b r7.2.1 4).bind fun r8 =>
  bif r8.1 == 0 then
   (app s2 s8).bind fun s9 =>
   (app s9 s6).bind fun s10 =>
   (app s10 s4).bind fun s11 =>
   some (s11, r8.2.1, ())
  else
   (app s2 s4).bind fun s12 =>
   (app s12 s6).bind fun s13 =>
   (app s13 s8).bind fun s14 =>
   some (s14, r8.2.1, ())
def E_spec_l3Source (k : Nat) : Env := envOf gt tab [(16, S_spec_l1Rd_pick spec_l1Rd_pick), (21, S_spec_l1Dec (spec_l1Dec k)), (22, S_spec_l3G_body (spec_l3G_body k))] [] [(13, 44)]
theorem e_spec_l3Source (k : Nat) : EnvOk Try.prog (E_spec_l3Source k) := env_ok mix tabOk ⟨g_spec_l1Rd_pick, gg_spec_l1Dec k, g_spec_l3G_body k, trivial⟩ trivial
theorem eq_spec_l3Source (k : Nat) (c : PV L_spec_l3Source.cs) (v : PV L_spec_l3Source.vs) : spec_l3Source k c.1 v.2.1 = runC (E_spec_l3Source k) (bodyOf Try.f15) (L_spec_l3Source.st c v) (kO L_spec_l3Source V_spec_l3Source c) (kP L_spec_l3Source V_spec_l3Source c) := by kernel_rfl
theorem g_spec_l3Source (k : Nat) : Good Try.prog gt 15 (S_spec_l3Source (spec_l3Source k)) := good_obj (e_spec_l3Source k) (L := L_spec_l3Source) (vs := V_spec_l3Source) (res := [2]) (F := fun c v => spec_l3Source k c.1 v.2.1) Try.func15 Try.call15 (by kernel_rfl) (codes_ok (l := []) (by kernel_rfl) trivial) (by kernel_rfl) (by kernel_rfl) (eq_spec_l3Source k)

/-! loop.example/sedge/spec.DrawReportPlace -/
def S_spec_DrawReportPlace (f : List Int → Option (Str × Int × Unit)) : CSem := semD [(.slice U)] [.str, I] (fun d => f d.1) id
def spec_DrawReportPlace (k : Nat) (code : List Int) : Option (Str × Int × Unit) :=
  (spec_l1Open code).bind fun r1 =>
  (spec_l3Source k r1.1 r1.2.1).bind fun r2 =>
  (spec_l1Rd_pick r1.1 r2.2.1 256).bind fun r3 =>
  (spec_l1Rd_pick r1.1 r3.2.1 9).bind fun r4 =>
  bif decide ((w64 ((r2.1.length : Int) + 3)) = 0) then
   none
  else
   some (r2.1, ((w64 ((w64 (r3.1 * 9)) + r4.1)).tmod (w64 ((r2.1.length : Int) + 3))), ())
def E_spec_DrawReportPlace (k : Nat) : Env := envOf gt tab [(14, S_spec_l1Open spec_l1Open), (15, S_spec_l3Source (spec_l3Source k)), (16, S_spec_l1Rd_pick spec_l1Rd_pick)] [] []
theorem e_spec_DrawReportPlace (k : Nat) : EnvOk Try.prog (E_spec_DrawReportPlace k) := env_ok mix tabOk ⟨g_spec_l1Open, g_spec_l3Source k, g_spec_l1Rd_pick, trivial⟩ trivial
theorem eq_spec_DrawReportPlace (k : Nat) (d : DL [(.slice U)]) : spec_DrawReportPlace k d.1 = runC (E_spec_DrawReportPlace k) (bodyOf Try.f10) (stD Try.f10.ntmps [(.slice U)] d) (kD Try.f10.results.toList [.str, I]) (fun _ _ => none) := by kernel_rfl
theorem g_spec_DrawReportPlace (k : Nat) : Good Try.prog gt 10 (S_spec_DrawReportPlace (spec_DrawReportPlace k)) := good_data (e_spec_DrawReportPlace k) (ts := [(.slice U)]) (rs := [.str, I]) (F := fun d => spec_DrawReportPlace k d.1) Try.func10 Try.call10 (by kernel_rfl) (codes_ok (l := []) (by kernel_rfl) trivial) (by kernel_rfl) (eq_spec_DrawReportPlace k)
end Go.Fx.R3
