/- Parts: R4a, R4p. -/
import Derived.Test.YtafpgfdjfnoagaaDoorChecked
import Derived.Test.YtafpgfdjfnoagaaDoorTrydShelf
import Derived.Test.YtafpgfdjfnoagaaDoorFxe
/- What the functions behind 'FnExactReportVal' compute, and the proof that the code computes it. Printed by gen2.py. -/
namespace Go.Fx.R4
open Go Go.Fx Go.Proofs
set_option linter.unusedVariables false
theorem mix : Tryd.prog.follows .mixedOrders = true := by kernel_rfl
def gt : Nat → Option GA
  | 0 => some ⟨.int .u64, Lib.pow10Tab⟩
  | _ => none
def i3 : TI := ⟨1, 8, some I, .int .i64, [.int .i64 0]⟩
theorem ti3 : TIok Tryd.prog 3 i3 := ti_of (i := Tryd.t3) (by kernel_rfl) Tryd.underlying3 (by kernel_rfl) (by kernel_rfl) (by kernel_rfl) (by kernel_rfl)
def i5 : TI := ⟨1, 1, some U, .int .u8, [.int .u8 0]⟩
theorem ti5 : TIok Tryd.prog 5 i5 := ti_of (i := Tryd.t5) (by kernel_rfl) Tryd.underlying5 (by kernel_rfl) (by kernel_rfl) (by kernel_rfl) (by kernel_rfl)
def i9 : TI := ⟨1, 16, some .str, .str, [.string ⟨#[]⟩]⟩
theorem ti9 : TIok Tryd.prog 9 i9 := ti_of (i := Tryd.t9) (by kernel_rfl) Tryd.underlying9 (by kernel_rfl) (by kernel_rfl) (by kernel_rfl) (by kernel_rfl)
def i23 : TI := ⟨4, 32, some (.pair I (.pair I (.pair I I))), .struct [(0, 3), (1, 3), (2, 3), (3, 3)], [.int .i64 0, .int .i64 0, .int .i64 0, .int .i64 0]⟩
theorem ti23 : TIok Tryd.prog 23 i23 := ti_of (i := Tryd.t23) (by kernel_rfl) Tryd.underlying23 (by kernel_rfl) (by kernel_rfl) (by kernel_rfl) (by kernel_rfl)
def i25 : TI := ⟨4, 32, some (.pair I (.pair I (.pair I I))), .struct [(0, 3), (1, 3), (2, 3), (3, 3)], [.int .i64 0, .int .i64 0, .int .i64 0, .int .i64 0]⟩
theorem ti25 : TIok Tryd.prog 25 i25 := ti_of (i := Tryd.t25) (by kernel_rfl) Tryd.underlying25 (by kernel_rfl) (by kernel_rfl) (by kernel_rfl) (by kernel_rfl)
def i34 : TI := ⟨2, 16, some (.pair I I), .struct [(0, 3), (1, 3)], [.int .i64 0, .int .i64 0]⟩
theorem ti34 : TIok Tryd.prog 34 i34 := ti_of (i := Tryd.t34) (by kernel_rfl) Tryd.underlying34 (by kernel_rfl) (by kernel_rfl) (by kernel_rfl) (by kernel_rfl)
def i38 : TI := ⟨2, 16, some (.pair I I), .struct [(0, 3), (1, 3)], [.int .i64 0, .int .i64 0]⟩
theorem ti38 : TIok Tryd.prog 38 i38 := ti_of (i := Tryd.t38) (by kernel_rfl) Tryd.underlying38 (by kernel_rfl) (by kernel_rfl) (by kernel_rfl) (by kernel_rfl)
def i41 : TI := ⟨1, 24, some (.slice U), .slice 5, [.slice none 0 0]⟩
theorem ti41 : TIok Tryd.prog 41 i41 := ti_of (i := Tryd.t41) (by kernel_rfl) Tryd.underlying41 (by kernel_rfl) (by kernel_rfl) (by kernel_rfl) (by kernel_rfl)
def tab : List (Nat × TI) := [(3, i3), (5, i5), (9, i9), (23, i23), (25, i25), (34, i34), (38, i38), (41, i41)]
theorem tabOk : TabL Tryd.prog tab := ⟨ti3, ti5, ti9, ti23, ti25, ti34, ti38, ti41, trivial⟩
/-! strconv.Itoa -/
def itoaF (n : Int) : Option (Str × Unit) := bif decide (-9223372036854775808 ≤ n) && decide (n ≤ 9223372036854775807) then some (Lib.itoa n, ()) else none
def s_itoa : CSem := semD [I] [.str] (fun d => itoaF d.1) id
theorem repL_ints {S : Mem} {m : Bool} {k : IntKind} : ∀ {l : List Int} {cs : List Value} {H : Heap}, RepL (Rep S m (.int k)) cs l H → cs = l.map fun n => .int k n
  | [], cs, H, h => h.1
  | n :: l, cs, H, h => by
    obtain ⟨c1, c2, H1, H2, rfl, rfl, h1, h2⟩ := h
    rw [repL_ints h2, h1.1]; rfl
theorem g_itoa : Good Tryd.prog gt 14 s_itoa := by
  refine ⟨semOk_below (ts := [I]) (rs := [.str]) (dec := id) rfl rfl Tryd.call14 fun d y w hg h => ?_, semD_det _ _ _ _, semD_cong _ _ _ _⟩
  obtain ⟨n, u⟩ := d
  have h : (bif decide (-9223372036854775808 ≤ n) && decide (n ≤ 9223372036854775807) then some (Lib.itoa n, ()) else none) = some y := h
  cases hb : (decide (-9223372036854775808 ≤ n) && decide (n ≤ 9223372036854775807)) with
  | false => rw [hb] at h; cases h
  | true =>
    rw [hb] at h
    cases h
    simp only [Bool.and_eq_true, decide_eq_true_eq] at hb
    have htab : Lib.TabIs Tryd.prog w "internal/strconv.uint64pow10" .u64 Lib.pow10Tab := by
      obtain ⟨arr, elem, fz, h1, h3⟩ := hg 0 ⟨.int .u64, Lib.pow10Tab⟩ rfl
      have hname : Tryd.prog.globalNamed "internal/strconv.uint64pow10" = some 0 := by kernel_rfl
      have h1 : w.heap[0]? = some (.cells arr elem fz) := h1
      unfold Lib.TabIs World.var?
      rw [hname]
      simp only [Option.bind_some, h1]
      rw [← repL_ints h3]
    refine (Tryd.strconv_Itoa n hb.1 hb.2 w htab).mono fun e w' ⟨he, k, os, hw⟩ => ?_
    subst hw
    refine ⟨by rw [he]; rfl, ⟨rfl, rfl, rfl, ?_, fun i hi => ?_⟩⟩
    · show w.heap.size ≤ (w.heap ++ os).size
      simp
    · show (w.heap ++ os)[i]? = w.heap[i]?
      rw [Array.getElem?_append_left hi]

/-! loop.example/sedge/spec.l10None -/
def S_spec_l10None (f : Option ((Int × Int × Int × Int) × Unit)) : CSem := semD [] [(.pair I (.pair I (.pair I I)))] (fun d => f) id
def spec_l10None : Option ((Int × Int × Int × Int) × Unit) :=
  some ((1, 0, 0, 0), ())
def E_spec_l10None : Env := envOf gt tab [] [] [(0, 25)]
theorem e_spec_l10None : EnvOk Tryd.prog (E_spec_l10None) := env_ok mix tabOk trivial trivial
theorem eq_spec_l10None (d : DL []) : spec_l10None = runC (E_spec_l10None) (bodyOf Tryd.f8) (stD Tryd.f8.ntmps [] d) (kD (E_spec_l10None) Tryd.f8.results.toList [(.pair I (.pair I (.pair I I)))]) (fun _ _ => none) := by kernel_rfl
theorem g_spec_l10None : Good Tryd.prog gt 8 (S_spec_l10None (spec_l10None)) := good_data (e_spec_l10None) (ts := []) (rs := [(.pair I (.pair I (.pair I I)))]) (F := fun d => spec_l10None) Tryd.func8 Tryd.call8 (by kernel_rfl) (codes_ok (l := []) (by kernel_rfl) trivial) (by kernel_rfl) (eq_spec_l10None)

/-! loop.example/sedge/spec.l8None -/
def S_spec_l8None (f : Option ((Int × Int) × Unit)) : CSem := semD [] [(.pair I I)] (fun d => f) id
def spec_l8None : Option ((Int × Int) × Unit) :=
  some ((1, 0), ())
def E_spec_l8None : Env := envOf gt tab [] [] [(0, 34)]
theorem e_spec_l8None : EnvOk Tryd.prog (E_spec_l8None) := env_ok mix tabOk trivial trivial
theorem eq_spec_l8None (d : DL []) : spec_l8None = runC (E_spec_l8None) (bodyOf Tryd.f25) (stD Tryd.f25.ntmps [] d) (kD (E_spec_l8None) Tryd.f25.results.toList [(.pair I I)]) (fun _ _ => none) := by kernel_rfl
theorem g_spec_l8None : Good Tryd.prog gt 25 (S_spec_l8None (spec_l8None)) := good_data (e_spec_l8None) (ts := []) (rs := [(.pair I I)]) (F := fun d => spec_l8None) Tryd.func25 Tryd.call25 (by kernel_rfl) (codes_ok (l := []) (by kernel_rfl) trivial) (by kernel_rfl) (eq_spec_l8None)

/-! loop.example/sedge/spec.l1In -/
def S_spec_l1In (f : Int → Int → Int → Option (Bool × Unit)) : CSem := semD [I, I, I] [.bool] (fun d => f d.1 d.2.1 d.2.2.1) id
def spec_l1In (n : Int) (low : Int) (high : Int) : Option (Bool × Unit) :=
  joinK (fun (v : Bool) =>
   some (v, ())) fun jx1 =>
  bif decide (n ≥ low) then
   jx1 (decide (n ≤ high))
  else
   jx1 false
def E_spec_l1In : Env := envOf gt tab [] [] []
theorem e_spec_l1In : EnvOk Tryd.prog (E_spec_l1In) := env_ok mix tabOk trivial trivial
theorem eq_spec_l1In (d : DL [I, I, I]) : spec_l1In d.1 d.2.1 d.2.2.1 = runC (E_spec_l1In) (bodyOf Tryd.f27) (stD Tryd.f27.ntmps [I, I, I] d) (kD (E_spec_l1In) Tryd.f27.results.toList [.bool]) (fun _ _ => none) := by kernel_rfl
theorem g_spec_l1In : Good Tryd.prog gt 27 (S_spec_l1In (spec_l1In)) := good_data (e_spec_l1In) (ts := [I, I, I]) (rs := [.bool]) (F := fun d => spec_l1In d.1 d.2.1 d.2.2.1) Tryd.func27 Tryd.call27 (by kernel_rfl) (codes_ok (l := []) (by kernel_rfl) trivial) (by kernel_rfl) (eq_spec_l1In)

/-! loop.example/sedge/spec.NumOk -/
def S_spec_NumOk (f : Int → Option (Bool × Unit)) : CSem := semD [I] [.bool] (fun d => f d.1) id
def spec_NumOk (v : Int) : Option (Bool × Unit) :=
  (spec_l1In v (-2147483648) 2147483647).bind fun r1 =>
  some (r1.1, ())
def E_spec_NumOk : Env := envOf gt tab [(27, S_spec_l1In spec_l1In)] [] []
theorem e_spec_NumOk : EnvOk Tryd.prog (E_spec_NumOk) := env_ok mix tabOk ⟨g_spec_l1In, trivial⟩ trivial
theorem eq_spec_NumOk (d : DL [I]) : spec_NumOk d.1 = runC (E_spec_NumOk) (bodyOf Tryd.f26) (stD Tryd.f26.ntmps [I] d) (kD (E_spec_NumOk) Tryd.f26.results.toList [.bool]) (fun _ _ => none) := by kernel_rfl
theorem g_spec_NumOk : Good Tryd.prog gt 26 (S_spec_NumOk (spec_NumOk)) := good_data (e_spec_NumOk) (ts := [I]) (rs := [.bool]) (F := fun d => spec_NumOk d.1) Tryd.func26 Tryd.call26 (by kernel_rfl) (codes_ok (l := []) (by kernel_rfl) trivial) (by kernel_rfl) (eq_spec_NumOk)

/-! loop.example/sedge/spec.RangeOk -/
def S_spec_RangeOk (f : (Int × Int) → Option (Bool × Unit)) : CSem := semD [(.pair I I)] [.bool] (fun d => f d.1) id
def spec_RangeOk (a : Int × Int) : Option (Bool × Unit) :=
  (spec_l8None).bind fun r1 =>
  joinK (fun (v3 : Bool) =>
   some (v3, ())) fun jx3 =>
  bif ((a.1 == r1.1.1) && (a.2 == r1.1.2)) then
   jx3 true
  else
   (spec_NumOk a.1).bind fun r2 =>
   joinK (fun (v : Bool) =>
    joinK (fun (v2 : Bool) =>
     jx3 v2) fun jx2 =>
    bif v then
     jx2 (decide (a.1 ≤ a.2))
    else
     jx2 false) fun jx1 =>
   bif r2.1 then
    (spec_NumOk a.2).bind fun r3 =>
    jx1 r3.1
   else
    jx1 false
def E_spec_RangeOk : Env := envOf gt tab [(25, S_spec_l8None spec_l8None), (26, S_spec_NumOk spec_NumOk)] [] [(1, 34)]
theorem e_spec_RangeOk : EnvOk Tryd.prog (E_spec_RangeOk) := env_ok mix tabOk ⟨g_spec_l8None, g_spec_NumOk, trivial⟩ trivial
theorem eq_spec_RangeOk (d : DL [(.pair I I)]) : spec_RangeOk d.1 = runC (E_spec_RangeOk) (bodyOf Tryd.f15) (stD Tryd.f15.ntmps [(.pair I I)] d) (kD (E_spec_RangeOk) Tryd.f15.results.toList [.bool]) (fun _ _ => none) := by kernel_rfl
theorem g_spec_RangeOk : Good Tryd.prog gt 15 (S_spec_RangeOk (spec_RangeOk)) := good_data (e_spec_RangeOk) (ts := [(.pair I I)]) (rs := [.bool]) (F := fun d => spec_RangeOk d.1) Tryd.func15 Tryd.call15 (by kernel_rfl) (codes_ok (l := []) (by kernel_rfl) trivial) (by kernel_rfl) (eq_spec_RangeOk)

/-! loop.example/sedge/spec.l10Range -/
def S_spec_l10Range (f : (Int × Int × Int × Int) → Option ((Int × Int) × Unit)) : CSem := semD [(.pair I (.pair I (.pair I I)))] [(.pair I I)] (fun d => f d.1) id
def spec_l10Range (a : Int × Int × Int × Int) : Option ((Int × Int) × Unit) :=
  some ((a.1, a.2.1), ())
def E_spec_l10Range : Env := envOf gt tab [] [] [(1, 25), (2, 34)]
theorem e_spec_l10Range : EnvOk Tryd.prog (E_spec_l10Range) := env_ok mix tabOk trivial trivial
theorem eq_spec_l10Range (d : DL [(.pair I (.pair I (.pair I I)))]) : spec_l10Range d.1 = runC (E_spec_l10Range) (bodyOf Tryd.f16) (stD Tryd.f16.ntmps [(.pair I (.pair I (.pair I I)))] d) (kD (E_spec_l10Range) Tryd.f16.results.toList [(.pair I I)]) (fun _ _ => none) := by kernel_rfl
theorem g_spec_l10Range : Good Tryd.prog gt 16 (S_spec_l10Range (spec_l10Range)) := good_data (e_spec_l10Range) (ts := [(.pair I (.pair I (.pair I I)))]) (rs := [(.pair I I)]) (F := fun d => spec_l10Range d.1) Tryd.func16 Tryd.call16 (by kernel_rfl) (codes_ok (l := []) (by kernel_rfl) trivial) (by kernel_rfl) (eq_spec_l10Range)

/-! loop.example/sedge/spec.RestOk -/
def S_spec_RestOk (f : (Int × Int) → Option (Bool × Unit)) : CSem := semD [(.pair I I)] [.bool] (fun d => f d.1) id
def spec_RestOk (a : Int × Int) : Option (Bool × Unit) :=
  bif a.1 == 0 then
   (spec_NumOk a.2).bind fun r1 =>
   some (r1.1, ())
  else
   (spec_l1In a.1 1 65536).bind fun r2 =>
   joinK (fun (v : Bool) =>
    some (v, ())) fun jx1 =>
   bif r2.1 then
    (spec_l1In a.2 0 (w64 (a.1 - 1))).bind fun r3 =>
    jx1 r3.1
   else
    jx1 false
def E_spec_RestOk : Env := envOf gt tab [(26, S_spec_NumOk spec_NumOk), (27, S_spec_l1In spec_l1In)] [] [(1, 38)]
theorem e_spec_RestOk : EnvOk Tryd.prog (E_spec_RestOk) := env_ok mix tabOk ⟨g_spec_NumOk, g_spec_l1In, trivial⟩ trivial
theorem eq_spec_RestOk (d : DL [(.pair I I)]) : spec_RestOk d.1 = runC (E_spec_RestOk) (bodyOf Tryd.f17) (stD Tryd.f17.ntmps [(.pair I I)] d) (kD (E_spec_RestOk) Tryd.f17.results.toList [.bool]) (fun _ _ => none) := by kernel_rfl
theorem g_spec_RestOk : Good Tryd.prog gt 17 (S_spec_RestOk (spec_RestOk)) := good_data (e_spec_RestOk) (ts := [(.pair I I)]) (rs := [.bool]) (F := fun d => spec_RestOk d.1) Tryd.func17 Tryd.call17 (by kernel_rfl) (codes_ok (l := []) (by kernel_rfl) trivial) (by kernel_rfl) (eq_spec_RestOk)

/-! loop.example/sedge/spec.l10Rest -/
def S_spec_l10Rest (f : (Int × Int × Int × Int) → Option ((Int × Int) × Unit)) : CSem := semD [(.pair I (.pair I (.pair I I)))] [(.pair I I)] (fun d => f d.1) id
def spec_l10Rest (a : Int × Int × Int × Int) : Option ((Int × Int) × Unit) :=
  some (a.2.2, ())
def E_spec_l10Rest : Env := envOf gt tab [] [] [(1, 25), (2, 38)]
theorem e_spec_l10Rest : EnvOk Tryd.prog (E_spec_l10Rest) := env_ok mix tabOk trivial trivial
theorem eq_spec_l10Rest (d : DL [(.pair I (.pair I (.pair I I)))]) : spec_l10Rest d.1 = runC (E_spec_l10Rest) (bodyOf Tryd.f18) (stD Tryd.f18.ntmps [(.pair I (.pair I (.pair I I)))] d) (kD (E_spec_l10Rest) Tryd.f18.results.toList [(.pair I I)]) (fun _ _ => none) := by kernel_rfl
theorem g_spec_l10Rest : Good Tryd.prog gt 18 (S_spec_l10Rest (spec_l10Rest)) := good_data (e_spec_l10Rest) (ts := [(.pair I (.pair I (.pair I I)))]) (rs := [(.pair I I)]) (F := fun d => spec_l10Rest d.1) Tryd.func18 Tryd.call18 (by kernel_rfl) (codes_ok (l := []) (by kernel_rfl) trivial) (by kernel_rfl) (eq_spec_l10Rest)

/-! loop.example/sedge/spec.RangeHas -/
def S_spec_RangeHas (f : (Int × Int) → Int → Option (Bool × Unit)) : CSem := semD [(.pair I I), I] [.bool] (fun d => f d.1 d.2.1) id
def spec_RangeHas (a : Int × Int) (v : Int) : Option (Bool × Unit) :=
  (spec_RangeOk a).bind fun r1 =>
  joinK (fun (v2 : Bool) =>
   some (v2, ())) fun jx1 =>
  bif r1.1 then
   (spec_l1In v a.1 a.2).bind fun r2 =>
   jx1 r2.1
  else
   jx1 false
def E_spec_RangeHas : Env := envOf gt tab [(15, S_spec_RangeOk spec_RangeOk), (27, S_spec_l1In spec_l1In)] [] [(2, 34)]
theorem e_spec_RangeHas : EnvOk Tryd.prog (E_spec_RangeHas) := env_ok mix tabOk ⟨g_spec_RangeOk, g_spec_l1In, trivial⟩ trivial
theorem eq_spec_RangeHas (d : DL [(.pair I I), I]) : spec_RangeHas d.1 d.2.1 = runC (E_spec_RangeHas) (bodyOf Tryd.f28) (stD Tryd.f28.ntmps [(.pair I I), I] d) (kD (E_spec_RangeHas) Tryd.f28.results.toList [.bool]) (fun _ _ => none) := by kernel_rfl
theorem g_spec_RangeHas : Good Tryd.prog gt 28 (S_spec_RangeHas (spec_RangeHas)) := good_data (e_spec_RangeHas) (ts := [(.pair I I), I]) (rs := [.bool]) (F := fun d => spec_RangeHas d.1 d.2.1) Tryd.func28 Tryd.call28 (by kernel_rfl) (codes_ok (l := []) (by kernel_rfl) trivial) (by kernel_rfl) (eq_spec_RangeHas)

/-! loop.example/sedge/spec.l10One -/
def S_spec_l10One (f : Int → Option ((Int × Int × Int × Int) × Unit)) : CSem := semD [I] [(.pair I (.pair I (.pair I I)))] (fun d => f d.1) id
def spec_l10One (v : Int) : Option ((Int × Int × Int × Int) × Unit) :=
  some ((v, v, 0, v), ())
def E_spec_l10One : Env := envOf gt tab [] [] [(2, 25)]
theorem e_spec_l10One : EnvOk Tryd.prog (E_spec_l10One) := env_ok mix tabOk trivial trivial
theorem eq_spec_l10One (d : DL [I]) : spec_l10One d.1 = runC (E_spec_l10One) (bodyOf Tryd.f29) (stD Tryd.f29.ntmps [I] d) (kD (E_spec_l10One) Tryd.f29.results.toList [(.pair I (.pair I (.pair I I)))]) (fun _ _ => none) := by kernel_rfl
theorem g_spec_l10One : Good Tryd.prog gt 29 (S_spec_l10One (spec_l10One)) := good_data (e_spec_l10One) (ts := [I]) (rs := [(.pair I (.pair I (.pair I I)))]) (F := fun d => spec_l10One d.1) Tryd.func29 Tryd.call29 (by kernel_rfl) (codes_ok (l := []) (by kernel_rfl) trivial) (by kernel_rfl) (eq_spec_l10One)

/-! loop.example/sedge/spec.l1Mod -/
def S_spec_l1Mod (f : Int → Int → Option (Int × Unit)) : CSem := semD [I, I] [I] (fun d => f d.1 d.2.1) id
def spec_l1Mod (a : Int) (m : Int) : Option (Int × Unit) :=
  bif decide (m = 0) then
   none
  else
   bif decide ((a.tmod m) < 0) then
    some ((w64 ((a.tmod m) + m)), ())
   else
    some ((a.tmod m), ())
def E_spec_l1Mod : Env := envOf gt tab [] [] []
theorem e_spec_l1Mod : EnvOk Tryd.prog (E_spec_l1Mod) := env_ok mix tabOk trivial trivial
theorem eq_spec_l1Mod (d : DL [I, I]) : spec_l1Mod d.1 d.2.1 = runC (E_spec_l1Mod) (bodyOf Tryd.f30) (stD Tryd.f30.ntmps [I, I] d) (kD (E_spec_l1Mod) Tryd.f30.results.toList [I]) (fun _ _ => none) := by kernel_rfl
theorem g_spec_l1Mod : Good Tryd.prog gt 30 (S_spec_l1Mod (spec_l1Mod)) := good_data (e_spec_l1Mod) (ts := [I, I]) (rs := [I]) (F := fun d => spec_l1Mod d.1 d.2.1) Tryd.func30 Tryd.call30 (by kernel_rfl) (codes_ok (l := []) (by kernel_rfl) trivial) (by kernel_rfl) (eq_spec_l1Mod)

/-! loop.example/sedge/spec.ValMake -/
def S_spec_ValMake (f : (Int × Int) → (Int × Int) → Option ((Int × Int × Int × Int) × Unit)) : CSem := semD [(.pair I I), (.pair I I)] [(.pair I (.pair I (.pair I I)))] (fun d => f d.1 d.2.1) id
def spec_ValMake (a : Int × Int) (b : Int × Int) : Option ((Int × Int × Int × Int) × Unit) :=
  (spec_RangeOk a).bind fun r1 =>
  joinK (fun (v : Bool) =>
   joinK (fun (v2 : Bool) =>
    bif v2 then
     (spec_l10None).bind fun r4 =>
     some (r4.1, ())
    else
     bif b.1 == 0 then
      (spec_RangeHas a b.2).bind fun r5 =>
      bif r5.1 then
       (spec_l10One b.2).bind fun r6 =>
       some (r6.1, ())
      else
       (spec_l10None).bind fun r7 =>
       some (r7.1, ())
     else
      (spec_l1Mod (w64 (b.2 - a.1)) b.1).bind fun r8 =>
      (spec_l1Mod (w64 (a.2 - b.2)) b.1).bind fun r9 =>
      bif decide ((w64 (a.1 + r8.1)) > (w64 (a.2 - r9.1))) then
       (spec_l10None).bind fun r10 =>
       some (r10.1, ())
      else
       bif (w64 (a.1 + r8.1)) == (w64 (a.2 - r9.1)) then
        (spec_l10One (w64 (a.1 + r8.1))).bind fun r11 =>
        some (r11.1, ())
       else
        some (((w64 (a.1 + r8.1)), (w64 (a.2 - r9.1)), b), ())) fun jx2 =>
   bif v then
    jx2 true
   else
    (spec_l8None).bind fun r3 =>
    jx2 ((a.1 == r3.1.1) && (a.2 == r3.1.2))) fun jx1 =>
  bif !r1.1 then
   jx1 true
  else
   (spec_RestOk b).bind fun r2 =>
   jx1 (!r2.1)
def E_spec_ValMake : Env := envOf gt tab [(8, S_spec_l10None spec_l10None), (15, S_spec_RangeOk spec_RangeOk), (17, S_spec_RestOk spec_RestOk), (25, S_spec_l8None spec_l8None), (28, S_spec_RangeHas spec_RangeHas), (29, S_spec_l10One spec_l10One), (30, S_spec_l1Mod spec_l1Mod)] [] [(2, 34), (3, 38), (4, 25)]
theorem e_spec_ValMake : EnvOk Tryd.prog (E_spec_ValMake) := env_ok mix tabOk ⟨g_spec_l10None, g_spec_RangeOk, g_spec_RestOk, g_spec_l8None, g_spec_RangeHas, g_spec_l10One, g_spec_l1Mod, trivial⟩ trivial
theorem eq_spec_ValMake (d : DL [(.pair I I), (.pair I I)]) : spec_ValMake d.1 d.2.1 = runC (E_spec_ValMake) (bodyOf Tryd.f19) (stD Tryd.f19.ntmps [(.pair I I), (.pair I I)] d) (kD (E_spec_ValMake) Tryd.f19.results.toList [(.pair I (.pair I (.pair I I)))]) (fun _ _ => none) := by kernel_rfl
theorem g_spec_ValMake : Good Tryd.prog gt 19 (S_spec_ValMake (spec_ValMake)) := good_data (e_spec_ValMake) (ts := [(.pair I I), (.pair I I)]) (rs := [(.pair I (.pair I (.pair I I)))]) (F := fun d => spec_ValMake d.1 d.2.1) Tryd.func19 Tryd.call19 (by kernel_rfl) (codes_ok (l := []) (by kernel_rfl) trivial) (by kernel_rfl) (eq_spec_ValMake)

/-! loop.example/sedge/spec.ValOk -/
def S_spec_ValOk (f : (Int × Int × Int × Int) → Option (Bool × Unit)) : CSem := semD [(.pair I (.pair I (.pair I I)))] [.bool] (fun d => f d.1) id
def spec_ValOk (a : Int × Int × Int × Int) : Option (Bool × Unit) :=
  (spec_l10None).bind fun r1 =>
  joinK (fun (v3 : Bool) =>
   some (v3, ())) fun jx3 =>
  bif ((a.1 == r1.1.1) && ((a.2.1 == r1.1.2.1) && ((a.2.2.1 == r1.1.2.2.1) && (a.2.2.2 == r1.1.2.2.2)))) then
   jx3 true
  else
   (spec_l10Range a).bind fun r2 =>
   (spec_RangeOk r2.1).bind fun r3 =>
   joinK (fun (v : Bool) =>
    joinK (fun (v2 : Bool) =>
     jx3 v2) fun jx2 =>
    bif v then
     (spec_l10Range a).bind fun r6 =>
     (spec_l10Rest a).bind fun r7 =>
     (spec_ValMake r6.1 r7.1).bind fun r8 =>
     jx2 ((a.1 == r8.1.1) && ((a.2.1 == r8.1.2.1) && ((a.2.2.1 == r8.1.2.2.1) && (a.2.2.2 == r8.1.2.2.2))))
    else
     jx2 false) fun jx1 =>
   bif r3.1 then
    (spec_l10Rest a).bind fun r4 =>
    (spec_RestOk r4.1).bind fun r5 =>
    jx1 r5.1
   else
    jx1 false
def E_spec_ValOk : Env := envOf gt tab [(8, S_spec_l10None spec_l10None), (15, S_spec_RangeOk spec_RangeOk), (16, S_spec_l10Range spec_l10Range), (17, S_spec_RestOk spec_RestOk), (18, S_spec_l10Rest spec_l10Rest), (19, S_spec_ValMake spec_ValMake)] [] [(1, 25)]
theorem e_spec_ValOk : EnvOk Tryd.prog (E_spec_ValOk) := env_ok mix tabOk ⟨g_spec_l10None, g_spec_RangeOk, g_spec_l10Range, g_spec_RestOk, g_spec_l10Rest, g_spec_ValMake, trivial⟩ trivial
theorem eq_spec_ValOk (d : DL [(.pair I (.pair I (.pair I I)))]) : spec_ValOk d.1 = runC (E_spec_ValOk) (bodyOf Tryd.f7) (stD Tryd.f7.ntmps [(.pair I (.pair I (.pair I I)))] d) (kD (E_spec_ValOk) Tryd.f7.results.toList [.bool]) (fun _ _ => none) := by kernel_rfl
theorem g_spec_ValOk : Good Tryd.prog gt 7 (S_spec_ValOk (spec_ValOk)) := good_data (e_spec_ValOk) (ts := [(.pair I (.pair I (.pair I I)))]) (rs := [.bool]) (F := fun d => spec_ValOk d.1) Tryd.func7 Tryd.call7 (by kernel_rfl) (codes_ok (l := []) (by kernel_rfl) trivial) (by kernel_rfl) (eq_spec_ValOk)

/-! loop.example/sedge/spec.l10All -/
def S_spec_l10All (f : Option ((Int × Int × Int × Int) × Unit)) : CSem := semD [] [(.pair I (.pair I (.pair I I)))] (fun d => f) id
def spec_l10All : Option ((Int × Int × Int × Int) × Unit) :=
  some (((-2147483648), 2147483647, 1, 0), ())
def E_spec_l10All : Env := envOf gt tab [] [] [(0, 25)]
theorem e_spec_l10All : EnvOk Tryd.prog (E_spec_l10All) := env_ok mix tabOk trivial trivial
theorem eq_spec_l10All (d : DL []) : spec_l10All = runC (E_spec_l10All) (bodyOf Tryd.f9) (stD Tryd.f9.ntmps [] d) (kD (E_spec_l10All) Tryd.f9.results.toList [(.pair I (.pair I (.pair I I)))]) (fun _ _ => none) := by kernel_rfl
theorem g_spec_l10All : Good Tryd.prog gt 9 (S_spec_l10All (spec_l10All)) := good_data (e_spec_l10All) (ts := []) (rs := [(.pair I (.pair I (.pair I I)))]) (F := fun d => spec_l10All) Tryd.func9 Tryd.call9 (by kernel_rfl) (codes_ok (l := []) (by kernel_rfl) trivial) (by kernel_rfl) (eq_spec_l10All)

/-! loop.example/sedge/spec.l1Dec -/
def S_spec_l1Dec (f : Int → Option (Str × Unit)) : CSem := semD [I] [.str] (fun d => f d.1) id
def spec_l1Dec_r2 (r_spec_l1Dec : Int → Option (Str × Unit)) (q : Nat) (n2 : Int) : Option (Str × Unit) :=
  (r_spec_l1Dec (w64 (n2.tdiv (-10)))).bind fun r1 =>
  (app ([45] : Str) r1.1).bind fun s =>
  (app s (List.map (fun n => UInt8.ofNat n.toNat) ([(IntKind.u8.wrap ((w64 (48 - (n2.tmod 10)))))]) : Str)).bind fun s2 =>
  some (s2, ())
def L_spec_l1Dec_r2 : Lay := ⟨41, [], [(.r 0, .d I)], []⟩
def V_spec_l1Dec_r2 : List VL := [.ex .normal [(.r 2, .d .str)]]
def spec_l1Dec_r7 (r_spec_l1Dec : Int → Option (Str × Unit)) (q : Nat) (n2 : Int) : Option (Str × Unit) :=
  (r_spec_l1Dec (w64 (n2.tdiv 10))).bind fun r1 =>
  (app r1.1 (List.map (fun n => UInt8.ofNat n.toNat) ([(IntKind.u8.wrap ((w64 (48 + (n2.tmod 10)))))]) : Str)).bind fun s2 =>
  some (s2, ())
def L_spec_l1Dec_r7 : Lay := ⟨41, [], [(.r 0, .d I)], []⟩
def V_spec_l1Dec_r7 : List VL := [.ex .normal [(.r 2, .d .str)]]
def spec_l1Dec_b (r_spec_l1Dec : Int → Option (Str × Unit)) (k : Nat) (n : Int) : Option (Str × Unit) :=
  bif decide (n < (-9)) then
   (spec_l1Dec_r2 r_spec_l1Dec k n).bind fun o =>
   some (o.1, ())
  else
   bif decide (n < 0) then
    (app ([45] : Str) (List.map (fun n => UInt8.ofNat n.toNat) ([(IntKind.u8.wrap ((w64 (48 - n))))]) : Str)).bind fun s =>
    some (s, ())
   else
    bif decide (n < 10) then
     some ((List.map (fun n => UInt8.ofNat n.toNat) ([(IntKind.u8.wrap ((w64 (48 + n))))]) : Str), ())
    else
     (spec_l1Dec_r7 r_spec_l1Dec k n).bind fun o2 =>
     some (o2.1, ())
def E_spec_l1Dec (r_spec_l1Dec : Int → Option (Str × Unit)) (k : Nat) : Env := envOf gt tab [(10, S_spec_l1Dec r_spec_l1Dec)] [(1000002, loopSem 1000002 L_spec_l1Dec_r2 (fun c v => spec_l1Dec_r2 r_spec_l1Dec k c.1) (dkL V_spec_l1Dec_r2)), (1000007, loopSem 1000007 L_spec_l1Dec_r7 (fun c v => spec_l1Dec_r7 r_spec_l1Dec k c.1) (dkL V_spec_l1Dec_r7))] []
theorem e_spec_l1Dec (r_spec_l1Dec : Int → Option (Str × Unit)) (h_spec_l1Dec : Good Tryd.prog gt 10 (S_spec_l1Dec r_spec_l1Dec)) (k : Nat) : EnvOk Tryd.prog (E_spec_l1Dec r_spec_l1Dec k) := env_ok mix tabOk ⟨h_spec_l1Dec, trivial⟩ ⟨loop_cong _ _ _ _, loop_cong _ _ _ _, trivial⟩
theorem eq_spec_l1Dec_r2_0 (r_spec_l1Dec : Int → Option (Str × Unit)) (k : Nat) (c : PV L_spec_l1Dec_r2.cs) (v : PV L_spec_l1Dec_r2.vs) : spec_l1Dec_r2 r_spec_l1Dec k c.1 = runD (E_spec_l1Dec r_spec_l1Dec k) (regOps Tryd.f10 2).toList (ancs (regOps Tryd.f10 2).toList []) [0, 1, 4, 5, 6, 7, 2, 3, 8, 9, 10, 11] [] (L_spec_l1Dec_r2.st c v) (kR L_spec_l1Dec_r2 V_spec_l1Dec_r2 c) (kLP L_spec_l1Dec_r2 V_spec_l1Dec_r2 c) := by kernel_rfl
theorem eq_spec_l1Dec_r2_1 (r_spec_l1Dec : Int → Option (Str × Unit)) (k : Nat) (c : PV L_spec_l1Dec_r2.cs) (v : PV L_spec_l1Dec_r2.vs) : spec_l1Dec_r2 r_spec_l1Dec k c.1 = runD (E_spec_l1Dec r_spec_l1Dec k) (regOps Tryd.f10 2).toList (ancs (regOps Tryd.f10 2).toList []) [0, 1, 4, 5, 6, 7, 8, 9, 2, 3, 10, 11] [] (L_spec_l1Dec_r2.st c v) (kR L_spec_l1Dec_r2 V_spec_l1Dec_r2 c) (kLP L_spec_l1Dec_r2 V_spec_l1Dec_r2 c) := by kernel_rfl
theorem C_spec_l1Dec_r2 (r_spec_l1Dec : Int → Option (Str × Unit)) (h_spec_l1Dec : Good Tryd.prog gt 10 (S_spec_l1Dec r_spec_l1Dec)) (k : Nat) : CodeOk Tryd.prog gt (regC Tryd.f10 2) (loopSem 1000002 L_spec_l1Dec_r2 (fun c v => spec_l1Dec_r2 r_spec_l1Dec k c.1) (dkL V_spec_l1Dec_r2)) := regV_ok (e_spec_l1Dec r_spec_l1Dec h_spec_l1Dec k) (id := 2) (f := Tryd.f10) (L := L_spec_l1Dec_r2) (vs := V_spec_l1Dec_r2) (F := fun c v => spec_l1Dec_r2 r_spec_l1Dec k c.1) (ls := [[0, 1, 4, 5, 6, 7, 2, 3, 8, 9, 10, 11], [0, 1, 4, 5, 6, 7, 8, 9, 2, 3, 10, 11]]) (by kernel_rfl) (by kernel_rfl) (each_mem ⟨⟨by kernel_rfl, eq_spec_l1Dec_r2_0 r_spec_l1Dec k⟩, ⟨by kernel_rfl, eq_spec_l1Dec_r2_1 r_spec_l1Dec k⟩, trivial⟩)
theorem eq_spec_l1Dec_r7_0 (r_spec_l1Dec : Int → Option (Str × Unit)) (k : Nat) (c : PV L_spec_l1Dec_r7.cs) (v : PV L_spec_l1Dec_r7.vs) : spec_l1Dec_r7 r_spec_l1Dec k c.1 = runD (E_spec_l1Dec r_spec_l1Dec k) (regOps Tryd.f10 7).toList (ancs (regOps Tryd.f10 7).toList []) [0, 1, 3, 4, 5, 6, 2, 7, 8, 9, 10] [] (L_spec_l1Dec_r7.st c v) (kR L_spec_l1Dec_r7 V_spec_l1Dec_r7 c) (kLP L_spec_l1Dec_r7 V_spec_l1Dec_r7 c) := by kernel_rfl
theorem eq_spec_l1Dec_r7_1 (r_spec_l1Dec : Int → Option (Str × Unit)) (k : Nat) (c : PV L_spec_l1Dec_r7.cs) (v : PV L_spec_l1Dec_r7.vs) : spec_l1Dec_r7 r_spec_l1Dec k c.1 = runD (E_spec_l1Dec r_spec_l1Dec k) (regOps Tryd.f10 7).toList (ancs (regOps Tryd.f10 7).toList []) [0, 1, 3, 4, 5, 6, 7, 8, 2, 9, 10] [] (L_spec_l1Dec_r7.st c v) (kR L_spec_l1Dec_r7 V_spec_l1Dec_r7 c) (kLP L_spec_l1Dec_r7 V_spec_l1Dec_r7 c) := by kernel_rfl
theorem C_spec_l1Dec_r7 (r_spec_l1Dec : Int → Option (Str × Unit)) (h_spec_l1Dec : Good Tryd.prog gt 10 (S_spec_l1Dec r_spec_l1Dec)) (k : Nat) : CodeOk Tryd.prog gt (regC Tryd.f10 7) (loopSem 1000007 L_spec_l1Dec_r7 (fun c v => spec_l1Dec_r7 r_spec_l1Dec k c.1) (dkL V_spec_l1Dec_r7)) := regV_ok (e_spec_l1Dec r_spec_l1Dec h_spec_l1Dec k) (id := 7) (f := Tryd.f10) (L := L_spec_l1Dec_r7) (vs := V_spec_l1Dec_r7) (F := fun c v => spec_l1Dec_r7 r_spec_l1Dec k c.1) (ls := [[0, 1, 3, 4, 5, 6, 2, 7, 8, 9, 10], [0, 1, 3, 4, 5, 6, 7, 8, 2, 9, 10]]) (by kernel_rfl) (by kernel_rfl) (each_mem ⟨⟨by kernel_rfl, eq_spec_l1Dec_r7_0 r_spec_l1Dec k⟩, ⟨by kernel_rfl, eq_spec_l1Dec_r7_1 r_spec_l1Dec k⟩, trivial⟩)
theorem eq_spec_l1Dec (r_spec_l1Dec : Int → Option (Str × Unit)) (k : Nat) (d : DL [I]) : spec_l1Dec_b r_spec_l1Dec k d.1 = runC (E_spec_l1Dec r_spec_l1Dec k) (bodyOf Tryd.f10) (stD Tryd.f10.ntmps [I] d) (kD (E_spec_l1Dec r_spec_l1Dec k) Tryd.f10.results.toList [.str]) (fun _ _ => none) := by kernel_rfl
theorem g_spec_l1Dec (r_spec_l1Dec : Int → Option (Str × Unit)) (h_spec_l1Dec : Good Tryd.prog gt 10 (S_spec_l1Dec r_spec_l1Dec)) (k : Nat) : Good Tryd.prog gt 10 (S_spec_l1Dec (spec_l1Dec_b r_spec_l1Dec k)) := good_data (e_spec_l1Dec r_spec_l1Dec h_spec_l1Dec k) (ts := [I]) (rs := [.str]) (F := fun d => spec_l1Dec_b r_spec_l1Dec k d.1) Tryd.func10 Tryd.call10 (by kernel_rfl) (codes_ok (l := [(regC Tryd.f10 2, loopSem 1000002 L_spec_l1Dec_r2 (fun c v => spec_l1Dec_r2 r_spec_l1Dec k c.1) (dkL V_spec_l1Dec_r2)), (regC Tryd.f10 7, loopSem 1000007 L_spec_l1Dec_r7 (fun c v => spec_l1Dec_r7 r_spec_l1Dec k c.1) (dkL V_spec_l1Dec_r7))]) (by kernel_rfl) ⟨C_spec_l1Dec_r2 r_spec_l1Dec h_spec_l1Dec k, C_spec_l1Dec_r7 r_spec_l1Dec h_spec_l1Dec k, trivial⟩) (by kernel_rfl) (eq_spec_l1Dec r_spec_l1Dec k)
def spec_l1Dec : Nat → Int → Option (Str × Unit)
  | 0 => fun _ => none
  | k + 1 => spec_l1Dec_b (spec_l1Dec k) k
theorem gg_spec_l1Dec : ∀ k, Good Tryd.prog gt 10 (S_spec_l1Dec (spec_l1Dec k))
  | 0 => good_noneD (F := fun _ => none) (fun _ => rfl)
  | k + 1 => g_spec_l1Dec _ (gg_spec_l1Dec k) k

/-! loop.example/sedge/spec.ReportVal -/
def S_spec_ReportVal (f : (Int × Int × Int × Int) → Option (Str × Unit)) : CSem := semD [(.pair I (.pair I (.pair I I)))] [.str] (fun d => f d.1) id
def spec_ReportVal (k : Nat) (v : Int × Int × Int × Int) : Option (Str × Unit) :=
  (spec_ValOk v).bind fun r1 =>
  bif !r1.1 then
   some (([] : Str), ())
  else
   (spec_l10None).bind fun r2 =>
   bif ((v.1 == r2.1.1) && ((v.2.1 == r2.1.2.1) && ((v.2.2.1 == r2.1.2.2.1) && (v.2.2.2 == r2.1.2.2.2)))) then
    some (([110, 111, 110, 101] : Str), ())
   else
    (spec_l10All).bind fun r3 =>
    bif ((v.1 == r3.1.1) && ((v.2.1 == r3.1.2.1) && ((v.2.2.1 == r3.1.2.2.1) && (v.2.2.2 == r3.1.2.2.2)))) then
     some (([97, 110, 121] : Str), ())
    else
     bif v.2.2.1 == 0 then
      (spec_l1Dec k v.1).bind fun r4 =>
      some (r4.1, ())
     else
      (spec_l1Dec k v.1).bind fun r5 =>
      (app r5.1 ([32, 116, 111, 32] : Str)).bind fun s =>
      (spec_l1Dec k v.2.1).bind fun r6 =>
      (app s r6.1).bind fun s2 =>
      joinK (fun (out : Str) =>
       some (out, ())) fun jx1 =>
      bif decide (v.2.2.1 > 1) then
       (app s2 ([32, 98, 121, 32] : Str)).bind fun s3 =>
       (spec_l1Dec k v.2.2.1).bind fun r7 =>
       (app s3 r7.1).bind fun s4 =>
       jx1 s4
      else
       jx1 s2
def E_spec_ReportVal (k : Nat) : Env := envOf gt tab [(7, S_spec_ValOk spec_ValOk), (8, S_spec_l10None spec_l10None), (9, S_spec_l10All spec_l10All), (10, S_spec_l1Dec (spec_l1Dec k))] [] [(1, 25)]
theorem e_spec_ReportVal (k : Nat) : EnvOk Tryd.prog (E_spec_ReportVal k) := env_ok mix tabOk ⟨g_spec_ValOk, g_spec_l10None, g_spec_l10All, gg_spec_l1Dec k, trivial⟩ trivial
theorem eq_spec_ReportVal (k : Nat) (d : DL [(.pair I (.pair I (.pair I I)))]) : spec_ReportVal k d.1 = runC (E_spec_ReportVal k) (bodyOf Tryd.f4) (stD Tryd.f4.ntmps [(.pair I (.pair I (.pair I I)))] d) (kD (E_spec_ReportVal k) Tryd.f4.results.toList [.str]) (fun _ _ => none) := by kernel_rfl
theorem g_spec_ReportVal (k : Nat) : Good Tryd.prog gt 4 (S_spec_ReportVal (spec_ReportVal k)) := good_data (e_spec_ReportVal k) (ts := [(.pair I (.pair I (.pair I I)))]) (rs := [.str]) (F := fun d => spec_ReportVal k d.1) Tryd.func4 Tryd.call4 (by kernel_rfl) (codes_ok (l := []) (by kernel_rfl) trivial) (by kernel_rfl) (eq_spec_ReportVal k)

/-! loop.example/sedge/laws.toVal -/
def S_laws_toVal (f : (Int × Int × Int × Int) → Option ((Int × Int × Int × Int) × Unit)) : CSem := semD [(.pair I (.pair I (.pair I I)))] [(.pair I (.pair I (.pair I I)))] (fun d => f d.1) id
def laws_toVal (a : Int × Int × Int × Int) : Option ((Int × Int × Int × Int) × Unit) :=
  some (a, ())
def E_laws_toVal : Env := envOf gt tab [] [] [(1, 23), (2, 25)]
theorem e_laws_toVal : EnvOk Tryd.prog (E_laws_toVal) := env_ok mix tabOk trivial trivial
theorem eq_laws_toVal (d : DL [(.pair I (.pair I (.pair I I)))]) : laws_toVal d.1 = runC (E_laws_toVal) (bodyOf Tryd.f5) (stD Tryd.f5.ntmps [(.pair I (.pair I (.pair I I)))] d) (kD (E_laws_toVal) Tryd.f5.results.toList [(.pair I (.pair I (.pair I I)))]) (fun _ _ => none) := by kernel_rfl
theorem g_laws_toVal : Good Tryd.prog gt 5 (S_laws_toVal (laws_toVal)) := good_data (e_laws_toVal) (ts := [(.pair I (.pair I (.pair I I)))]) (rs := [(.pair I (.pair I (.pair I I)))]) (F := fun d => laws_toVal d.1) Tryd.func5 Tryd.call5 (by kernel_rfl) (codes_ok (l := []) (by kernel_rfl) trivial) (by kernel_rfl) (eq_laws_toVal)

/-! loop.example/sedge/impl.valNone -/
def S_impl_valNone (f : Option ((Int × Int × Int × Int) × Unit)) : CSem := semD [] [(.pair I (.pair I (.pair I I)))] (fun d => f) id
def impl_valNone : Option ((Int × Int × Int × Int) × Unit) :=
  some ((1, 0, 0, 0), ())
def E_impl_valNone : Env := envOf gt tab [] [] [(0, 25)]
theorem e_impl_valNone : EnvOk Tryd.prog (E_impl_valNone) := env_ok mix tabOk trivial trivial
theorem eq_impl_valNone (d : DL []) : impl_valNone = runC (E_impl_valNone) (bodyOf Tryd.f23) (stD Tryd.f23.ntmps [] d) (kD (E_impl_valNone) Tryd.f23.results.toList [(.pair I (.pair I (.pair I I)))]) (fun _ _ => none) := by kernel_rfl
theorem g_impl_valNone : Good Tryd.prog gt 23 (S_impl_valNone (impl_valNone)) := good_data (e_impl_valNone) (ts := []) (rs := [(.pair I (.pair I (.pair I I)))]) (F := fun d => impl_valNone) Tryd.func23 Tryd.call23 (by kernel_rfl) (codes_ok (l := []) (by kernel_rfl) trivial) (by kernel_rfl) (eq_impl_valNone)

/-! loop.example/sedge/impl.rangeNone -/
def S_impl_rangeNone (f : Option ((Int × Int) × Unit)) : CSem := semD [] [(.pair I I)] (fun d => f) id
def impl_rangeNone : Option ((Int × Int) × Unit) :=
  some ((1, 0), ())
def E_impl_rangeNone : Env := envOf gt tab [] [] [(0, 34)]
theorem e_impl_rangeNone : EnvOk Tryd.prog (E_impl_rangeNone) := env_ok mix tabOk trivial trivial
theorem eq_impl_rangeNone (d : DL []) : impl_rangeNone = runC (E_impl_rangeNone) (bodyOf Tryd.f38) (stD Tryd.f38.ntmps [] d) (kD (E_impl_rangeNone) Tryd.f38.results.toList [(.pair I I)]) (fun _ _ => none) := by kernel_rfl
theorem g_impl_rangeNone : Good Tryd.prog gt 38 (S_impl_rangeNone (impl_rangeNone)) := good_data (e_impl_rangeNone) (ts := []) (rs := [(.pair I I)]) (F := fun d => impl_rangeNone) Tryd.func38 Tryd.call38 (by kernel_rfl) (codes_ok (l := []) (by kernel_rfl) trivial) (by kernel_rfl) (eq_impl_rangeNone)

/-! loop.example/sedge/impl.NumOk -/
def S_impl_NumOk (f : Int → Option (Bool × Unit)) : CSem := semD [I] [.bool] (fun d => f d.1) id
def impl_NumOk (v : Int) : Option (Bool × Unit) :=
  joinK (fun (v2 : Bool) =>
   some (v2, ())) fun jx1 =>
  bif decide (v ≥ (-2147483648)) then
   jx1 (decide (v ≤ 2147483647))
  else
   jx1 false
def E_impl_NumOk : Env := envOf gt tab [] [] []
theorem e_impl_NumOk : EnvOk Tryd.prog (E_impl_NumOk) := env_ok mix tabOk trivial trivial
theorem eq_impl_NumOk (d : DL [I]) : impl_NumOk d.1 = runC (E_impl_NumOk) (bodyOf Tryd.f39) (stD Tryd.f39.ntmps [I] d) (kD (E_impl_NumOk) Tryd.f39.results.toList [.bool]) (fun _ _ => none) := by kernel_rfl
theorem g_impl_NumOk : Good Tryd.prog gt 39 (S_impl_NumOk (impl_NumOk)) := good_data (e_impl_NumOk) (ts := [I]) (rs := [.bool]) (F := fun d => impl_NumOk d.1) Tryd.func39 Tryd.call39 (by kernel_rfl) (codes_ok (l := []) (by kernel_rfl) trivial) (by kernel_rfl) (eq_impl_NumOk)

/-! loop.example/sedge/impl.RangeOk -/
def S_impl_RangeOk (f : (Int × Int) → Option (Bool × Unit)) : CSem := semD [(.pair I I)] [.bool] (fun d => f d.1) id
def impl_RangeOk (a : Int × Int) : Option (Bool × Unit) :=
  (impl_rangeNone).bind fun r1 =>
  joinK (fun (v3 : Bool) =>
   some (v3, ())) fun jx3 =>
  bif ((a.1 == r1.1.1) && (a.2 == r1.1.2)) then
   jx3 true
  else
   (impl_NumOk a.1).bind fun r2 =>
   joinK (fun (v : Bool) =>
    joinK (fun (v2 : Bool) =>
     jx3 v2) fun jx2 =>
    bif v then
     jx2 (decide (a.1 ≤ a.2))
    else
     jx2 false) fun jx1 =>
   bif r2.1 then
    (impl_NumOk a.2).bind fun r3 =>
    jx1 r3.1
   else
    jx1 false
def E_impl_RangeOk : Env := envOf gt tab [(38, S_impl_rangeNone impl_rangeNone), (39, S_impl_NumOk impl_NumOk)] [] [(1, 34)]
theorem e_impl_RangeOk : EnvOk Tryd.prog (E_impl_RangeOk) := env_ok mix tabOk ⟨g_impl_rangeNone, g_impl_NumOk, trivial⟩ trivial
theorem eq_impl_RangeOk (d : DL [(.pair I I)]) : impl_RangeOk d.1 = runC (E_impl_RangeOk) (bodyOf Tryd.f31) (stD Tryd.f31.ntmps [(.pair I I)] d) (kD (E_impl_RangeOk) Tryd.f31.results.toList [.bool]) (fun _ _ => none) := by kernel_rfl
theorem g_impl_RangeOk : Good Tryd.prog gt 31 (S_impl_RangeOk (impl_RangeOk)) := good_data (e_impl_RangeOk) (ts := [(.pair I I)]) (rs := [.bool]) (F := fun d => impl_RangeOk d.1) Tryd.func31 Tryd.call31 (by kernel_rfl) (codes_ok (l := []) (by kernel_rfl) trivial) (by kernel_rfl) (eq_impl_RangeOk)

/-! loop.example/sedge/impl.RestOk -/
def S_impl_RestOk (f : (Int × Int) → Option (Bool × Unit)) : CSem := semD [(.pair I I)] [.bool] (fun d => f d.1) id
def impl_RestOk (a : Int × Int) : Option (Bool × Unit) :=
  bif a.1 == 0 then
   (impl_NumOk a.2).bind fun r1 =>
   some (r1.1, ())
  else
   joinK (fun (v : Bool) =>
    joinK (fun (v2 : Bool) =>
     joinK (fun (v3 : Bool) =>
      some (v3, ())) fun jx3 =>
     bif v2 then
      jx3 (decide (a.2 < a.1))
     else
      jx3 false) fun jx2 =>
    bif v then
     jx2 (decide (a.2 ≥ 0))
    else
     jx2 false) fun jx1 =>
   bif decide (a.1 ≥ 1) then
    jx1 (decide (a.1 ≤ 65536))
   else
    jx1 false
def E_impl_RestOk : Env := envOf gt tab [(39, S_impl_NumOk impl_NumOk)] [] [(1, 38)]
theorem e_impl_RestOk : EnvOk Tryd.prog (E_impl_RestOk) := env_ok mix tabOk ⟨g_impl_NumOk, trivial⟩ trivial
theorem eq_impl_RestOk (d : DL [(.pair I I)]) : impl_RestOk d.1 = runC (E_impl_RestOk) (bodyOf Tryd.f32) (stD Tryd.f32.ntmps [(.pair I I)] d) (kD (E_impl_RestOk) Tryd.f32.results.toList [.bool]) (fun _ _ => none) := by kernel_rfl
theorem g_impl_RestOk : Good Tryd.prog gt 32 (S_impl_RestOk (impl_RestOk)) := good_data (e_impl_RestOk) (ts := [(.pair I I)]) (rs := [.bool]) (F := fun d => impl_RestOk d.1) Tryd.func32 Tryd.call32 (by kernel_rfl) (codes_ok (l := []) (by kernel_rfl) trivial) (by kernel_rfl) (eq_impl_RestOk)

/-! (loop.example/sedge/impl.Range).empty -/
def S_impl_Range_empty (f : (Int × Int) → Option (Bool × Unit)) : CSem := semD [(.pair I I)] [.bool] (fun d => f d.1) id
def impl_Range_empty (a : Int × Int) : Option (Bool × Unit) :=
  some (decide (a.1 > a.2), ())
def E_impl_Range_empty : Env := envOf gt tab [] [] [(1, 34)]
theorem e_impl_Range_empty : EnvOk Tryd.prog (E_impl_Range_empty) := env_ok mix tabOk trivial trivial
theorem eq_impl_Range_empty (d : DL [(.pair I I)]) : impl_Range_empty d.1 = runC (E_impl_Range_empty) (bodyOf Tryd.f33) (stD Tryd.f33.ntmps [(.pair I I)] d) (kD (E_impl_Range_empty) Tryd.f33.results.toList [.bool]) (fun _ _ => none) := by kernel_rfl
theorem g_impl_Range_empty : Good Tryd.prog gt 33 (S_impl_Range_empty (impl_Range_empty)) := good_data (e_impl_Range_empty) (ts := [(.pair I I)]) (rs := [.bool]) (F := fun d => impl_Range_empty d.1) Tryd.func33 Tryd.call33 (by kernel_rfl) (codes_ok (l := []) (by kernel_rfl) trivial) (by kernel_rfl) (eq_impl_Range_empty)

/-! loop.example/sedge/impl.RangeHas -/
def S_impl_RangeHas (f : (Int × Int) → Int → Option (Bool × Unit)) : CSem := semD [(.pair I I), I] [.bool] (fun d => f d.1 d.2.1) id
def impl_RangeHas (a : Int × Int) (v : Int) : Option (Bool × Unit) :=
  (impl_RangeOk a).bind fun r1 =>
  joinK (fun (v2 : Bool) =>
   joinK (fun (v3 : Bool) =>
    some (v3, ())) fun jx2 =>
   bif v2 then
    jx2 (decide (v ≤ a.2))
   else
    jx2 false) fun jx1 =>
  bif r1.1 then
   jx1 (decide (a.1 ≤ v))
  else
   jx1 false
def E_impl_RangeHas : Env := envOf gt tab [(31, S_impl_RangeOk impl_RangeOk)] [] [(2, 34)]
theorem e_impl_RangeHas : EnvOk Tryd.prog (E_impl_RangeHas) := env_ok mix tabOk ⟨g_impl_RangeOk, trivial⟩ trivial
theorem eq_impl_RangeHas (d : DL [(.pair I I), I]) : impl_RangeHas d.1 d.2.1 = runC (E_impl_RangeHas) (bodyOf Tryd.f34) (stD Tryd.f34.ntmps [(.pair I I), I] d) (kD (E_impl_RangeHas) Tryd.f34.results.toList [.bool]) (fun _ _ => none) := by kernel_rfl
theorem g_impl_RangeHas : Good Tryd.prog gt 34 (S_impl_RangeHas (impl_RangeHas)) := good_data (e_impl_RangeHas) (ts := [(.pair I I), I]) (rs := [.bool]) (F := fun d => impl_RangeHas d.1 d.2.1) Tryd.func34 Tryd.call34 (by kernel_rfl) (codes_ok (l := []) (by kernel_rfl) trivial) (by kernel_rfl) (eq_impl_RangeHas)

/-! loop.example/sedge/impl.valOne -/
def S_impl_valOne (f : Int → Option ((Int × Int × Int × Int) × Unit)) : CSem := semD [I] [(.pair I (.pair I (.pair I I)))] (fun d => f d.1) id
def impl_valOne (v : Int) : Option ((Int × Int × Int × Int) × Unit) :=
  some ((v, v, 0, v), ())
def E_impl_valOne : Env := envOf gt tab [] [] [(2, 25)]
theorem e_impl_valOne : EnvOk Tryd.prog (E_impl_valOne) := env_ok mix tabOk trivial trivial
theorem eq_impl_valOne (d : DL [I]) : impl_valOne d.1 = runC (E_impl_valOne) (bodyOf Tryd.f35) (stD Tryd.f35.ntmps [I] d) (kD (E_impl_valOne) Tryd.f35.results.toList [(.pair I (.pair I (.pair I I)))]) (fun _ _ => none) := by kernel_rfl
theorem g_impl_valOne : Good Tryd.prog gt 35 (S_impl_valOne (impl_valOne)) := good_data (e_impl_valOne) (ts := [I]) (rs := [(.pair I (.pair I (.pair I I)))]) (F := fun d => impl_valOne d.1) Tryd.func35 Tryd.call35 (by kernel_rfl) (codes_ok (l := []) (by kernel_rfl) trivial) (by kernel_rfl) (eq_impl_valOne)

/-! loop.example/sedge/impl.restMod -/
def S_impl_restMod (f : Int → Int → Option (Int × Unit)) : CSem := semD [I, I] [I] (fun d => f d.1 d.2.1) id
def impl_restMod (n : Int) (m : Int) : Option (Int × Unit) :=
  bif decide (m = 0) then
   none
  else
   joinK (fun (n2 : Int) =>
    some (n2, ())) fun jx1 =>
   bif decide ((n.tmod m) < 0) then
    jx1 (w64 ((n.tmod m) + m))
   else
    jx1 (n.tmod m)
def E_impl_restMod : Env := envOf gt tab [] [] []
theorem e_impl_restMod : EnvOk Tryd.prog (E_impl_restMod) := env_ok mix tabOk trivial trivial
theorem eq_impl_restMod (d : DL [I, I]) : impl_restMod d.1 d.2.1 = runC (E_impl_restMod) (bodyOf Tryd.f36) (stD Tryd.f36.ntmps [I, I] d) (kD (E_impl_restMod) Tryd.f36.results.toList [I]) (fun _ _ => none) := by kernel_rfl
theorem g_impl_restMod : Good Tryd.prog gt 36 (S_impl_restMod (impl_restMod)) := good_data (e_impl_restMod) (ts := [I, I]) (rs := [I]) (F := fun d => impl_restMod d.1 d.2.1) Tryd.func36 Tryd.call36 (by kernel_rfl) (codes_ok (l := []) (by kernel_rfl) trivial) (by kernel_rfl) (eq_impl_restMod)

/-! loop.example/sedge/impl.ValMake -/
def S_impl_ValMake (f : (Int × Int) → (Int × Int) → Option ((Int × Int × Int × Int) × Unit)) : CSem := semD [(.pair I I), (.pair I I)] [(.pair I (.pair I (.pair I I)))] (fun d => f d.1 d.2.1) id
def impl_ValMake (a : Int × Int) (b : Int × Int) : Option ((Int × Int × Int × Int) × Unit) :=
  (impl_RangeOk a).bind fun r1 =>
  joinK (fun (v : Bool) =>
   joinK (fun (v2 : Bool) =>
    bif v2 then
     (impl_valNone).bind fun r4 =>
     some (r4.1, ())
    else
     bif b.1 == 0 then
      (impl_RangeHas a b.2).bind fun r5 =>
      bif !r5.1 then
       (impl_valNone).bind fun r6 =>
       some (r6.1, ())
      else
       (impl_valOne b.2).bind fun r7 =>
       some (r7.1, ())
     else
      (impl_restMod (w64 (b.2 - a.1)) b.1).bind fun r8 =>
      (impl_restMod (w64 (a.2 - b.2)) b.1).bind fun r9 =>
      bif decide ((w64 (a.1 + r8.1)) > (w64 (a.2 - r9.1))) then
       (impl_valNone).bind fun r10 =>
       some (r10.1, ())
      else
       bif (w64 (a.1 + r8.1)) == (w64 (a.2 - r9.1)) then
        (impl_valOne (w64 (a.1 + r8.1))).bind fun r11 =>
        some (r11.1, ())
       else
        some (((w64 (a.1 + r8.1)), (w64 (a.2 - r9.1)), b), ())) fun jx2 =>
   bif v then
    jx2 true
   else
    (impl_Range_empty a).bind fun r3 =>
    jx2 r3.1) fun jx1 =>
  bif !r1.1 then
   jx1 true
  else
   (impl_RestOk b).bind fun r2 =>
   jx1 (!r2.1)
def E_impl_ValMake : Env := envOf gt tab [(23, S_impl_valNone impl_valNone), (31, S_impl_RangeOk impl_RangeOk), (32, S_impl_RestOk impl_RestOk), (33, S_impl_Range_empty impl_Range_empty), (34, S_impl_RangeHas impl_RangeHas), (35, S_impl_valOne impl_valOne), (36, S_impl_restMod impl_restMod)] [] [(2, 34), (3, 38), (4, 25)]
theorem e_impl_ValMake : EnvOk Tryd.prog (E_impl_ValMake) := env_ok mix tabOk ⟨g_impl_valNone, g_impl_RangeOk, g_impl_RestOk, g_impl_Range_empty, g_impl_RangeHas, g_impl_valOne, g_impl_restMod, trivial⟩ trivial
theorem eq_impl_ValMake (d : DL [(.pair I I), (.pair I I)]) : impl_ValMake d.1 d.2.1 = runC (E_impl_ValMake) (bodyOf Tryd.f20) (stD Tryd.f20.ntmps [(.pair I I), (.pair I I)] d) (kD (E_impl_ValMake) Tryd.f20.results.toList [(.pair I (.pair I (.pair I I)))]) (fun _ _ => none) := by kernel_rfl
theorem g_impl_ValMake : Good Tryd.prog gt 20 (S_impl_ValMake (impl_ValMake)) := good_data (e_impl_ValMake) (ts := [(.pair I I), (.pair I I)]) (rs := [(.pair I (.pair I (.pair I I)))]) (F := fun d => impl_ValMake d.1 d.2.1) Tryd.func20 Tryd.call20 (by kernel_rfl) (codes_ok (l := []) (by kernel_rfl) trivial) (by kernel_rfl) (eq_impl_ValMake)

/-! (loop.example/sedge/impl.Val).span -/
def S_impl_Val_span (f : (Int × Int × Int × Int) → Option ((Int × Int) × Unit)) : CSem := semD [(.pair I (.pair I (.pair I I)))] [(.pair I I)] (fun d => f d.1) id
def impl_Val_span (a : Int × Int × Int × Int) : Option ((Int × Int) × Unit) :=
  some ((a.1, a.2.1), ())
def E_impl_Val_span : Env := envOf gt tab [] [] [(1, 25), (2, 34)]
theorem e_impl_Val_span : EnvOk Tryd.prog (E_impl_Val_span) := env_ok mix tabOk trivial trivial
theorem eq_impl_Val_span (d : DL [(.pair I (.pair I (.pair I I)))]) : impl_Val_span d.1 = runC (E_impl_Val_span) (bodyOf Tryd.f21) (stD Tryd.f21.ntmps [(.pair I (.pair I (.pair I I)))] d) (kD (E_impl_Val_span) Tryd.f21.results.toList [(.pair I I)]) (fun _ _ => none) := by kernel_rfl
theorem g_impl_Val_span : Good Tryd.prog gt 21 (S_impl_Val_span (impl_Val_span)) := good_data (e_impl_Val_span) (ts := [(.pair I (.pair I (.pair I I)))]) (rs := [(.pair I I)]) (F := fun d => impl_Val_span d.1) Tryd.func21 Tryd.call21 (by kernel_rfl) (codes_ok (l := []) (by kernel_rfl) trivial) (by kernel_rfl) (eq_impl_Val_span)

/-! (loop.example/sedge/impl.Val).rest -/
def S_impl_Val_rest (f : (Int × Int × Int × Int) → Option ((Int × Int) × Unit)) : CSem := semD [(.pair I (.pair I (.pair I I)))] [(.pair I I)] (fun d => f d.1) id
def impl_Val_rest (a : Int × Int × Int × Int) : Option ((Int × Int) × Unit) :=
  some (a.2.2, ())
def E_impl_Val_rest : Env := envOf gt tab [] [] [(1, 25), (2, 38)]
theorem e_impl_Val_rest : EnvOk Tryd.prog (E_impl_Val_rest) := env_ok mix tabOk trivial trivial
theorem eq_impl_Val_rest (d : DL [(.pair I (.pair I (.pair I I)))]) : impl_Val_rest d.1 = runC (E_impl_Val_rest) (bodyOf Tryd.f22) (stD Tryd.f22.ntmps [(.pair I (.pair I (.pair I I)))] d) (kD (E_impl_Val_rest) Tryd.f22.results.toList [(.pair I I)]) (fun _ _ => none) := by kernel_rfl
theorem g_impl_Val_rest : Good Tryd.prog gt 22 (S_impl_Val_rest (impl_Val_rest)) := good_data (e_impl_Val_rest) (ts := [(.pair I (.pair I (.pair I I)))]) (rs := [(.pair I I)]) (F := fun d => impl_Val_rest d.1) Tryd.func22 Tryd.call22 (by kernel_rfl) (codes_ok (l := []) (by kernel_rfl) trivial) (by kernel_rfl) (eq_impl_Val_rest)

/-! loop.example/sedge/impl.ValOk -/
def S_impl_ValOk (f : (Int × Int × Int × Int) → Option (Bool × Unit)) : CSem := semD [(.pair I (.pair I (.pair I I)))] [.bool] (fun d => f d.1) id
def impl_ValOk (a : Int × Int × Int × Int) : Option (Bool × Unit) :=
  (impl_Val_span a).bind fun r1 =>
  (impl_Val_rest a).bind fun r2 =>
  (impl_ValMake r1.1 r2.1).bind fun r3 =>
  some (((a.1 == r3.1.1) && ((a.2.1 == r3.1.2.1) && ((a.2.2.1 == r3.1.2.2.1) && (a.2.2.2 == r3.1.2.2.2)))), ())
def E_impl_ValOk : Env := envOf gt tab [(20, S_impl_ValMake impl_ValMake), (21, S_impl_Val_span impl_Val_span), (22, S_impl_Val_rest impl_Val_rest)] [] [(1, 25)]
theorem e_impl_ValOk : EnvOk Tryd.prog (E_impl_ValOk) := env_ok mix tabOk ⟨g_impl_ValMake, g_impl_Val_span, g_impl_Val_rest, trivial⟩ trivial
theorem eq_impl_ValOk (d : DL [(.pair I (.pair I (.pair I I)))]) : impl_ValOk d.1 = runC (E_impl_ValOk) (bodyOf Tryd.f11) (stD Tryd.f11.ntmps [(.pair I (.pair I (.pair I I)))] d) (kD (E_impl_ValOk) Tryd.f11.results.toList [.bool]) (fun _ _ => none) := by kernel_rfl
theorem g_impl_ValOk : Good Tryd.prog gt 11 (S_impl_ValOk (impl_ValOk)) := good_data (e_impl_ValOk) (ts := [(.pair I (.pair I (.pair I I)))]) (rs := [.bool]) (F := fun d => impl_ValOk d.1) Tryd.func11 Tryd.call11 (by kernel_rfl) (codes_ok (l := []) (by kernel_rfl) trivial) (by kernel_rfl) (eq_impl_ValOk)

/-! (loop.example/sedge/impl.Val).none -/
def S_impl_Val_none (f : (Int × Int × Int × Int) → Option (Bool × Unit)) : CSem := semD [(.pair I (.pair I (.pair I I)))] [.bool] (fun d => f d.1) id
def impl_Val_none (a : Int × Int × Int × Int) : Option (Bool × Unit) :=
  (impl_valNone).bind fun r1 =>
  some (((a.1 == r1.1.1) && ((a.2.1 == r1.1.2.1) && ((a.2.2.1 == r1.1.2.2.1) && (a.2.2.2 == r1.1.2.2.2)))), ())
def E_impl_Val_none : Env := envOf gt tab [(23, S_impl_valNone impl_valNone)] [] [(1, 25)]
theorem e_impl_Val_none : EnvOk Tryd.prog (E_impl_Val_none) := env_ok mix tabOk ⟨g_impl_valNone, trivial⟩ trivial
theorem eq_impl_Val_none (d : DL [(.pair I (.pair I (.pair I I)))]) : impl_Val_none d.1 = runC (E_impl_Val_none) (bodyOf Tryd.f12) (stD Tryd.f12.ntmps [(.pair I (.pair I (.pair I I)))] d) (kD (E_impl_Val_none) Tryd.f12.results.toList [.bool]) (fun _ _ => none) := by kernel_rfl
theorem g_impl_Val_none : Good Tryd.prog gt 12 (S_impl_Val_none (impl_Val_none)) := good_data (e_impl_Val_none) (ts := [(.pair I (.pair I (.pair I I)))]) (rs := [.bool]) (F := fun d => impl_Val_none d.1) Tryd.func12 Tryd.call12 (by kernel_rfl) (codes_ok (l := []) (by kernel_rfl) trivial) (by kernel_rfl) (eq_impl_Val_none)

/-! loop.example/sedge/impl.valAll -/
def S_impl_valAll (f : Option ((Int × Int × Int × Int) × Unit)) : CSem := semD [] [(.pair I (.pair I (.pair I I)))] (fun d => f) id
def impl_valAll : Option ((Int × Int × Int × Int) × Unit) :=
  some (((-2147483648), 2147483647, 1, 0), ())
def E_impl_valAll : Env := envOf gt tab [] [] [(0, 25)]
theorem e_impl_valAll : EnvOk Tryd.prog (E_impl_valAll) := env_ok mix tabOk trivial trivial
theorem eq_impl_valAll (d : DL []) : impl_valAll = runC (E_impl_valAll) (bodyOf Tryd.f13) (stD Tryd.f13.ntmps [] d) (kD (E_impl_valAll) Tryd.f13.results.toList [(.pair I (.pair I (.pair I I)))]) (fun _ _ => none) := by kernel_rfl
theorem g_impl_valAll : Good Tryd.prog gt 13 (S_impl_valAll (impl_valAll)) := good_data (e_impl_valAll) (ts := []) (rs := [(.pair I (.pair I (.pair I I)))]) (F := fun d => impl_valAll) Tryd.func13 Tryd.call13 (by kernel_rfl) (codes_ok (l := []) (by kernel_rfl) trivial) (by kernel_rfl) (eq_impl_valAll)

/-! loop.example/sedge/impl.ReportVal -/
def S_impl_ReportVal (f : (Int × Int × Int × Int) → Option (Str × Unit)) : CSem := semD [(.pair I (.pair I (.pair I I)))] [.str] (fun d => f d.1) id
def impl_ReportVal (v : Int × Int × Int × Int) : Option (Str × Unit) :=
  (impl_ValOk v).bind fun r1 =>
  bif !r1.1 then
   some (([] : Str), ())
  else
   (impl_Val_none v).bind fun r2 =>
   bif r2.1 then
    some (([110, 111, 110, 101] : Str), ())
   else
    (impl_valAll).bind fun r3 =>
    bif ((v.1 == r3.1.1) && ((v.2.1 == r3.1.2.1) && ((v.2.2.1 == r3.1.2.2.1) && (v.2.2.2 == r3.1.2.2.2)))) then
     some (([97, 110, 121] : Str), ())
    else
     bif v.1 == v.2.1 then
      (itoaF v.1).bind fun r4 =>
      some (r4.1, ())
     else
      (itoaF v.1).bind fun r5 =>
      (app r5.1 ([32, 116, 111, 32] : Str)).bind fun s =>
      (itoaF v.2.1).bind fun r6 =>
      (app s r6.1).bind fun s2 =>
      joinK (fun (text : Str) =>
       some (text, ())) fun jx1 =>
      bif decide (v.2.2.1 > 1) then
       (itoaF v.2.2.1).bind fun r7 =>
       (app ([32, 98, 121, 32] : Str) r7.1).bind fun s3 =>
       (app s2 s3).bind fun s4 =>
       jx1 s4
      else
       jx1 s2
def E_impl_ReportVal : Env := envOf gt tab [(11, S_impl_ValOk impl_ValOk), (12, S_impl_Val_none impl_Val_none), (13, S_impl_valAll impl_valAll), (14, s_itoa)] [] [(1, 25)]
theorem e_impl_ReportVal : EnvOk Tryd.prog (E_impl_ReportVal) := env_ok mix tabOk ⟨g_impl_ValOk, g_impl_Val_none, g_impl_valAll, g_itoa, trivial⟩ trivial
theorem eq_impl_ReportVal (d : DL [(.pair I (.pair I (.pair I I)))]) : impl_ReportVal d.1 = runC (E_impl_ReportVal) (bodyOf Tryd.f6) (stD Tryd.f6.ntmps [(.pair I (.pair I (.pair I I)))] d) (kD (E_impl_ReportVal) Tryd.f6.results.toList [.str]) (fun _ _ => none) := by kernel_rfl
theorem g_impl_ReportVal : Good Tryd.prog gt 6 (S_impl_ReportVal (impl_ReportVal)) := good_data (e_impl_ReportVal) (ts := [(.pair I (.pair I (.pair I I)))]) (rs := [.str]) (F := fun d => impl_ReportVal d.1) Tryd.func6 Tryd.call6 (by kernel_rfl) (codes_ok (l := []) (by kernel_rfl) trivial) (by kernel_rfl) (eq_impl_ReportVal)

/-! loop.example/sedge/laws.FnExactReportVal -/
def S_laws_FnExactReportVal (f : (Int × Int × Int × Int) → Option (Bool × Unit)) : CSem := semD [(.pair I (.pair I (.pair I I)))] [.bool] (fun d => f d.1) id
def laws_FnExactReportVal (k : Nat) (aV : Int × Int × Int × Int) : Option (Bool × Unit) :=
  (laws_toVal aV).bind fun r1 =>
  (spec_ReportVal k r1.1).bind fun r2 =>
  (laws_toVal aV).bind fun r3 =>
  (impl_ReportVal r3.1).bind fun r4 =>
  bif !(r4.1 == r2.1) then
   some (false, ())
  else
   some (true, ())
def E_laws_FnExactReportVal (k : Nat) : Env := envOf gt tab [(4, S_spec_ReportVal (spec_ReportVal k)), (5, S_laws_toVal laws_toVal), (6, S_impl_ReportVal impl_ReportVal)] [] [(1, 23)]
theorem e_laws_FnExactReportVal (k : Nat) : EnvOk Tryd.prog (E_laws_FnExactReportVal k) := env_ok mix tabOk ⟨g_spec_ReportVal k, g_laws_toVal, g_impl_ReportVal, trivial⟩ trivial
theorem eq_laws_FnExactReportVal (k : Nat) (d : DL [(.pair I (.pair I (.pair I I)))]) : laws_FnExactReportVal k d.1 = runC (E_laws_FnExactReportVal k) (bodyOf Tryd.f3) (stD Tryd.f3.ntmps [(.pair I (.pair I (.pair I I)))] d) (kD (E_laws_FnExactReportVal k) Tryd.f3.results.toList [.bool]) (fun _ _ => none) := by kernel_rfl
theorem g_laws_FnExactReportVal (k : Nat) : Good Tryd.prog gt 3 (S_laws_FnExactReportVal (laws_FnExactReportVal k)) := good_data (e_laws_FnExactReportVal k) (ts := [(.pair I (.pair I (.pair I I)))]) (rs := [.bool]) (F := fun d => laws_FnExactReportVal k d.1) Tryd.func3 Tryd.call3 (by kernel_rfl) (codes_ok (l := []) (by kernel_rfl) trivial) (by kernel_rfl) (eq_laws_FnExactReportVal k)
end Go.Fx.R4

/- The plain law of 'FnExactReportVal': both ways of telling a value agree. -/
namespace Go.Fx.R4
open Go Go.Fx
set_option linter.unusedVariables false
set_option linter.unusedSimpArgs false

theorem w64_small {x : Int} (h1 : -4611686018427387904 ≤ x) (h2 : x ≤ 4611686018427387904) : w64 x = x := by
  unfold w64 IntKind.wrap
  simp [IntKind.bits, IntKind.signed]
  omega
def num (v : Int) : Bool := decide (-2147483648 ≤ v) && decide (v ≤ 2147483647)
theorem spec_num (v : Int) : spec_NumOk v = some (num v, ()) := by
  simp only [spec_NumOk, spec_l1In, joinK, num, ge_iff_le]
  by_cases h : -2147483648 ≤ v <;> simp [h]
theorem impl_num (v : Int) : impl_NumOk v = some (num v, ()) := by
  simp only [impl_NumOk, joinK, num, ge_iff_le]
  by_cases h : -2147483648 ≤ v <;> simp [h]
def rng (a : Int × Int) : Bool := (a.1 == 1 && a.2 == 0) || (num a.1 && num a.2 && decide (a.1 ≤ a.2))
theorem spec_rng (a : Int × Int) : spec_RangeOk a = some (rng a, ()) := by
  simp only [spec_RangeOk, spec_l8None, Option.bind_some, joinK, spec_num, rng]
  cases (a.1 == 1 && a.2 == 0) <;> cases num a.1 <;> cases num a.2 <;> simp
theorem impl_rng (a : Int × Int) : impl_RangeOk a = some (rng a, ()) := by
  simp only [impl_RangeOk, impl_rangeNone, Option.bind_some, joinK, impl_num, rng]
  cases (a.1 == 1 && a.2 == 0) <;> cases num a.1 <;> cases num a.2 <;> simp
def rst (b : Int × Int) : Bool := bif b.1 == 0 then num b.2 else decide (1 ≤ b.1) && decide (b.1 ≤ 65536) && decide (0 ≤ b.2) && decide (b.2 < b.1)
theorem spec_rst (b : Int × Int) : spec_RestOk b = some (rst b, ()) := by
  simp only [spec_RestOk, spec_num, spec_l1In, Option.bind_some, joinK, rst, ge_iff_le]
  cases hb : (b.1 == 0)
  · simp only [cond_false]
    by_cases h1 : 1 ≤ b.1
    · by_cases h2 : b.1 ≤ 65536
      · have e : w64 (b.1 - 1) = b.1 - 1 := w64_small (by omega) (by omega)
        by_cases h3 : 0 ≤ b.2
        · have : (b.2 ≤ b.1 - 1) = (b.2 < b.1) := by apply propext; omega
          simp [h1, h2, h3, e, this]
        · simp [h1, h2, h3]
      · simp [h1, h2]
    · simp [h1]
  · simp
theorem impl_rst (b : Int × Int) : impl_RestOk b = some (rst b, ()) := by
  simp only [impl_RestOk, impl_num, Option.bind_some, joinK, rst, ge_iff_le]
  cases hb : (b.1 == 0)
  · simp only [cond_false]
    by_cases h1 : 1 ≤ b.1 <;> by_cases h2 : b.1 ≤ 65536 <;> by_cases h3 : 0 ≤ b.2 <;> simp [h1, h2, h3]
  · simp

theorem has_eq (a : Int × Int) (v : Int) : spec_RangeHas a v = impl_RangeHas a v := by
  simp only [spec_RangeHas, impl_RangeHas, spec_rng, impl_rng, Option.bind_some, joinK, spec_l1In, ge_iff_le]
  cases rng a <;> by_cases h : a.1 ≤ v <;> simp [h]
theorem mod_eq (n m : Int) : spec_l1Mod n m = impl_restMod n m := by
  simp only [spec_l1Mod, impl_restMod, joinK]
theorem empty_eq {a : Int × Int} (h : rng a = true) : (a.1 == 1 && a.2 == 0) = decide (a.1 > a.2) := by
  unfold rng at h
  cases hb : (a.1 == 1 && a.2 == 0) with
  | true =>
    simp only [Bool.and_eq_true, beq_iff_eq] at hb
    simp [hb.1, hb.2]
  | false =>
    rw [hb] at h
    simp only [Bool.false_or, Bool.and_eq_true, decide_eq_true_eq] at h
    have := h.2
    symm
    simp only [decide_eq_false_iff_not]
    omega
theorem make_eq (a b : Int × Int) : spec_ValMake a b = impl_ValMake a b := by
  simp only [spec_ValMake, impl_ValMake, spec_rng, impl_rng, Option.bind_some, joinK, spec_rst, impl_rst, spec_l8None, impl_Range_empty, has_eq, mod_eq, spec_l10None, impl_valNone, spec_l10One, impl_valOne]
  cases hr : rng a with
  | false => simp
  | true =>
    simp only [Bool.not_true, cond_false, empty_eq hr]
    cases rst b with
    | false => simp
    | true =>
      simp only [Bool.not_true, cond_false]
      cases decide (a.1 > a.2) with
      | true => simp
      | false =>
        simp only [cond_false]
        cases (b.1 == 0) with
        | false => simp
        | true =>
          simp only [cond_true]
          congr 1
          funext r
          cases r.1 <;> simp

abbrev V4 := Int × Int × Int × Int
/-- What a value is made to, where it is made of what fits. -/
theorem make_some (a b : Int × Int) : ∃ r : V4, impl_ValMake a b = some (r, ()) ∧ ((rng a && rst b) = false → r = (1, 0, 0, 0)) := by
  simp only [impl_ValMake, impl_rng, Option.bind_some, joinK, impl_rst, impl_Range_empty, impl_valNone, impl_valOne, impl_RangeHas]
  cases hr : rng a with
  | false => exact ⟨_, by simp, fun _ => rfl⟩
  | true =>
    cases hs : rst b with
    | false => exact ⟨_, by simp, fun _ => rfl⟩
    | true =>
      simp only [Bool.not_true, cond_false, cond_true, Bool.and_self, Bool.true_eq_false, false_implies, and_true]
      cases decide (a.1 > a.2) with
      | true => exact ⟨_, by simp; rfl⟩
      | false =>
        simp only [cond_false]
        cases hb : (b.1 == 0) with
        | true =>
          simp only [cond_true]
          cases decide (a.1 ≤ b.2) <;> cases decide (b.2 ≤ a.2) <;> exact ⟨_, by simp; rfl⟩
        | false =>
          have hne : b.1 ≠ 0 := by simpa using hb
          have hm : ∀ n, ∃ x, impl_restMod n b.1 = some (x, ()) := fun n => by
            simp only [impl_restMod, joinK, hne, decide_false, cond_false]
            cases decide (n.tmod b.1 < 0) <;> exact ⟨_, rfl⟩
          obtain ⟨x, hx⟩ := hm (w64 (b.2 - a.1))
          obtain ⟨y, hy⟩ := hm (w64 (a.2 - b.2))
          simp only [cond_false, hx, hy, Option.bind_some]
          cases decide (w64 (a.1 + x) > w64 (a.2 - y)) with
          | true => exact ⟨_, by simp; rfl⟩
          | false => cases (w64 (a.1 + x) == w64 (a.2 - y)) <;> exact ⟨_, by simp; rfl⟩

def same (a r : V4) : Bool := (a.1 == r.1) && ((a.2.1 == r.2.1) && ((a.2.2.1 == r.2.2.1) && (a.2.2.2 == r.2.2.2)))
theorem same_iff {a r : V4} : same a r = true ↔ a = r := by
  obtain ⟨a1, a2, a3, a4⟩ := a
  obtain ⟨r1, r2, r3, r4⟩ := r
  simp [same]
theorem ok_eq (a : V4) : spec_ValOk a = impl_ValOk a := by
  obtain ⟨r, h1, h2⟩ := make_some (a.1, a.2.1) a.2.2
  have hi : impl_ValOk a = some (same a r, ()) := by
    simp only [impl_ValOk, impl_Val_span, impl_Val_rest, Option.bind_some, h1, same]
  by_cases hn : a = (1, 0, 0, 0)
  · rw [hn]; rfl
  · have hs : same a (1, 0, 0, 0) = false := by
      cases hq : same a (1, 0, 0, 0) with
      | false => rfl
      | true => exact absurd (same_iff.1 hq) hn
    have hs' : (a.1 == 1 && (a.2.1 == 0 && (a.2.2.1 == 0 && a.2.2.2 == 0))) = false := hs
    rw [hi]
    simp only [spec_ValOk, spec_l10None, spec_l10Range, spec_l10Rest, spec_rng, spec_rst, make_eq, h1, Option.bind_some, joinK, hs', cond_false]
    cases hr : rng (a.1, a.2.1) with
    | false =>
      simp only [cond_false]
      rw [h2 (by simp [hr]), hs]
    | true =>
      simp only [cond_true, Option.bind_some]
      cases hq : rst a.2.2 with
      | false =>
        simp only [cond_false]
        rw [h2 (by simp [hq]), hs]
      | true => rfl

theorem u8_small {x : Int} (h1 : 0 ≤ x) (h2 : x ≤ 255) : IntKind.u8.wrap x = x := by
  unfold IntKind.wrap
  simp [IntKind.bits, IntKind.signed]
  omega
theorem chr {x : Int} {u : Nat} (hu : u < 10) (hx : x = ((48 + u : Nat) : Int)) : List.map (fun n => UInt8.ofNat n.toNat) ([IntKind.u8.wrap (w64 x)] : List Int) = [UInt8.ofNat (48 + u)] := by
  rw [w64_small (by omega) (by omega), u8_small (by omega) (by omega), hx]
  rfl
theorem dec_nat : ∀ (m : Nat) {u k : Nat}, m < k → u < 10 ^ (m + 1) → m ≤ 10 → spec_l1Dec k (u : Int) = some (Lib.decDigits u, ()) ∧ (Lib.decDigits u).length ≤ m + 1
  | 0, u, k + 1, hk, h2, _ => by
    have h2 : u < 10 := by simpa using h2
    have e : Lib.decDigits u = [UInt8.ofNat (48 + u)] := Lib.decDigits_one h2
    refine ⟨?_, by rw [e]; simp⟩
    show spec_l1Dec_b (spec_l1Dec k) k u = _
    have a1 : ¬ ((u : Int) < -9) := by omega
    have a2 : ¬ ((u : Int) < 0) := by omega
    have a3 : (u : Int) < 10 := by omega
    simp only [spec_l1Dec_b, a1, a2, a3, decide_false, decide_true, cond_false, cond_true]
    rw [chr h2 (by omega), e]
  | m + 1, u, k + 1, hk, h2, h3 => by
    have a1 : ¬ ((u : Int) < -9) := by omega
    have a2 : ¬ ((u : Int) < 0) := by omega
    by_cases h10 : u < 10
    · have e : Lib.decDigits u = [UInt8.ofNat (48 + u)] := Lib.decDigits_one h10
      refine ⟨?_, by rw [e]; simp⟩
      show spec_l1Dec_b (spec_l1Dec k) k u = _
      have a3 : (u : Int) < 10 := by omega
      simp only [spec_l1Dec_b, a1, a2, a3, decide_false, decide_true, cond_false, cond_true]
      rw [chr h10 (by omega), e]
    · have e : Lib.decDigits u = Lib.decDigits (u / 10) ++ [UInt8.ofNat (48 + u % 10)] := by rw [Lib.decDigits, dif_neg h10]
      have hlt : u / 10 < 10 ^ (m + 1) := by rw [Nat.pow_succ] at h2; omega
      obtain ⟨i1, i2⟩ := dec_nat m (u := u / 10) (k := k) (by omega) hlt (by omega)
      refine ⟨?_, by rw [e]; simp; omega⟩
      show spec_l1Dec_b (spec_l1Dec k) k u = _
      have a3 : ¬ ((u : Int) < 10) := by omega
      have hu : u < 1000000000000 := by
        have : (10 : Nat) ^ (m + 1 + 1) ≤ 10 ^ 12 := Nat.pow_le_pow_right (by omega) (by omega)
        omega
      have d1 : (u : Int).tdiv 10 = ((u / 10 : Nat) : Int) := by rw [Int.tdiv_eq_ediv_of_nonneg (by omega)]; omega
      have d2 : (u : Int).tmod 10 = ((u % 10 : Nat) : Int) := by rw [Int.tmod_eq_emod_of_nonneg (by omega)]; omega
      simp only [spec_l1Dec_b, a1, a2, a3, decide_false, cond_false, spec_l1Dec_r7, d1, d2]
      rw [w64_small (x := ((u / 10 : Nat) : Int)) (by omega) (by omega), i1]
      simp only [Option.bind_some]
      rw [chr (u := u % 10) (by omega) (by omega), e]
      have hl : ((Lib.decDigits (u / 10)).length + [UInt8.ofNat (48 + u % 10)].length ≤ 4294967296) := by simp only [List.length_cons, List.length_nil]; omega
      simp only [app, hl, decide_true, cond_true, Option.bind_some]

theorem dec_int {n : Int} (h1 : -2147483648 ≤ n) (h2 : n ≤ 2147483647) : spec_l1Dec 20 n = some (Lib.itoa n, ()) ∧ (Lib.itoa n).length ≤ 13 := by
  unfold Lib.itoa
  by_cases hn : n < 0
  · obtain ⟨u, rfl⟩ : ∃ u : Nat, n = -(u : Int) := ⟨n.natAbs, by omega⟩
    have e0 : (-(u : Int)).natAbs = u := by omega
    rw [if_pos hn, e0]
    by_cases h10 : u < 10
    · have e : Lib.decDigits u = [UInt8.ofNat (48 + u)] := Lib.decDigits_one h10
      refine ⟨?_, by rw [e]; simp⟩
      show spec_l1Dec_b (spec_l1Dec 19) 19 (-(u : Int)) = _
      have a1 : ¬ (-(u : Int) < -9) := by omega
      simp only [spec_l1Dec_b, a1, hn, decide_false, decide_true, cond_false, cond_true]
      rw [chr h10 (by omega), e]
      rfl
    · have e : Lib.decDigits u = Lib.decDigits (u / 10) ++ [UInt8.ofNat (48 + u % 10)] := by rw [Lib.decDigits, dif_neg h10]
      obtain ⟨i1, i2⟩ := dec_nat 10 (u := u / 10) (k := 19) (by omega) (by omega) (by omega)
      refine ⟨?_, by rw [e]; simp; omega⟩
      show spec_l1Dec_b (spec_l1Dec 19) 19 (-(u : Int)) = _
      have a1 : (-(u : Int) < -9) := by omega
      have d1 : (-(u : Int)).tdiv (-10) = ((u / 10 : Nat) : Int) := by rw [Int.neg_tdiv_neg, Int.tdiv_eq_ediv_of_nonneg (by omega)]; omega
      have d2 : (-(u : Int)).tmod 10 = -((u % 10 : Nat) : Int) := by rw [Int.neg_tmod, Int.tmod_eq_emod_of_nonneg (by omega)]; omega
      simp only [spec_l1Dec_b, a1, decide_true, cond_true, spec_l1Dec_r2, d1, d2]
      rw [w64_small (x := ((u / 10 : Nat) : Int)) (by omega) (by omega), i1]
      simp only [Option.bind_some]
      rw [chr (u := u % 10) (by omega) (by omega), e]
      have hl1 : (([45] : Str).length + (Lib.decDigits (u / 10)).length ≤ 4294967296) := by simp only [List.length_cons, List.length_nil]; omega
      have hl2 : (([45] ++ Lib.decDigits (u / 10) : Str).length + [UInt8.ofNat (48 + u % 10)].length ≤ 4294967296) := by simp; omega
      simp only [app, hl1, decide_true, cond_true, Option.bind_some, hl2]
      rfl
  · obtain ⟨u, rfl⟩ : ∃ u : Nat, n = (u : Int) := ⟨n.toNat, by omega⟩
    rw [if_neg hn]
    obtain ⟨i1, i2⟩ := dec_nat 10 (u := u) (k := 20) (by omega) (by omega) (by omega)
    exact ⟨by rw [i1]; rfl, by show (Lib.decDigits u).length ≤ 13; omega⟩

theorem shape {v : V4} (h : impl_ValMake (v.1, v.2.1) v.2.2 = some (v, ())) (hn : v ≠ (1, 0, 0, 0)) : num v.1 = true ∧ num v.2.1 = true ∧ 0 ≤ v.2.2.1 ∧ v.2.2.1 ≤ 65536 ∧ (v.2.2.1 == 0) = (v.1 == v.2.1) := by
  obtain ⟨lo, hi, m, r⟩ := v
  obtain ⟨r', h1, h2⟩ := make_some (lo, hi) (m, r)
  simp only at h
  rw [h1] at h
  simp only [Option.some.injEq, Prod.mk.injEq, and_true] at h
  have hr' : r' = (lo, hi, m, r) := h
  have hg : (rng (lo, hi) && rst (m, r)) = true := by
    cases hq : (rng (lo, hi) && rst (m, r)) with
    | true => rfl
    | false => exact absurd (hr' ▸ h2 hq) hn
  simp only [Bool.and_eq_true] at hg
  obtain ⟨g1, g2⟩ := hg
  have hm : 0 ≤ m ∧ m ≤ 65536 := by
    unfold rst at g2
    cases hb : (m == 0) with
    | true => simp only [beq_iff_eq] at hb; omega
    | false => simp only [hb, cond_false, Bool.and_eq_true, decide_eq_true_eq] at g2; omega
  rw [hr'] at h1
  simp only [impl_ValMake, impl_rng, Option.bind_some, joinK, impl_rst, impl_Range_empty, impl_valNone, impl_valOne, impl_RangeHas, g1, g2, Bool.not_true, cond_false, cond_true] at h1
  cases hgt : decide (lo > hi) with
  | true => rw [hgt] at h1; simp at h1; obtain ⟨rfl, rfl, rfl, rfl⟩ := h1; exact absurd rfl hn
  | false =>
    have hle : lo ≤ hi := by simpa using hgt
    have hnum : num lo = true ∧ num hi = true := by
      unfold rng at g1
      simp only [Bool.or_eq_true, Bool.and_eq_true, beq_iff_eq, decide_eq_true_eq] at g1
      rcases g1 with ⟨e1, e2⟩ | ⟨e1, _⟩
      · omega
      · exact e1
    refine ⟨hnum.1, hnum.2, hm.1, hm.2, ?_⟩
    simp only [hgt, cond_false] at h1
    cases hb : (m == 0) with
    | true =>
      simp only [hb, cond_true] at h1
      symm
      cases hx : decide (lo ≤ r) <;> cases hy : decide (r ≤ hi) <;> simp [hx, hy] at h1
      all_goals first | (obtain ⟨rfl, rfl, rfl, rfl⟩ := h1; exact absurd rfl hn) | (obtain ⟨h3, h4, _⟩ := h1; simp only [beq_iff_eq]; omega)
    | false =>
      have hne : m ≠ 0 := by simpa using hb
      have hmm : ∀ n, ∃ x, impl_restMod n m = some (x, ()) := fun n => by
        simp only [impl_restMod, joinK, hne, decide_false, cond_false]
        cases decide (n.tmod m < 0) <;> exact ⟨_, rfl⟩
      obtain ⟨x, hx⟩ := hmm (w64 (r - lo))
      obtain ⟨y, hy⟩ := hmm (w64 (hi - r))
      simp only [hb, cond_false, hx, hy, Option.bind_some] at h1
      cases hc : decide (w64 (lo + x) > w64 (hi - y)) with
      | true => rw [hc] at h1; simp at h1; obtain ⟨rfl, rfl, rfl, rfl⟩ := h1; exact absurd rfl hn
      | false =>
        simp only [hc, cond_false] at h1
        cases he : (w64 (lo + x) == w64 (hi - y)) with
        | true => rw [he] at h1; simp at h1; omega
        | false =>
          rw [he] at h1
          simp at h1
          rw [h1.1, h1.2] at he
          exact he.symm

theorem itoa_int {n : Int} (h1 : -2147483648 ≤ n) (h2 : n ≤ 2147483647) : itoaF n = some (Lib.itoa n, ()) := by
  have a : -9223372036854775808 ≤ n := by omega
  have b : n ≤ 9223372036854775807 := by omega
  simp [itoaF, a, b]
theorem app_eq {a b : Str} (h : a.length + b.length ≤ 4294967296) : app a b = some (a ++ b) := by simp [app, h]
theorem law_true (v : V4) : laws_FnExactReportVal 20 v = some (true, ()) := by
  obtain ⟨r, m1, m2⟩ := make_some (v.1, v.2.1) v.2.2
  have hok : impl_ValOk v = some (same v r, ()) := by
    simp only [impl_ValOk, impl_Val_span, impl_Val_rest, Option.bind_some, m1, same]
  have key : ∃ s, spec_ReportVal 20 v = some (s, ()) ∧ impl_ReportVal v = some (s, ()) := by
    simp only [spec_ReportVal, impl_ReportVal, ok_eq, hok, Option.bind_some, spec_l10None, impl_Val_none, impl_valNone, spec_l10All, impl_valAll]
    cases hs : same v r with
    | false => exact ⟨_, rfl, rfl⟩
    | true =>
      obtain rfl := same_iff.1 hs
      simp only [Bool.not_true, cond_false]
      cases hn : ((v.1 == 1) && ((v.2.1 == 0) && ((v.2.2.1 == 0) && (v.2.2.2 == 0)))) with
      | true => exact ⟨_, rfl, rfl⟩
      | false =>
        simp only [cond_false]
        have hne : v ≠ (1, 0, 0, 0) := fun e => by rw [e] at hn; simp at hn
        obtain ⟨s1, s2, s3, s4, s5⟩ := shape m1 hne
        simp only [num, Bool.and_eq_true, decide_eq_true_eq] at s1 s2
        cases ((v.1 == -2147483648) && ((v.2.1 == 2147483647) && ((v.2.2.1 == 1) && (v.2.2.2 == 0)))) with
        | true => exact ⟨_, rfl, rfl⟩
        | false =>
          simp only [cond_false, ← s5]
          obtain ⟨d1, l1⟩ := dec_int s1.1 s1.2
          obtain ⟨d2, l2⟩ := dec_int s2.1 s2.2
          obtain ⟨d3, l3⟩ := dec_int (n := v.2.2.1) (by omega) (by omega)
          have i1 := itoa_int s1.1 s1.2
          have i2 := itoa_int s2.1 s2.2
          have i3 := itoa_int (n := v.2.2.1) (by omega) (by omega)
          cases (v.2.2.1 == 0) with
          | true => exact ⟨Lib.itoa v.1, by simp only [cond_true, d1, Option.bind_some], by simp only [cond_true, i1, Option.bind_some]⟩
          | false =>
            simp only [cond_false, d1, d2, d3, i1, i2, i3, Option.bind_some, joinK]
            rw [app_eq (a := Lib.itoa v.1) (by simp; omega)]
            simp only [Option.bind_some]
            rw [app_eq (a := Lib.itoa v.1 ++ _) (by simp; omega)]
            simp only [Option.bind_some]
            cases decide (v.2.2.1 > 1) with
            | false => exact ⟨_, rfl, rfl⟩
            | true =>
              simp only [cond_true]
              rw [app_eq (b := [32, 98, 121, 32]) (by simp; omega), app_eq (a := [32, 98, 121, 32]) (by simp; omega)]
              simp only [Option.bind_some]
              rw [app_eq (by simp; omega), app_eq (by simp; omega)]
              exact ⟨_, rfl, by simp⟩
  obtain ⟨s, k1, k2⟩ := key
  simp [laws_FnExactReportVal, laws_toVal, k1, k2]
end Go.Fx.R4
