/- Parts: LawFnExactReportVal. -/
import Derived.Test.YtafpgfdjfnoagaaDoorRows
import Derived.Test.YtafpgfdjfnoagaaDoorCards
import Derived.Test.YtafpgfdjfnoagaaDoorTie
import Derived.Test.YtafpgfdjfnoagaaDoorR4
import Derived.WalkKit
import Derived.ProofKit
import Derived.OpenShut
import Derived.ChangeOld
import Derived.ChangeArms
import Derived.Below
import Derived.Carry
import Derived.SizedLaws
import Derived.Lay
import Derived.LaidMore
import Derived.LaidOnce
import Derived.LaidSub
import Derived.MakeChecks
import Derived.Lib.LaidTab
import Derived.Lib.SmallJoins
import Derived.SevenTiedAt
/- Proved here: laws.FnExactReportVal returns true at every value. No condition beyond the card's own: what its row lists is tied to the program's text. -/
namespace Go.Proofs.YtafpgfdjfnoagaaDoor.fnExactReportVal
open Go.ChangeShapes Go.WideShapes Go.ChangeAt Go.RowKit
set_option linter.unusedVariables false
theorem own : ownKnob Tryd.prog.godebug = none := by kernel_rfl
theorem laidOut : laidOutB Tryd.prog = true := by kernel_rfl
abbrev laid : List (String × DataW Unit) := Rows.fnExactReportValRow.laid

theorem pow10 {W : World} (h : laidMetH Tryd.prog laid W) : Lib.TabIs Tryd.prog W "internal/strconv.uint64pow10" .u64 Lib.pow10Tab := by
  rw [MakeChecks.laidMetH_plain _ _ _ (by kernel_rfl)] at h
  have h2 := h.filter fun x => x.1 == "internal/strconv.uint64pow10"
  have e : (laid.filter fun x => x.1 == "internal/strconv.uint64pow10") = [("internal/strconv.uint64pow10", Lib.tabData .u64 Lib.pow10Tab)] := by kernel_rfl
  rw [e] at h2
  exact Lib.tabIs_of_head (g := 0) (t := 58) (e := 51) (n := 20) (by kernel_rfl) (by kernel_rfl) (by kernel_rfl) (by kernel_rfl) (by kernel_rfl) (by kernel_rfl) h2

theorem globs {W : World} (h : laidMetH Tryd.prog laid W) : Go.Fx.GlobIn Go.Fx.R4.gt (fun b => W.heap[b]?) := fun g D hg => by
  have hp := pow10 h
  have hname : Tryd.prog.globalNamed "internal/strconv.uint64pow10" = some 0 := by kernel_rfl
  unfold Go.Fx.R4.gt at hg
  split at hg
  · cases hg
    unfold Lib.TabIs World.var? at hp
    rw [hname] at hp
    simp only [Option.bind_some] at hp
    split at hp
    · rename_i cs elem fz hc
      refine ⟨cs, elem, fz, hc, ?_⟩
      obtain rfl := Option.some.inj hp
      exact reps _
    · cases hp
  · cases hg
where
  reps : ∀ (l : List Int), Go.Fx.RepL (Go.Fx.Rep (fun b => W.heap[b]?) false (.int .u64)) (l.map fun z => Value.int .u64 z).toArray.toList l []
    | [] => ⟨rfl, rfl⟩
    | z :: l => ⟨[.int .u64 z], (l.map fun z => Value.int .u64 z).toArray.toList, [], [], by simp, rfl, ⟨rfl, rfl⟩, reps l⟩

theorem walk (a b c d : Int) {W : World} (h : laidMetH Tryd.prog laid W) : Calls Tryd.prog 3 #[.agg #[.int .i64 a, .int .i64 b, .int .i64 c, .int .i64 d]] W fun e W' => e = .returned (.bool true) ∧ Below W.heap.size W W' := by
  have h := Go.Fx.calls_data (Go.Fx.R4.g_laws_FnExactReportVal 20).ok (S := fun b => W.heap[b]?) (w := W) rfl (fun _ _ h => h) (globs h) (avs := [.one (.dat (.pair Go.Fx.I (.pair Go.Fx.I (.pair Go.Fx.I Go.Fx.I))) (a, b, c, d))])
    (vs := [.agg #[.int .i64 a, .int .i64 b, .int .i64 c, .int .i64 d]]) (d := ((a, b, c, d), ())) (y := (true, ()))
    (Go.Fx.R4.law_true (a, b, c, d)) ⟨⟨[.int .i64 a, .int .i64 b, .int .i64 c, .int .i64 d], rfl, [.int .i64 a], _, [], [], rfl, rfl, ⟨rfl, rfl⟩, [.int .i64 b], _, [], [], rfl, rfl, ⟨rfl, rfl⟩, [.int .i64 c], [.int .i64 d], [], [], rfl, rfl, ⟨rfl, rfl⟩, ⟨rfl, rfl⟩⟩, trivial⟩ rfl rfl
  exact h
set_option maxRecDepth 100000 in
theorem lifted (os : Os) (started : os.Started) (H : Type) (enc : TypeId × Value → H) :
    ReturnsInHanded {} Tryd.checked os 3 .any (fun w args => (Rows.fnExactReportValSpec.pre enc Tryd.prog Tryd.f3 Rows.fnExactReportValRow.domain false w args ∧ laidMetH Tryd.prog laid w) ∧ sizedMet enc Tryd.prog Tryd.f3 (OpenSpec.ofChange Rows.fnExactReportValSpec) false w args)
      (Rows.fnExactReportValSpec.post enc Tryd.prog Tryd.f3 false true false false) := by
  refine returnsInHanded_of_change_and (C := Tryd.checked) (X := fun w _ => laidMetH Tryd.prog laid w) (fun _ _ _ hh h => h.of_heap hh) own started (by kernel_rfl) Tryd.func3
    (ChangeSpec.witness_at (enc := enc) (C := Tryd.checked) (os := os) (X := fun w _ => laidMetH Tryd.prog laid w) false (World.laidAll Tryd.prog os laid) #[.agg #[.int .i64 0, .int .i64 0, .int .i64 0, .int .i64 0]] 8 (World.laidAll_os _ _ _) (by kernel_rfl) (by kernel_rfl) (by kernel_rfl) (by kernel_rfl) (by kernel_rfl)
      (by rw [MakeChecks.laidMetH_plain _ _ _ (by kernel_rfl)]; exact laidMet_laidAll _ (by kernel_rfl) (by kernel_rfl))) ?_
  intro W base args ds gs before hval0 hW hcnd _ hL _
  have hval : ∀ (j : Nat) t v, Tryd.f3.params[j]? = some t → args[j]? = some v → Value.okWide Tryd.prog W .any base t v := hval0
  have hW' := hW
  obtain ⟨p, q, hA0, hV, rfl, hfz, hnd⟩ := hW
  have hA : DataW.TrodAll enc Tryd.prog W 0 (fun _ => true) true Tryd.f3.params.toList args.toList ds p := hA0
  rw [Tryd.params3] at hA hval
  obtain ⟨v0, vs0, d0, ds0, p0, q0, hargs, rfl, rfl, h0, r0⟩ := trodAll_cons hA
  obtain ⟨rfl, rfl, rfl⟩ := trodAll_nil r0
  obtain rfl : args = #[v0] := by cases args; simp_all
  obtain ⟨rfl, rfl⟩ := trodVars_none hV
  have k0 := h0
  have lt0 : ∀ x ∈ p0, x.block < W.heap.size := by obtain ⟨m, hm⟩ := k0; exact DataW.trod_lt m _ _ _ hm
  obtain ⟨cs, rfl, hsz⟩ := okWide_struct Tryd.underlying23 (hval 0 23 v0 rfl rfl)
  obtain ⟨c0, c1, c2, c3, rfl⟩ := Go.Joins.array4 (hsz.trans (by kernel_rfl : Tryd.prog.cellsOf 23 = 4))
  have c3' : Tryd.prog.cellsOf 3 = 1 := by kernel_rfl
  obtain ⟨fuel, hf⟩ := h0
  obtain ⟨y0, y1, y2, y3, n, hx, _, t0, t1, t2, t3⟩ := Go.Joins.trod_struct4 Tryd.underlying23 hf
  simp only [c3'] at t0 t1 t2 t3
  obtain ⟨z0, a0, _⟩ := DataW.trod_int Tryd.underlying3 t0
  obtain ⟨z1, a1, _⟩ := DataW.trod_int Tryd.underlying3 t1
  obtain ⟨z2, a2, _⟩ := DataW.trod_int Tryd.underlying3 t2
  obtain ⟨z3, a3, _⟩ := DataW.trod_int Tryd.underlying3 t3
  simp [Value.cells] at a0 a1 a2 a3
  subst a0 a1 a2 a3
  clear hA0 hval0 hx hf
  refine (walk z0 z1 z2 z3 hL).mono fun e W' ⟨he, bel⟩ => ?_
  subst he
  exact ⟨_, rfl, _, _, _, [], _, [], hW', trodAll_mk1 (shut_bool Tryd.underlying4 _), (trodAll_cons_mk (Below.trod laidOut (by kernel_rfl) (of_decide_eq_true (by kernel_rfl)) k0 bel lt0) trodAll_mk0), rfl, bel.frame _, fun h => by cases h⟩
theorem over : Rows.fnExactReportValRow.holds Tryd.pinned (OpenSpec.ofChange Rows.fnExactReportValSpec) :=
  OpenClaim.holds_of_wide 3 Tryd.f3 rfl rfl rfl rfl rfl rfl rfl ⟨rfl, rfl, rfl, rfl, rfl⟩ rfl rfl rfl rfl rfl (by kernel_rfl) Tryd.func3 (by kernel_rfl)
    (of_decide_eq_true (by kernel_rfl)) (by unfold Func.isWrapper; first | (rw [if_pos (by decide +kernel)]; kernel_rfl) | (rw [if_neg (by decide +kernel)]; exact ⟨rfl, rfl⟩))
    (fun os started H enc _ => lifted os started H enc)
theorem card_holds : Rows.FnExactReportValCardSaid :=
  Claim7.holds_tied_plain_at .later [] [.data, .data, .data] true (true, "0a6c6b6fd841adea851a0b70da9d199c5f4a154044cc2cff1c376171801936ab") false over (fun _ h => by cases h) (by kernel_rfl) (fun _ h => by cases h) fnExactReportVal_row_tie rfl ⟨rfl, rfl⟩ (by kernel_rfl) rfl
    (fun f fn hf hfn => by
      obtain rfl : f = 3 := Option.some.inj ((show Tryd.prog.funcNamed "loop.example/sedge/laws.FnExactReportVal" = some 3 by kernel_rfl).symm.trans hf) |>.symm
      obtain rfl : fn = Tryd.f3 := (Option.some.inj (Tryd.func3.symm.trans hfn)).symm
      exact ⟨by kernel_rfl, fun j t ht => by
        rw [Tryd.params3] at ht
        have hm : t ∈ [23] := by simpa using Array.mem_of_getElem? ht
        have hall : ([23].all fun u => !Tryd.prog.wantsStandIn u) = true := by kernel_rfl
        exact (show Tryd.prog.wantsStandIn t = false by simpa using List.all_eq_true.1 hall t hm)⟩)
    (by kernel_rfl)
#print axioms card_holds
end Go.Proofs.YtafpgfdjfnoagaaDoor.fnExactReportVal
namespace Go.Proofs.YtafpgfdjfnoagaaDoor
/-- The card, under a short name, for the claim. -/
theorem fnExactReportVal_holds : Rows.FnExactReportValCardSaid := fnExactReportVal.card_holds
end Go.Proofs.YtafpgfdjfnoagaaDoor
