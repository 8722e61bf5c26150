/- Parts: LawFnReportPlace. -/
import Derived.Test.YtafpgfdjfnoagaaRows
import Derived.Test.YtafpgfdjfnoagaaR3p
import Derived.WalkKit
import Derived.ProofKit
import Derived.OpenShut
import Derived.ShutString
import Derived.ChangeOld
import Derived.ChangeSlices
import Derived.Below
import Derived.Carry
import Derived.SizedLaws
/- Proved here: laws.FnReportPlace returns true at every list of bytes. No condition. -/
namespace Go.Proofs.Ytafpgfdjfnoagaa.fnReportPlace
open Go.ChangeShapes Go.WideShapes Go.ChangeAt Go.RowKit
open Go.ChangeMaps (open_string shut_string)
set_option linter.unusedVariables false
theorem own : ownKnob Try.prog.godebug = none := by kernel_rfl
theorem laidOut : laidOutB Try.prog = true := by kernel_rfl

/-- A slice of whole numbers as the world holds it. -/
def IsRow (k : IntKind) (w : World) (a : Option Addr) (len cap : Nat) (zs : List Int) : Prop :=
  (a = none ∧ len = 0 ∧ cap = 0 ∧ zs = []) ∨
  ∃ x, a = some x ∧ len ≤ cap ∧ zs.length = cap ∧ (∀ i, i < zs.length → w.cell? (x.add i) = some (.int k (zs.getD i 0))) ∧ ∀ n ∈ zs, (Lit.int k n).wf = true

theorem rep_ints {S : Go.Fx.Mem} {k : IntKind} : ∀ (l : List Int), Go.Fx.RepL (Go.Fx.Rep S false (.int k)) (l.map fun n => .int k n) l []
  | [] => ⟨rfl, rfl⟩
  | n :: l => ⟨[.int k n], _, [], [], rfl, rfl, ⟨rfl, rfl⟩, rep_ints l⟩

theorem row_rel {k : IntKind} {w : World} {a : Option Addr} {len cap : Nat} {zs : List Int} (h : IsRow k w a len cap zs) : Go.Fx.RelL (Go.Fx.ghD (fun b => w.heap[b]?)) (.dat (.slice (.int k)) (zs.take len)) (.slice a len cap) := by
  refine ⟨[.slice a len cap], rfl, rfl, ?_⟩
  rcases h with ⟨rfl, rfl, rfl, rfl⟩ | ⟨x, rfl, hl, hz, hc, _⟩
  · exact .inl ⟨rfl, none, 0, rfl⟩
  · by_cases h0 : len = 0
    · subst h0
      exact .inl ⟨by simp, some x, cap, rfl⟩
    · right
      have hadd : ∀ i, (x.add i).block = x.block := fun i => block_add x i
      have c0 := hc 0 (by omega)
      unfold World.cell? at c0
      rw [hadd] at c0
      split at c0
      · rename_i c elem fz hb
        have hspot : x.spot = none := by
          split at c0
          · cases c0
          · rename_i hs
            have : (x.add 0).spot = x.spot := by simp [Addr.add]
            rw [this] at hs
            cases hsp : x.spot with
            | none => rfl
            | some _ => rw [hsp] at hs; simp at hs
        have get : ∀ i, i < zs.length → c.toList[x.off + i]? = some (.int k (zs.getD i 0)) := fun i hi => by
          have := hc i hi
          unfold World.cell? at this
          rw [hadd, hb] at this
          have hs : (x.add i).spot = none := by
            unfold Addr.add
            split
            · exact hspot
            · rfl
          have ho : (x.add i).off = x.off + i := by
            unfold Addr.add
            split
            · rename_i h; omega
            · rfl
          simp only [hs, Option.isSome_none, Bool.false_eq_true, if_false, ho] at this
          simpa using this
        have hoff : x.off + zs.length ≤ c.toList.length := by
          have := get (zs.length - 1) (by omega)
          have := (List.getElem?_eq_some_iff.1 this).1
          omega
        have hlen : (zs.take len).length = len := by simp; omega
        refine ⟨x.block, cap, c, elem, fz, c.toList.take x.off, (zs.take len).map (fun n => .int k n), c.toList.drop (x.off + len), ?_, hb, ?_, rep_ints _, by rw [hlen]; omega⟩
        · have : (c.toList.take x.off).length = x.off := by rw [List.length_take]; omega
          rw [this, hlen]
          obtain ⟨b, o, sp⟩ := x
          simp only at hspot
          subst hspot
          rfl
        · have e : (zs.take len).map (fun n => Value.int k n) = (c.toList.drop x.off).take len := by
            apply List.ext_getElem?
            intro i
            by_cases hi : i < len
            · rw [List.getElem?_map, List.getElem?_take_of_lt hi, List.getElem?_take_of_lt hi, List.getElem?_drop, get i (by omega)]
              simp [List.getD, show i < zs.length by omega]
            · rw [List.getElem?_eq_none (by simp; omega), List.getElem?_eq_none (by simp; omega)]
          rw [e]
          have h1 : c.toList = c.toList.take x.off ++ c.toList.drop x.off := (List.take_append_drop _ _).symm
          have h2 : c.toList.drop x.off = (c.toList.drop x.off).take len ++ (c.toList.drop x.off).drop len := (List.take_append_drop _ _).symm
          rw [List.drop_drop] at h2
          rw [← h2]; exact h1
      · cases c0

theorem walk {a : Option Addr} {len cap : Nat} {zs : List Int} {W : World} (h : IsRow .u8 W a len cap zs) : Calls Try.prog 5 #[.slice a len cap] W fun e W' => e = .returned (.bool true) ∧ Below W.heap.size W W' := by
  have hb : ∀ x ∈ zs.take len, 0 ≤ x ∧ x ≤ 255 := fun x hx => by
    rcases h with ⟨_, _, _, rfl⟩ | ⟨_, _, _, _, _, hw⟩
    · simp at hx
    · have := hw x (List.mem_of_mem_take hx)
      simp only [Lit.wf, Bool.and_eq_true, decide_eq_true_eq] at this
      exact ⟨this.1, this.2⟩
  have h := Go.Fx.calls_data (Go.Fx.R3.g_laws_FnReportPlace 1048578).ok (S := fun b => W.heap[b]?) (w := W) rfl (fun _ _ h => h) (fun _ _ h => (by cases h)) (avs := [.one (.dat (.slice Go.Fx.U) (zs.take len))]) (vs := [.slice a len cap]) (d := (zs.take len, ())) (y := (true, ()))
    (Go.Fx.R3.law_true _ hb) ⟨row_rel h, trivial⟩ rfl rfl
  exact h
set_option maxRecDepth 100000 in
theorem lifted (os : Os) (started : os.Started) (H : Type) (enc : TypeId × Value → H) :
    ReturnsInHanded {} Try.checked os 5 .any (Rows.fnReportPlaceSpec.pre6 enc Try.prog Try.f5 Rows.fnReportPlaceRow.domain false) (Rows.fnReportPlaceSpec.post enc Try.prog Try.f5 false true false false) := by
  refine returnsInHanded_of_change_sized (C := Try.checked) own started (by kernel_rfl) Try.func5
    (ChangeSpec.witness6 (enc := enc) (C := Try.checked) false ⟨#[], #[.slice none 0 0], []⟩ 8 (by kernel_rfl) (by kernel_rfl) (by kernel_rfl) (by kernel_rfl)) ?_
  intro W base args ds gs before hval0 hW hcnd hsz0 _
  have hval : ∀ (j : Nat) t v, Try.f5.params[j]? = some t → args[j]? = some v → Value.okWide Try.prog W .any base t v := hval0
  have hW' := hW
  obtain ⟨p, q, hA0, hV, rfl, hfz, hnd⟩ := hW
  have hA : DataW.TrodAll enc Try.prog W 0 (fun _ => true) true Try.f5.params.toList args.toList ds p := hA0
  rw [Try.params5] at hA hval
  obtain ⟨v0, vs0, d0, ds0, p0, q0, hargs, rfl, rfl, h0, r0⟩ := trodAll_cons hA
  obtain ⟨rfl, rfl, rfl⟩ := trodAll_nil r0
  obtain rfl : args = #[v0] := by cases args; simp_all
  obtain ⟨rfl, rfl⟩ := trodVars_none hV
  obtain ⟨a0, len0, cap0, rfl⟩ := okWide_slice Try.underlying27 (hval 0 27 v0 rfl rfl)
  have k0 := h0
  have lt0 : ∀ x ∈ p0, x.block < W.heap.size := by obtain ⟨m, hm⟩ := k0; exact DataW.trod_lt m _ _ _ hm
  obtain ⟨z0, w0⟩ : ∃ zs, IsRow .u8 W a0 len0 cap0 zs := by
    obtain ⟨fuel, hf⟩ := h0
    rcases open_ints Try.underlying27 Try.underlying5 (by kernel_rfl) hf with ⟨hcs, _⟩ | ⟨x, l, c, zs, hcs, _, hl, hm, hz, _, hcell, hwz⟩
    · simp [Value.cells] at hcs
      obtain ⟨rfl, rfl, rfl⟩ := hcs
      exact ⟨[], .inl ⟨rfl, rfl, rfl, rfl⟩⟩
    · simp [Value.cells] at hcs
      obtain ⟨rfl, rfl, rfl⟩ := hcs
      exact ⟨zs, .inr ⟨_, rfl, hl, by simpa using hz, hcell, hwz⟩⟩
  clear hA0 hval0 hsz0
  refine (walk w0).mono fun e W' ⟨he, bel⟩ => ?_
  subst he
  exact ⟨_, rfl, _, _, _, [], _, [], hW', trodAll_mk1 (shut_bool Try.underlying4 _), (trodAll_cons_mk (Below.trod laidOut (by kernel_rfl) (of_decide_eq_true (by kernel_rfl)) k0 bel lt0) trodAll_mk0), rfl, bel.frame _, fun h => by cases h⟩
theorem over : Rows.fnReportPlaceRow.holds Try.pinned (OpenSpec.ofChange Rows.fnReportPlaceSpec) :=
  OpenClaim.holds_of_wide 5 Try.f5 rfl rfl rfl rfl rfl rfl rfl ⟨rfl, rfl, rfl, rfl, rfl⟩ rfl rfl rfl rfl rfl (by kernel_rfl) Try.func5 (by kernel_rfl)
    (of_decide_eq_true (by kernel_rfl)) (by unfold Func.isWrapper; first | (rw [if_pos (by decide +kernel)]; kernel_rfl) | (rw [if_neg (by decide +kernel)]; exact ⟨rfl, rfl⟩))
    (fun os started H enc _ => lifted os started H enc)
theorem proved : Rows.FnReportPlaceSaid := over
#print axioms proved
end Go.Proofs.Ytafpgfdjfnoagaa.fnReportPlace
namespace Go.Proofs.Ytafpgfdjfnoagaa
/-- The row, under a short name, for the claim. -/
theorem fnReportPlace_holds : Rows.FnReportPlaceSaid := fnReportPlace.proved
end Go.Proofs.Ytafpgfdjfnoagaa
