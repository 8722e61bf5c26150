/- For every whole number the program's ReportFault and the reference's tell the same text. Conditions: none (every int). -/
import Derived.Test.YtafpgfdjfnoagaaPFnExactReportFaultx1
namespace Go.Proofs.Ytafpgfdjfnoagaa.Pure
open Go.RowKit Go.Proofs.Ytafpgfdjfnoagaa.PFnExactReportFault Go.Proofs.YtafpgfdjfnoagaaW.PrintWords Go.Proofs.YtafpgfdjfnoagaaW.PrintLast

theorem same (a : Int) : impl_ReportFault.f a = spec_ReportFault.f a := rfl

theorem some_text (a : Int) : ∃ t, spec_ReportFault.f a = some t := by
  unfold spec_ReportFault.f
  repeat' split
  all_goals exact ⟨_, rfl⟩

theorem FnExactReportFault : laws_FnExactReportFault.Pure := by
  intro a _
  obtain ⟨t, ht⟩ := some_text a
  unfold laws_FnExactReportFault.f
  rw [same, ht]
  simp

end Go.Proofs.Ytafpgfdjfnoagaa.Pure
