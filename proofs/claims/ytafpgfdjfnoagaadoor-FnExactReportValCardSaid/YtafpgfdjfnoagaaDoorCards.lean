/-
  DERIVED. GIVEN WITH THE SEED: THE CARDS: each row of YtafpgfdjfnoagaaDoorRows.lean that lists a variable, with what it lists TIED to the program's text (the seventh form; the later family's looks); each row that meets fmt, with fmt's text TOLD by the authors' own Lean function (tested against real Go, not proved from fmt's source: count such statements apart). THE CARD IS WHAT COUNTS. Prove the row's statement (the work); the ties are given (YtafpgfdjfnoagaaDoorTie.lean); close each card by the builder's one call (the guide's Derived/Test/ToyasCard.lean, 'card_holds'). Laid BY PROGRAM, IN A SANDBOX (cutbox-door.mjs). By AI agents, Wed Nov 11 2026. No macro, syntax, notation, axiom, sorry.
-/
import Derived.Test.YtafpgfdjfnoagaaDoorRows
import GoSem.ClaimSeven
namespace Go.Proofs.YtafpgfdjfnoagaaDoor
namespace Rows

/-- THE TIED CARD OF 'laws.FnExactReportVal'. -/
def fnExactReportValCard : Claim7 := { stood := { row := fnExactReportValRow, standIns := [], harness := (true, "0a6c6b6fd841adea851a0b70da9d199c5f4a154044cc2cff1c376171801936ab"), looks := false }, kinds := [], alts := [], laidByText := true, laidKinds := [.data, .data, .data], laidTests := true, laidLooks := .later }
def FnExactReportValCardSaid : Prop := Claim7.holds Tryd.pinned (.plain (OpenSpec.ofChange fnExactReportValSpec)) fnExactReportValCard

/-- THE SECOND FORM's CARD OF 'laws.FnExactReportVal'. -/
def fnExactReportValUptoCard : Claim7 := { stood := { row := fnExactReportValUptoRow, standIns := [], harness := (true, "0a6c6b6fd841adea851a0b70da9d199c5f4a154044cc2cff1c376171801936ab"), looks := false }, kinds := [], alts := [], laidByText := true, laidKinds := [.data, .data, .data], laidTests := true, laidLooks := .later }
def FnExactReportValUptoCardSaid : Prop := Claim7.holds Tryd.pinned (.plain (OpenSpec.upto fnExactReportValSpec)) fnExactReportValUptoCard
end Rows
end Go.Proofs.YtafpgfdjfnoagaaDoor
