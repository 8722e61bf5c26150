/-
  DERIVED. GIVEN WITH THE SEED: THE CARDS: each row of YtooajghcoijkaaaGreatDoorRows.lean that lists a variable, with what it lists TIED to the program's text (the seventh form; the later family's looks); each row that meets fmt, with fmt's text TOLD by the authors' own Lean function (tested against real Go, not proved from fmt's source: count such statements apart). THE CARD IS WHAT COUNTS. Prove the row's statement (the work); the ties are given (YtooajghcoijkaaaGreatDoorTie.lean); close each card by the builder's one call (the guide's Derived/Test/ToyasCard.lean, 'card_holds'). Laid BY PROGRAM, IN A SANDBOX (cutbox-door.mjs). By AI agents, Wed Nov 11 2026. No macro, syntax, notation, axiom, sorry.
-/
import Derived.Test.YtooajghcoijkaaaGreatDoorRows
import GoSem.ClaimSeven
namespace Go.Proofs.YtooajghcoijkaaaGreatDoor
namespace Rows

/-- THE TIED CARD OF 'laws.FnExactEngineSteps'. -/
def fnExactEngineStepsCard : Claim7 := { stood := { row := fnExactEngineStepsRow, standIns := [], harness := (true, "55956d1f155cc7195b9f31c81cb504538310efd51427c496ec42be7105ba61dc"), looks := true }, kinds := [], alts := [], laidByText := true, laidKinds := [.data, .data, .data, .sentinel, .sentinel, .data, .data, .data], laidTests := true, laidLooks := .later }
def FnExactEngineStepsCardSaid : Prop := Claim7.holds Tryz.pinned (.plain (OpenSpec.ofChange fnExactEngineStepsSpec)) fnExactEngineStepsCard

/-- THE TIED CARD OF 'laws.FnExactHuntTry'. -/
def fnExactHuntTryCard : Claim7 := { stood := { row := fnExactHuntTryRow, standIns := [], harness := (true, "55956d1f155cc7195b9f31c81cb504538310efd51427c496ec42be7105ba61dc"), looks := true }, kinds := [], alts := [], laidByText := true, laidKinds := [.data, .data, .data, .sentinel, .sentinel, .data, .data, .data], laidTests := true, laidLooks := .later }
def FnExactHuntTryCardSaid : Prop := Claim7.holds Tryz.pinned (.plain (OpenSpec.ofChange fnExactHuntTrySpec)) fnExactHuntTryCard

/-- THE TIED CARD OF 'laws.FnEngineSteps'. -/
def fnEngineStepsCard : Claim7 := { stood := { row := fnEngineStepsRow, standIns := [], harness := (true, "55956d1f155cc7195b9f31c81cb504538310efd51427c496ec42be7105ba61dc"), looks := true }, kinds := [], alts := [], laidByText := true, laidKinds := [.data, .data, .data, .sentinel, .sentinel, .data, .data, .data], laidTests := true, laidLooks := .later }
def FnEngineStepsCardSaid : Prop := Claim7.holds Tryz.pinned (.plain (OpenSpec.ofChange fnEngineStepsSpec)) fnEngineStepsCard

/-- THE TIED CARD OF 'laws.FnHuntTries'. -/
def fnHuntTriesCard : Claim7 := { stood := { row := fnHuntTriesRow, standIns := [], harness := (true, "55956d1f155cc7195b9f31c81cb504538310efd51427c496ec42be7105ba61dc"), looks := true }, kinds := [], alts := [], laidByText := true, laidKinds := [.data, .data, .data, .sentinel, .sentinel, .data, .data, .data], laidTests := true, laidLooks := .later }
def FnHuntTriesCardSaid : Prop := Claim7.holds Tryz.pinned (.plain (OpenSpec.ofChange fnHuntTriesSpec)) fnHuntTriesCard

/-- THE SECOND FORM's CARD OF 'laws.FnExactEngineSteps'. -/
def fnExactEngineStepsUptoCard : Claim7 := { stood := { row := fnExactEngineStepsUptoRow, standIns := [], harness := (true, "55956d1f155cc7195b9f31c81cb504538310efd51427c496ec42be7105ba61dc"), looks := true }, kinds := [], alts := [], laidByText := true, laidKinds := [.data, .data, .data, .sentinel, .sentinel, .data, .data, .data], laidTests := true, laidLooks := .later }
def FnExactEngineStepsUptoCardSaid : Prop := Claim7.holds Tryz.pinned (.plain (OpenSpec.upto fnExactEngineStepsSpec)) fnExactEngineStepsUptoCard

/-- THE SECOND FORM's CARD OF 'laws.FnExactHuntTry'. -/
def fnExactHuntTryUptoCard : Claim7 := { stood := { row := fnExactHuntTryUptoRow, standIns := [], harness := (true, "55956d1f155cc7195b9f31c81cb504538310efd51427c496ec42be7105ba61dc"), looks := true }, kinds := [], alts := [], laidByText := true, laidKinds := [.data, .data, .data, .sentinel, .sentinel, .data, .data, .data], laidTests := true, laidLooks := .later }
def FnExactHuntTryUptoCardSaid : Prop := Claim7.holds Tryz.pinned (.plain (OpenSpec.upto fnExactHuntTrySpec)) fnExactHuntTryUptoCard

/-- THE SECOND FORM's CARD OF 'laws.FnEngineSteps'. -/
def fnEngineStepsUptoCard : Claim7 := { stood := { row := fnEngineStepsUptoRow, standIns := [], harness := (true, "55956d1f155cc7195b9f31c81cb504538310efd51427c496ec42be7105ba61dc"), looks := true }, kinds := [], alts := [], laidByText := true, laidKinds := [.data, .data, .data, .sentinel, .sentinel, .data, .data, .data], laidTests := true, laidLooks := .later }
def FnEngineStepsUptoCardSaid : Prop := Claim7.holds Tryz.pinned (.plain (OpenSpec.upto fnEngineStepsSpec)) fnEngineStepsUptoCard

/-- THE SECOND FORM's CARD OF 'laws.FnHuntTries'. -/
def fnHuntTriesUptoCard : Claim7 := { stood := { row := fnHuntTriesUptoRow, standIns := [], harness := (true, "55956d1f155cc7195b9f31c81cb504538310efd51427c496ec42be7105ba61dc"), looks := true }, kinds := [], alts := [], laidByText := true, laidKinds := [.data, .data, .data, .sentinel, .sentinel, .data, .data, .data], laidTests := true, laidLooks := .later }
def FnHuntTriesUptoCardSaid : Prop := Claim7.holds Tryz.pinned (.plain (OpenSpec.upto fnHuntTriesSpec)) fnHuntTriesUptoCard
end Rows
end Go.Proofs.YtooajghcoijkaaaGreatDoor
