/-
  DERIVED. GIVEN WITH THE SEED: THE CARDS: each row of YtldbfcdfogojfaaGreatDoorRows.lean that lists a variable, with what it lists TIED to the program's text (the seventh form; the later family's looks); each row that meets fmt, with fmt's text TOLD by the authors' own Lean function (tested against real Go, not proved from fmt's source: count such statements apart). THE CARD IS WHAT COUNTS. Prove the row's statement (the work); the ties are given (YtldbfcdfogojfaaGreatDoorTie.lean); close each card by the builder's one call (the guide's Derived/Test/ToyasCard.lean, 'card_holds'). Laid BY PROGRAM, IN A SANDBOX (cutbox-door.mjs). By AI agents, Wed Nov 11 2026. No macro, syntax, notation, axiom, sorry.
-/
import Derived.Test.YtldbfcdfogojfaaGreatDoorRows
import GoSem.ClaimSeven
namespace Go.Proofs.YtldbfcdfogojfaaGreatDoor
namespace Rows

/-- THE TIED CARD OF 'laws.FnExactEngineTop'. -/
def fnExactEngineTopCard : Claim7 := { stood := { row := fnExactEngineTopRow, standIns := [], harness := (true, "b2298d636e7a49051c83dcf0bf3b7087261909aac68fed56d768e5c62c6ee055"), looks := true }, kinds := [], alts := [], laidByText := true, laidKinds := [.data, .data, .data, .sentinel, .sentinel, .data, .data, .data], laidTests := true, laidLooks := .later }
def FnExactEngineTopCardSaid : Prop := Claim7.holds Tryz.pinned (.plain (OpenSpec.ofChange fnExactEngineTopSpec)) fnExactEngineTopCard

/-- THE SECOND FORM's CARD OF 'laws.FnExactEngineTop'. -/
def fnExactEngineTopUptoCard : Claim7 := { stood := { row := fnExactEngineTopUptoRow, standIns := [], harness := (true, "b2298d636e7a49051c83dcf0bf3b7087261909aac68fed56d768e5c62c6ee055"), looks := true }, kinds := [], alts := [], laidByText := true, laidKinds := [.data, .data, .data, .sentinel, .sentinel, .data, .data, .data], laidTests := true, laidLooks := .later }
def FnExactEngineTopUptoCardSaid : Prop := Claim7.holds Tryz.pinned (.plain (OpenSpec.upto fnExactEngineTopSpec)) fnExactEngineTopUptoCard
end Rows
end Go.Proofs.YtldbfcdfogojfaaGreatDoor
