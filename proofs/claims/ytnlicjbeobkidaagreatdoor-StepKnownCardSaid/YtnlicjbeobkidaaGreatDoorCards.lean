/-
  DERIVED. GIVEN WITH THE SEED: THE CARDS: each row of YtnlicjbeobkidaaGreatDoorRows.lean that lists a variable, with what it lists TIED to the program's text (the seventh form; the later family's looks); each row that meets fmt, with fmt's text TOLD by the authors' own Lean function (tested against real Go, not proved from fmt's source: count such statements apart). THE CARD IS WHAT COUNTS. Prove the row's statement (the work); the ties are given (YtnlicjbeobkidaaGreatDoorTie.lean); close each card by the builder's one call (the guide's Derived/Test/ToyasCard.lean, 'card_holds'). Laid BY PROGRAM, IN A SANDBOX (cutbox-door.mjs). By AI agents, Wed Nov 11 2026. No macro, syntax, notation, axiom, sorry.
-/
import Derived.Test.YtnlicjbeobkidaaGreatDoorRows
import GoSem.ClaimSeven
namespace Go.Proofs.YtnlicjbeobkidaaGreatDoor
namespace Rows

/-- THE TIED CARD OF 'concentriclaw22.StepKnown'. -/
def stepKnownCard : Claim7 := { stood := { row := stepKnownRow, standIns := [], harness := (true, "25f4e539a9b2e3794c78c6f4ac72775a66b71286ce15adc5c38e8df8001b9493"), looks := false }, kinds := [], alts := [], laidByText := true, laidKinds := [.data, .pinned], laidTests := true, laidLooks := .later }
def StepKnownCardSaid : Prop := Claim7.holds Tryz.pinned (.plain (OpenSpec.ofChange stepKnownSpec)) stepKnownCard

/-- THE SECOND FORM's CARD OF 'concentriclaw22.StepKnown'. -/
def stepKnownUptoCard : Claim7 := { stood := { row := stepKnownUptoRow, standIns := [], harness := (true, "25f4e539a9b2e3794c78c6f4ac72775a66b71286ce15adc5c38e8df8001b9493"), looks := false }, kinds := [], alts := [], laidByText := true, laidKinds := [.data, .pinned], laidTests := true, laidLooks := .later }
def StepKnownUptoCardSaid : Prop := Claim7.holds Tryz.pinned (.plain (OpenSpec.upto stepKnownSpec)) stepKnownUptoCard
end Rows
end Go.Proofs.YtnlicjbeobkidaaGreatDoor
