/-
  DERIVED. GIVEN WITH THE SEED: THE CARDS: each row of YtlfldfkfojehiaaGreatDoorRows.lean that lists a variable, with what it lists TIED to the program's text (the seventh form; the later family's looks); each row that meets fmt, with fmt's text TOLD by the authors' own Lean function (tested against real Go, not proved from fmt's source: count such statements apart). THE CARD IS WHAT COUNTS. Prove the row's statement (the work); the ties are given (YtlfldfkfojehiaaGreatDoorTie.lean); close each card by the builder's one call (the guide's Derived/Test/ToyasCard.lean, 'card_holds'). Laid BY PROGRAM, IN A SANDBOX (cutbox-door.mjs). By AI agents, Wed Nov 11 2026. No macro, syntax, notation, axiom, sorry.
-/
import Derived.Test.YtlfldfkfojehiaaGreatDoorRows
import GoSem.ClaimSeven
namespace Go.Proofs.YtlfldfkfojehiaaGreatDoor
namespace Rows

/-- THE TIED CARD OF 'concentriclaw21.PlaceKnown'. -/
def placeKnownCard : Claim7 := { stood := { row := placeKnownRow, standIns := [], harness := (true, "df137ce5aa0dd618198fff66d63ea77ae454b174ea6ff86cde9a6764728a3be7"), looks := false }, kinds := [], alts := [], laidByText := true, laidKinds := [.data, .pinned], laidTests := true, laidLooks := .later }
def PlaceKnownCardSaid : Prop := Claim7.holds Tryz.pinned (.plain (OpenSpec.ofChange placeKnownSpec)) placeKnownCard

/-- THE SECOND FORM's CARD OF 'concentriclaw21.PlaceKnown'. -/
def placeKnownUptoCard : Claim7 := { stood := { row := placeKnownUptoRow, standIns := [], harness := (true, "df137ce5aa0dd618198fff66d63ea77ae454b174ea6ff86cde9a6764728a3be7"), looks := false }, kinds := [], alts := [], laidByText := true, laidKinds := [.data, .pinned], laidTests := true, laidLooks := .later }
def PlaceKnownUptoCardSaid : Prop := Claim7.holds Tryz.pinned (.plain (OpenSpec.upto placeKnownSpec)) placeKnownUptoCard
end Rows
end Go.Proofs.YtlfldfkfojehiaaGreatDoor
