/-
  DERIVED. GIVEN WITH THE SEED: THE CARDS: each row of YtnkfjalhibdjcaaGreatDoorRows.lean that lists a variable, with what it lists TIED to the program's text (the seventh form; the later family's looks); each row that meets fmt, with fmt's text TOLD by the authors' own Lean function (tested against real Go, not proved from fmt's source: count such statements apart). THE CARD IS WHAT COUNTS. Prove the row's statement (the work); the ties are given (YtnkfjalhibdjcaaGreatDoorTie.lean); close each card by the builder's one call (the guide's Derived/Test/ToyasCard.lean, 'card_holds'). Laid BY PROGRAM, IN A SANDBOX (cutbox-door.mjs). By AI agents, Wed Nov 11 2026. No macro, syntax, notation, axiom, sorry.
-/
import Derived.Test.YtnkfjalhibdjcaaGreatDoorRows
import GoSem.ClaimSeven
namespace Go.Proofs.YtnkfjalhibdjcaaGreatDoor
namespace Rows

/-- THE TIED CARD OF 'concentriclaw23.WorldErase'. -/
def worldEraseCard : Claim7 := { stood := { row := worldEraseRow, standIns := [], harness := (true, "02a6fa087fdf223748944943d3345d53090a62c4acdeb043b9723accd422348a"), looks := false }, kinds := [], alts := [], laidByText := true, laidKinds := [.data, .pinned], laidTests := true, laidLooks := .later }
def WorldEraseCardSaid : Prop := Claim7.holds Tryz.pinned (.plain (OpenSpec.ofChange worldEraseSpec)) worldEraseCard

/-- THE SECOND FORM's CARD OF 'concentriclaw23.WorldErase'. -/
def worldEraseUptoCard : Claim7 := { stood := { row := worldEraseUptoRow, standIns := [], harness := (true, "02a6fa087fdf223748944943d3345d53090a62c4acdeb043b9723accd422348a"), looks := false }, kinds := [], alts := [], laidByText := true, laidKinds := [.data, .pinned], laidTests := true, laidLooks := .later }
def WorldEraseUptoCardSaid : Prop := Claim7.holds Tryz.pinned (.plain (OpenSpec.upto worldEraseSpec)) worldEraseUptoCard
end Rows
end Go.Proofs.YtnkfjalhibdjcaaGreatDoor
