/-
  DERIVED. GIVEN WITH THE SEED: THE CARDS: each row of YtggkkglpfeofpaaGreatDoorRows.lean that lists a variable, with what it lists TIED to the program's text (the seventh form; the later family's looks); each row that meets fmt, with fmt's text TOLD by the authors' own Lean function (tested against real Go, not proved from fmt's source: count such statements apart). THE CARD IS WHAT COUNTS. Prove the row's statement (the work); the ties are given (YtggkkglpfeofpaaGreatDoorTie.lean); close each card by the builder's one call (the guide's Derived/Test/ToyasCard.lean, 'card_holds'). Laid BY PROGRAM, IN A SANDBOX (cutbox-door.mjs). By AI agents, Wed Nov 11 2026. No macro, syntax, notation, axiom, sorry.
-/
import Derived.Test.YtggkkglpfeofpaaGreatDoorRows
import GoSem.ClaimSeven
namespace Go.Proofs.YtggkkglpfeofpaaGreatDoor
namespace Rows

/-- THE TIED CARD OF 'concentriclaw19.ProcKnown'. -/
def procKnownCard : Claim7 := { stood := { row := procKnownRow, standIns := [], harness := (true, "c9d4b6a4ebebac2df8b4cec84f002d1c73cf39aa14d64443d1cef520f6c20e70"), looks := false }, kinds := [], alts := [], laidByText := true, laidKinds := [.data, .pinned], laidTests := true, laidLooks := .later }
def ProcKnownCardSaid : Prop := Claim7.holds Tryz.pinned (.plain (OpenSpec.ofChange procKnownSpec)) procKnownCard

/-- THE SECOND FORM's CARD OF 'concentriclaw19.ProcKnown'. -/
def procKnownUptoCard : Claim7 := { stood := { row := procKnownUptoRow, standIns := [], harness := (true, "c9d4b6a4ebebac2df8b4cec84f002d1c73cf39aa14d64443d1cef520f6c20e70"), looks := false }, kinds := [], alts := [], laidByText := true, laidKinds := [.data, .pinned], laidTests := true, laidLooks := .later }
def ProcKnownUptoCardSaid : Prop := Claim7.holds Tryz.pinned (.plain (OpenSpec.upto procKnownSpec)) procKnownUptoCard
end Rows
end Go.Proofs.YtggkkglpfeofpaaGreatDoor
