/-
  DERIVED. GIVEN WITH THE SEED: THE CARDS: each row of YtpijcnlnncnomaaGreatDoorRows.lean that lists a variable, with what it lists TIED to the program's text (the seventh form; the later family's looks); each row that meets fmt, with fmt's text TOLD by the authors' own Lean function (tested against real Go, not proved from fmt's source: count such statements apart). THE CARD IS WHAT COUNTS. Prove the row's statement (the work); the ties are given (YtpijcnlnncnomaaGreatDoorTie.lean); close each card by the builder's one call (the guide's Derived/Test/ToyasCard.lean, 'card_holds'). Laid BY PROGRAM, IN A SANDBOX (cutbox-door.mjs). By AI agents, Wed Nov 11 2026. No macro, syntax, notation, axiom, sorry.
-/
import Derived.Test.YtpijcnlnncnomaaGreatDoorRows
import GoSem.ClaimSeven
namespace Go.Proofs.YtpijcnlnncnomaaGreatDoor
namespace Rows

/-- THE TIED CARD OF 'concentriclaw23.WorldKnown'. -/
def worldKnownCard : Claim7 := { stood := { row := worldKnownRow, standIns := [], harness := (true, "788255314046b434ee125284ed708c5d17740fc7be13a7301bd40925f3705aef"), looks := false }, kinds := [], alts := [], laidByText := true, laidKinds := [.data, .pinned], laidTests := true, laidLooks := .later }
def WorldKnownCardSaid : Prop := Claim7.holds Tryz.pinned (.plain (OpenSpec.ofChange worldKnownSpec)) worldKnownCard

/-- THE SECOND FORM's CARD OF 'concentriclaw23.WorldKnown'. -/
def worldKnownUptoCard : Claim7 := { stood := { row := worldKnownUptoRow, standIns := [], harness := (true, "788255314046b434ee125284ed708c5d17740fc7be13a7301bd40925f3705aef"), looks := false }, kinds := [], alts := [], laidByText := true, laidKinds := [.data, .pinned], laidTests := true, laidLooks := .later }
def WorldKnownUptoCardSaid : Prop := Claim7.holds Tryz.pinned (.plain (OpenSpec.upto worldKnownSpec)) worldKnownUptoCard
end Rows
end Go.Proofs.YtpijcnlnncnomaaGreatDoor
