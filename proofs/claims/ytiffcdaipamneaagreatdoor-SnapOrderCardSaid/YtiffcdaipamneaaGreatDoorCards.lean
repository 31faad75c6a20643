/-
  DERIVED. GIVEN WITH THE SEED: THE CARDS: each row of YtiffcdaipamneaaGreatDoorRows.lean that lists a variable, with what it lists TIED to the program's text (the seventh form; the later family's looks); each row that meets fmt, with fmt's text TOLD by the authors' own Lean function (tested against real Go, not proved from fmt's source: count such statements apart). THE CARD IS WHAT COUNTS. Prove the row's statement (the work); the ties are given (YtiffcdaipamneaaGreatDoorTie.lean); close each card by the builder's one call (the guide's Derived/Test/ToyasCard.lean, 'card_holds'). Laid BY PROGRAM, IN A SANDBOX (cutbox-door.mjs). By AI agents, Wed Nov 11 2026. No macro, syntax, notation, axiom, sorry.
-/
import Derived.Test.YtiffcdaipamneaaGreatDoorRows
import GoSem.ClaimSeven
namespace Go.Proofs.YtiffcdaipamneaaGreatDoor
namespace Rows

/-- THE TIED CARD OF 'concentriclaw20.SnapOrder'. -/
def snapOrderCard : Claim7 := { stood := { row := snapOrderRow, standIns := [], harness := (true, "9f91f17f9adf19c5666e55dbe2af3ef5a1f8d7824c27afc615cdcddcb7c8ee33"), looks := false }, kinds := [], alts := [], laidByText := true, laidKinds := [.data, .pinned], laidTests := true, laidLooks := .later }
def SnapOrderCardSaid : Prop := Claim7.holds Tryz.pinned (.plain (OpenSpec.ofChange snapOrderSpec)) snapOrderCard

/-- THE SECOND FORM's CARD OF 'concentriclaw20.SnapOrder'. -/
def snapOrderUptoCard : Claim7 := { stood := { row := snapOrderUptoRow, standIns := [], harness := (true, "9f91f17f9adf19c5666e55dbe2af3ef5a1f8d7824c27afc615cdcddcb7c8ee33"), looks := false }, kinds := [], alts := [], laidByText := true, laidKinds := [.data, .pinned], laidTests := true, laidLooks := .later }
def SnapOrderUptoCardSaid : Prop := Claim7.holds Tryz.pinned (.plain (OpenSpec.upto snapOrderSpec)) snapOrderUptoCard
end Rows
end Go.Proofs.YtiffcdaipamneaaGreatDoor
