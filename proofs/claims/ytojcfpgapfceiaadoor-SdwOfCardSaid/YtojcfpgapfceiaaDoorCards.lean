/-
  DERIVED. GIVEN WITH THE SEED: THE CARDS: each row of YtojcfpgapfceiaaDoorRows.lean that lists a variable, with what it lists TIED to the program's text (the seventh form; the later family's looks); each row that meets fmt, with fmt's text TOLD by the authors' own Lean function (tested against real Go, not proved from fmt's source: count such statements apart). THE CARD IS WHAT COUNTS. Prove the row's statement (the work); the ties are given (YtojcfpgapfceiaaDoorTie.lean); close each card by the builder's one call (the guide's Derived/Test/ToyasCard.lean, 'card_holds'). Laid BY PROGRAM, IN A SANDBOX (cutbox-door.mjs). By AI agents, Wed Nov 11 2026. No macro, syntax, notation, axiom, sorry.
-/
import Derived.Test.YtojcfpgapfceiaaDoorRows
import GoSem.ClaimSeven
namespace Go.Proofs.YtojcfpgapfceiaaDoor
namespace Rows

/-- THE TIED CARD OF 'concentriclaw11.SdwOf'. -/
def sdwOfCard : Claim7 := { stood := { row := sdwOfRow, standIns := [], harness := (true, "c3c0362a352168c21ac3cd4e849fcd462d2e830e9c464cf65bf48cbd0fd8f7aa"), looks := false }, kinds := [], alts := [], laidByText := true, laidKinds := [.data, .pinned], laidTests := true, laidLooks := .later }
def SdwOfCardSaid : Prop := Claim7.holds Tryd.pinned (.plain (OpenSpec.ofChange sdwOfSpec)) sdwOfCard

/-- THE SECOND FORM's CARD OF 'concentriclaw11.SdwOf'. -/
def sdwOfUptoCard : Claim7 := { stood := { row := sdwOfUptoRow, standIns := [], harness := (true, "c3c0362a352168c21ac3cd4e849fcd462d2e830e9c464cf65bf48cbd0fd8f7aa"), looks := false }, kinds := [], alts := [], laidByText := true, laidKinds := [.data, .pinned], laidTests := true, laidLooks := .later }
def SdwOfUptoCardSaid : Prop := Claim7.holds Tryd.pinned (.plain (OpenSpec.upto sdwOfSpec)) sdwOfUptoCard
end Rows
end Go.Proofs.YtojcfpgapfceiaaDoor
