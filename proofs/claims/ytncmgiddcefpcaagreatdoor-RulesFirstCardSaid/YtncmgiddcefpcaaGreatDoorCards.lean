/-
  DERIVED. GIVEN WITH THE SEED: THE CARDS: each row of YtncmgiddcefpcaaGreatDoorRows.lean that lists a variable, with what it lists TIED to the program's text (the seventh form; the later family's looks); each row that meets fmt, with fmt's text TOLD by the authors' own Lean function (tested against real Go, not proved from fmt's source: count such statements apart). THE CARD IS WHAT COUNTS. Prove the row's statement (the work); the ties are given (YtncmgiddcefpcaaGreatDoorTie.lean); close each card by the builder's one call (the guide's Derived/Test/ToyasCard.lean, 'card_holds'). Laid BY PROGRAM, IN A SANDBOX (cutbox-door.mjs). By AI agents, Wed Nov 11 2026. No macro, syntax, notation, axiom, sorry.
-/
import Derived.Test.YtncmgiddcefpcaaGreatDoorRows
import GoSem.ClaimSeven
namespace Go.Proofs.YtncmgiddcefpcaaGreatDoor
namespace Rows

/-- THE TIED CARD OF 'concentriclaw8.WalkRoot'. -/
def walkRootCard : Claim7 := { stood := { row := walkRootRow, standIns := [], harness := (true, "e273f5272d88c497d37e9d766c9a4909ddf1804e3d7dd54ce4e691371479e93c"), looks := false }, kinds := [], alts := [], laidByText := true, laidKinds := [.data, .pinned], laidTests := true, laidLooks := .later }
def WalkRootCardSaid : Prop := Claim7.holds Tryz.pinned (.plain (OpenSpec.ofChange walkRootSpec)) walkRootCard

/-- THE TIED CARD OF 'concentriclaw8.WalkWalks'. -/
def walkWalksCard : Claim7 := { stood := { row := walkWalksRow, standIns := [], harness := (true, "e273f5272d88c497d37e9d766c9a4909ddf1804e3d7dd54ce4e691371479e93c"), looks := false }, kinds := [], alts := [], laidByText := true, laidKinds := [.data, .pinned], laidTests := true, laidLooks := .later }
def WalkWalksCardSaid : Prop := Claim7.holds Tryz.pinned (.plain (OpenSpec.ofChange walkWalksSpec)) walkWalksCard

/-- THE TIED CARD OF 'concentriclaw8.WalkSteps'. -/
def walkStepsCard : Claim7 := { stood := { row := walkStepsRow, standIns := [], harness := (true, "e273f5272d88c497d37e9d766c9a4909ddf1804e3d7dd54ce4e691371479e93c"), looks := false }, kinds := [], alts := [], laidByText := true, laidKinds := [.data, .pinned], laidTests := true, laidLooks := .later }
def WalkStepsCardSaid : Prop := Claim7.holds Tryz.pinned (.plain (OpenSpec.ofChange walkStepsSpec)) walkStepsCard

/-- THE TIED CARD OF 'concentriclaw24.JudgeNow'. -/
def judgeNowCard : Claim7 := { stood := { row := judgeNowRow, standIns := [], harness := (true, "e273f5272d88c497d37e9d766c9a4909ddf1804e3d7dd54ce4e691371479e93c"), looks := false }, kinds := [], alts := [], laidByText := true, laidKinds := [.data, .pinned], laidTests := true, laidLooks := .later }
def JudgeNowCardSaid : Prop := Claim7.holds Tryz.pinned (.plain (OpenSpec.ofChange judgeNowSpec)) judgeNowCard

/-- THE TIED CARD OF 'concentriclaw24.JudgeFine'. -/
def judgeFineCard : Claim7 := { stood := { row := judgeFineRow, standIns := [], harness := (true, "e273f5272d88c497d37e9d766c9a4909ddf1804e3d7dd54ce4e691371479e93c"), looks := false }, kinds := [], alts := [], laidByText := true, laidKinds := [.data, .pinned], laidTests := true, laidLooks := .later }
def JudgeFineCardSaid : Prop := Claim7.holds Tryz.pinned (.plain (OpenSpec.ofChange judgeFineSpec)) judgeFineCard

/-- THE TIED CARD OF 'concentriclaw24.JudgeParts'. -/
def judgePartsCard : Claim7 := { stood := { row := judgePartsRow, standIns := [], harness := (true, "e273f5272d88c497d37e9d766c9a4909ddf1804e3d7dd54ce4e691371479e93c"), looks := false }, kinds := [], alts := [], laidByText := true, laidKinds := [.data, .pinned], laidTests := true, laidLooks := .later }
def JudgePartsCardSaid : Prop := Claim7.holds Tryz.pinned (.plain (OpenSpec.ofChange judgePartsSpec)) judgePartsCard

/-- THE TIED CARD OF 'concentriclaw14.RulesFind'. -/
def rulesFindCard : Claim7 := { stood := { row := rulesFindRow, standIns := [], harness := (true, "e273f5272d88c497d37e9d766c9a4909ddf1804e3d7dd54ce4e691371479e93c"), looks := false }, kinds := [], alts := [], laidByText := true, laidKinds := [.data, .pinned], laidTests := true, laidLooks := .later }
def RulesFindCardSaid : Prop := Claim7.holds Tryz.pinned (.plain (OpenSpec.ofChange rulesFindSpec)) rulesFindCard

/-- THE TIED CARD OF 'concentriclaw14.RulesFirst'. -/
def rulesFirstCard : Claim7 := { stood := { row := rulesFirstRow, standIns := [], harness := (true, "e273f5272d88c497d37e9d766c9a4909ddf1804e3d7dd54ce4e691371479e93c"), looks := false }, kinds := [], alts := [], laidByText := true, laidKinds := [.data, .pinned], laidTests := true, laidLooks := .later }
def RulesFirstCardSaid : Prop := Claim7.holds Tryz.pinned (.plain (OpenSpec.ofChange rulesFirstSpec)) rulesFirstCard

/-- THE SECOND FORM's CARD OF 'concentriclaw8.WalkRoot'. -/
def walkRootUptoCard : Claim7 := { stood := { row := walkRootUptoRow, standIns := [], harness := (true, "e273f5272d88c497d37e9d766c9a4909ddf1804e3d7dd54ce4e691371479e93c"), looks := false }, kinds := [], alts := [], laidByText := true, laidKinds := [.data, .pinned], laidTests := true, laidLooks := .later }
def WalkRootUptoCardSaid : Prop := Claim7.holds Tryz.pinned (.plain (OpenSpec.upto walkRootSpec)) walkRootUptoCard

/-- THE SECOND FORM's CARD OF 'concentriclaw8.WalkWalks'. -/
def walkWalksUptoCard : Claim7 := { stood := { row := walkWalksUptoRow, standIns := [], harness := (true, "e273f5272d88c497d37e9d766c9a4909ddf1804e3d7dd54ce4e691371479e93c"), looks := false }, kinds := [], alts := [], laidByText := true, laidKinds := [.data, .pinned], laidTests := true, laidLooks := .later }
def WalkWalksUptoCardSaid : Prop := Claim7.holds Tryz.pinned (.plain (OpenSpec.upto walkWalksSpec)) walkWalksUptoCard

/-- THE SECOND FORM's CARD OF 'concentriclaw8.WalkSteps'. -/
def walkStepsUptoCard : Claim7 := { stood := { row := walkStepsUptoRow, standIns := [], harness := (true, "e273f5272d88c497d37e9d766c9a4909ddf1804e3d7dd54ce4e691371479e93c"), looks := false }, kinds := [], alts := [], laidByText := true, laidKinds := [.data, .pinned], laidTests := true, laidLooks := .later }
def WalkStepsUptoCardSaid : Prop := Claim7.holds Tryz.pinned (.plain (OpenSpec.upto walkStepsSpec)) walkStepsUptoCard

/-- THE SECOND FORM's CARD OF 'concentriclaw24.JudgeNow'. -/
def judgeNowUptoCard : Claim7 := { stood := { row := judgeNowUptoRow, standIns := [], harness := (true, "e273f5272d88c497d37e9d766c9a4909ddf1804e3d7dd54ce4e691371479e93c"), looks := false }, kinds := [], alts := [], laidByText := true, laidKinds := [.data, .pinned], laidTests := true, laidLooks := .later }
def JudgeNowUptoCardSaid : Prop := Claim7.holds Tryz.pinned (.plain (OpenSpec.upto judgeNowSpec)) judgeNowUptoCard

/-- THE SECOND FORM's CARD OF 'concentriclaw24.JudgeFine'. -/
def judgeFineUptoCard : Claim7 := { stood := { row := judgeFineUptoRow, standIns := [], harness := (true, "e273f5272d88c497d37e9d766c9a4909ddf1804e3d7dd54ce4e691371479e93c"), looks := false }, kinds := [], alts := [], laidByText := true, laidKinds := [.data, .pinned], laidTests := true, laidLooks := .later }
def JudgeFineUptoCardSaid : Prop := Claim7.holds Tryz.pinned (.plain (OpenSpec.upto judgeFineSpec)) judgeFineUptoCard

/-- THE SECOND FORM's CARD OF 'concentriclaw24.JudgeParts'. -/
def judgePartsUptoCard : Claim7 := { stood := { row := judgePartsUptoRow, standIns := [], harness := (true, "e273f5272d88c497d37e9d766c9a4909ddf1804e3d7dd54ce4e691371479e93c"), looks := false }, kinds := [], alts := [], laidByText := true, laidKinds := [.data, .pinned], laidTests := true, laidLooks := .later }
def JudgePartsUptoCardSaid : Prop := Claim7.holds Tryz.pinned (.plain (OpenSpec.upto judgePartsSpec)) judgePartsUptoCard

/-- THE SECOND FORM's CARD OF 'concentriclaw14.RulesFind'. -/
def rulesFindUptoCard : Claim7 := { stood := { row := rulesFindUptoRow, standIns := [], harness := (true, "e273f5272d88c497d37e9d766c9a4909ddf1804e3d7dd54ce4e691371479e93c"), looks := false }, kinds := [], alts := [], laidByText := true, laidKinds := [.data, .pinned], laidTests := true, laidLooks := .later }
def RulesFindUptoCardSaid : Prop := Claim7.holds Tryz.pinned (.plain (OpenSpec.upto rulesFindSpec)) rulesFindUptoCard

/-- THE SECOND FORM's CARD OF 'concentriclaw14.RulesFirst'. -/
def rulesFirstUptoCard : Claim7 := { stood := { row := rulesFirstUptoRow, standIns := [], harness := (true, "e273f5272d88c497d37e9d766c9a4909ddf1804e3d7dd54ce4e691371479e93c"), looks := false }, kinds := [], alts := [], laidByText := true, laidKinds := [.data, .pinned], laidTests := true, laidLooks := .later }
def RulesFirstUptoCardSaid : Prop := Claim7.holds Tryz.pinned (.plain (OpenSpec.upto rulesFirstSpec)) rulesFirstUptoCard
end Rows
end Go.Proofs.YtncmgiddcefpcaaGreatDoor
