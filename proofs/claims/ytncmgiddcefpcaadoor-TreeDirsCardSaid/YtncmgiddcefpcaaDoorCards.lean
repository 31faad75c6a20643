/-
  DERIVED. GIVEN WITH THE SEED: THE CARDS: each row of YtncmgiddcefpcaaDoorRows.lean that lists a variable, with what it lists TIED to the program's text (the seventh form; the later family's looks); each row that meets fmt, with fmt's text TOLD by the authors' own Lean function (tested against real Go, not proved from fmt's source: count such statements apart). THE CARD IS WHAT COUNTS. Prove the row's statement (the work); the ties are given (YtncmgiddcefpcaaDoorTie.lean); close each card by the builder's one call (the guide's Derived/Test/ToyasCard.lean, 'card_holds'). Laid BY PROGRAM, IN A SANDBOX (cutbox-door.mjs). By AI agents, Wed Nov 11 2026. No macro, syntax, notation, axiom, sorry.
-/
import Derived.Test.YtncmgiddcefpcaaDoorRows
import GoSem.ClaimSeven
namespace Go.Proofs.YtncmgiddcefpcaaDoor
namespace Rows

/-- THE TIED CARD OF 'concentriclaw3.NamesSplit'. -/
def namesSplitCard : Claim7 := { stood := { row := namesSplitRow, standIns := [], harness := (true, "d816627b2ae0baf26f24d7b8848545fff235d33b422c6ccc3e0906bae9e4138d"), looks := false }, kinds := [], alts := [], laidByText := true, laidKinds := [.data, .pinned], laidTests := true, laidLooks := .later }
def NamesSplitCardSaid : Prop := Claim7.holds Tryd.pinned (.plain (OpenSpec.ofChange namesSplitSpec)) namesSplitCard

/-- THE TIED CARD OF 'concentriclaw3.NamesJoin'. -/
def namesJoinCard : Claim7 := { stood := { row := namesJoinRow, standIns := [], harness := (true, "d816627b2ae0baf26f24d7b8848545fff235d33b422c6ccc3e0906bae9e4138d"), looks := false }, kinds := [], alts := [], laidByText := true, laidKinds := [.data, .pinned], laidTests := true, laidLooks := .later }
def NamesJoinCardSaid : Prop := Claim7.holds Tryd.pinned (.plain (OpenSpec.ofChange namesJoinSpec)) namesJoinCard

/-- THE TIED CARD OF 'concentriclaw3.NamesKnown'. -/
def namesKnownCard : Claim7 := { stood := { row := namesKnownRow, standIns := [], harness := (true, "d816627b2ae0baf26f24d7b8848545fff235d33b422c6ccc3e0906bae9e4138d"), looks := false }, kinds := [], alts := [], laidByText := true, laidKinds := [.data, .pinned], laidTests := true, laidLooks := .later }
def NamesKnownCardSaid : Prop := Claim7.holds Tryd.pinned (.plain (OpenSpec.ofChange namesKnownSpec)) namesKnownCard

/-- THE TIED CARD OF 'concentriclaw3.NamesParent'. -/
def namesParentCard : Claim7 := { stood := { row := namesParentRow, standIns := [], harness := (true, "d816627b2ae0baf26f24d7b8848545fff235d33b422c6ccc3e0906bae9e4138d"), looks := false }, kinds := [], alts := [], laidByText := true, laidKinds := [.data, .pinned], laidTests := true, laidLooks := .later }
def NamesParentCardSaid : Prop := Claim7.holds Tryd.pinned (.plain (OpenSpec.ofChange namesParentSpec)) namesParentCard

/-- THE TIED CARD OF 'concentriclaw3.NamesSigns'. -/
def namesSignsCard : Claim7 := { stood := { row := namesSignsRow, standIns := [], harness := (true, "d816627b2ae0baf26f24d7b8848545fff235d33b422c6ccc3e0906bae9e4138d"), looks := false }, kinds := [], alts := [], laidByText := true, laidKinds := [.data, .pinned], laidTests := true, laidLooks := .later }
def NamesSignsCardSaid : Prop := Claim7.holds Tryd.pinned (.plain (OpenSpec.ofChange namesSignsSpec)) namesSignsCard

/-- THE TIED CARD OF 'concentriclaw7.TreeAccess'. -/
def treeAccessCard : Claim7 := { stood := { row := treeAccessRow, standIns := [], harness := (true, "d816627b2ae0baf26f24d7b8848545fff235d33b422c6ccc3e0906bae9e4138d"), looks := false }, kinds := [], alts := [], laidByText := true, laidKinds := [.data, .pinned], laidTests := true, laidLooks := .later }
def TreeAccessCardSaid : Prop := Claim7.holds Tryd.pinned (.plain (OpenSpec.ofChange treeAccessSpec)) treeAccessCard

/-- THE TIED CARD OF 'concentriclaw8.WalkLinks'. -/
def walkLinksCard : Claim7 := { stood := { row := walkLinksRow, standIns := [], harness := (true, "d816627b2ae0baf26f24d7b8848545fff235d33b422c6ccc3e0906bae9e4138d"), looks := false }, kinds := [], alts := [], laidByText := true, laidKinds := [.data, .pinned], laidTests := true, laidLooks := .later }
def WalkLinksCardSaid : Prop := Claim7.holds Tryd.pinned (.plain (OpenSpec.ofChange walkLinksSpec)) walkLinksCard

/-- THE TIED CARD OF 'concentriclaw8.WalkKnown'. -/
def walkKnownCard : Claim7 := { stood := { row := walkKnownRow, standIns := [], harness := (true, "d816627b2ae0baf26f24d7b8848545fff235d33b422c6ccc3e0906bae9e4138d"), looks := false }, kinds := [], alts := [], laidByText := true, laidKinds := [.data, .pinned], laidTests := true, laidLooks := .later }
def WalkKnownCardSaid : Prop := Claim7.holds Tryd.pinned (.plain (OpenSpec.ofChange walkKnownSpec)) walkKnownCard

/-- THE TIED CARD OF 'concentriclaw24.JudgeKnown'. -/
def judgeKnownCard : Claim7 := { stood := { row := judgeKnownRow, standIns := [], harness := (true, "d816627b2ae0baf26f24d7b8848545fff235d33b422c6ccc3e0906bae9e4138d"), looks := false }, kinds := [], alts := [], laidByText := true, laidKinds := [.data, .pinned], laidTests := true, laidLooks := .later }
def JudgeKnownCardSaid : Prop := Claim7.holds Tryd.pinned (.plain (OpenSpec.ofChange judgeKnownSpec)) judgeKnownCard

/-- THE TIED CARD OF 'concentriclaw14.RulesKnown'. -/
def rulesKnownCard : Claim7 := { stood := { row := rulesKnownRow, standIns := [], harness := (true, "d816627b2ae0baf26f24d7b8848545fff235d33b422c6ccc3e0906bae9e4138d"), looks := false }, kinds := [], alts := [], laidByText := true, laidKinds := [.data, .pinned], laidTests := true, laidLooks := .later }
def RulesKnownCardSaid : Prop := Claim7.holds Tryd.pinned (.plain (OpenSpec.ofChange rulesKnownSpec)) rulesKnownCard

/-- THE TIED CARD OF 'concentriclaw14.RulesKinds'. -/
def rulesKindsCard : Claim7 := { stood := { row := rulesKindsRow, standIns := [], harness := (true, "d816627b2ae0baf26f24d7b8848545fff235d33b422c6ccc3e0906bae9e4138d"), looks := false }, kinds := [], alts := [], laidByText := true, laidKinds := [.data, .pinned], laidTests := true, laidLooks := .later }
def RulesKindsCardSaid : Prop := Claim7.holds Tryd.pinned (.plain (OpenSpec.ofChange rulesKindsSpec)) rulesKindsCard

/-- THE TIED CARD OF 'concentriclaw11.SdwOf'. -/
def sdwOfCard : Claim7 := { stood := { row := sdwOfRow, standIns := [], harness := (true, "d816627b2ae0baf26f24d7b8848545fff235d33b422c6ccc3e0906bae9e4138d"), looks := false }, kinds := [], alts := [], laidByText := true, laidKinds := [.data, .pinned], laidTests := true, laidLooks := .later }
def SdwOfCardSaid : Prop := Claim7.holds Tryd.pinned (.plain (OpenSpec.ofChange sdwOfSpec)) sdwOfCard

/-- THE TIED CARD OF 'concentriclaw11.SdwKnown'. -/
def sdwKnownCard : Claim7 := { stood := { row := sdwKnownRow, standIns := [], harness := (true, "d816627b2ae0baf26f24d7b8848545fff235d33b422c6ccc3e0906bae9e4138d"), looks := false }, kinds := [], alts := [], laidByText := true, laidKinds := [.data, .pinned], laidTests := true, laidLooks := .later }
def SdwKnownCardSaid : Prop := Claim7.holds Tryd.pinned (.plain (OpenSpec.ofChange sdwKnownSpec)) sdwKnownCard

/-- THE TIED CARD OF 'concentriclaw11.SdwRings'. -/
def sdwRingsCard : Claim7 := { stood := { row := sdwRingsRow, standIns := [], harness := (true, "d816627b2ae0baf26f24d7b8848545fff235d33b422c6ccc3e0906bae9e4138d"), looks := false }, kinds := [], alts := [], laidByText := true, laidKinds := [.data, .pinned], laidTests := true, laidLooks := .later }
def SdwRingsCardSaid : Prop := Claim7.holds Tryd.pinned (.plain (OpenSpec.ofChange sdwRingsSpec)) sdwRingsCard

/-- THE TIED CARD OF 'concentriclaw11.SdwNow'. -/
def sdwNowCard : Claim7 := { stood := { row := sdwNowRow, standIns := [], harness := (true, "d816627b2ae0baf26f24d7b8848545fff235d33b422c6ccc3e0906bae9e4138d"), looks := false }, kinds := [], alts := [], laidByText := true, laidKinds := [.data, .pinned], laidTests := true, laidLooks := .later }
def SdwNowCardSaid : Prop := Claim7.holds Tryd.pinned (.plain (OpenSpec.ofChange sdwNowSpec)) sdwNowCard

/-- THE TIED CARD OF 'concentriclaw7.TreeDirs'. -/
def treeDirsCard : Claim7 := { stood := { row := treeDirsRow, standIns := [], harness := (true, "d816627b2ae0baf26f24d7b8848545fff235d33b422c6ccc3e0906bae9e4138d"), looks := false }, kinds := [], alts := [], laidByText := true, laidKinds := [.data, .pinned], laidTests := true, laidLooks := .later }
def TreeDirsCardSaid : Prop := Claim7.holds Tryd.pinned (.plain (OpenSpec.ofChange treeDirsSpec)) treeDirsCard

/-- THE TIED CARD OF 'concentriclaw7.TreeHands'. -/
def treeHandsCard : Claim7 := { stood := { row := treeHandsRow, standIns := [], harness := (true, "d816627b2ae0baf26f24d7b8848545fff235d33b422c6ccc3e0906bae9e4138d"), looks := false }, kinds := [], alts := [], laidByText := true, laidKinds := [.data, .pinned], laidTests := true, laidLooks := .later }
def TreeHandsCardSaid : Prop := Claim7.holds Tryd.pinned (.plain (OpenSpec.ofChange treeHandsSpec)) treeHandsCard

/-- THE TIED CARD OF 'concentriclaw7.TreeNames'. -/
def treeNamesCard : Claim7 := { stood := { row := treeNamesRow, standIns := [], harness := (true, "d816627b2ae0baf26f24d7b8848545fff235d33b422c6ccc3e0906bae9e4138d"), looks := false }, kinds := [], alts := [], laidByText := true, laidKinds := [.data, .pinned], laidTests := true, laidLooks := .later }
def TreeNamesCardSaid : Prop := Claim7.holds Tryd.pinned (.plain (OpenSpec.ofChange treeNamesSpec)) treeNamesCard

/-- THE TIED CARD OF 'concentriclaw7.TreeKnown'. -/
def treeKnownCard : Claim7 := { stood := { row := treeKnownRow, standIns := [], harness := (true, "d816627b2ae0baf26f24d7b8848545fff235d33b422c6ccc3e0906bae9e4138d"), looks := false }, kinds := [], alts := [], laidByText := true, laidKinds := [.data, .pinned], laidTests := true, laidLooks := .later }
def TreeKnownCardSaid : Prop := Claim7.holds Tryd.pinned (.plain (OpenSpec.ofChange treeKnownSpec)) treeKnownCard

/-- THE SECOND FORM's CARD OF 'concentriclaw3.NamesSplit'. -/
def namesSplitUptoCard : Claim7 := { stood := { row := namesSplitUptoRow, standIns := [], harness := (true, "d816627b2ae0baf26f24d7b8848545fff235d33b422c6ccc3e0906bae9e4138d"), looks := false }, kinds := [], alts := [], laidByText := true, laidKinds := [.data, .pinned], laidTests := true, laidLooks := .later }
def NamesSplitUptoCardSaid : Prop := Claim7.holds Tryd.pinned (.plain (OpenSpec.upto namesSplitSpec)) namesSplitUptoCard

/-- THE SECOND FORM's CARD OF 'concentriclaw3.NamesJoin'. -/
def namesJoinUptoCard : Claim7 := { stood := { row := namesJoinUptoRow, standIns := [], harness := (true, "d816627b2ae0baf26f24d7b8848545fff235d33b422c6ccc3e0906bae9e4138d"), looks := false }, kinds := [], alts := [], laidByText := true, laidKinds := [.data, .pinned], laidTests := true, laidLooks := .later }
def NamesJoinUptoCardSaid : Prop := Claim7.holds Tryd.pinned (.plain (OpenSpec.upto namesJoinSpec)) namesJoinUptoCard

/-- THE SECOND FORM's CARD OF 'concentriclaw3.NamesKnown'. -/
def namesKnownUptoCard : Claim7 := { stood := { row := namesKnownUptoRow, standIns := [], harness := (true, "d816627b2ae0baf26f24d7b8848545fff235d33b422c6ccc3e0906bae9e4138d"), looks := false }, kinds := [], alts := [], laidByText := true, laidKinds := [.data, .pinned], laidTests := true, laidLooks := .later }
def NamesKnownUptoCardSaid : Prop := Claim7.holds Tryd.pinned (.plain (OpenSpec.upto namesKnownSpec)) namesKnownUptoCard

/-- THE SECOND FORM's CARD OF 'concentriclaw3.NamesParent'. -/
def namesParentUptoCard : Claim7 := { stood := { row := namesParentUptoRow, standIns := [], harness := (true, "d816627b2ae0baf26f24d7b8848545fff235d33b422c6ccc3e0906bae9e4138d"), looks := false }, kinds := [], alts := [], laidByText := true, laidKinds := [.data, .pinned], laidTests := true, laidLooks := .later }
def NamesParentUptoCardSaid : Prop := Claim7.holds Tryd.pinned (.plain (OpenSpec.upto namesParentSpec)) namesParentUptoCard

/-- THE SECOND FORM's CARD OF 'concentriclaw3.NamesSigns'. -/
def namesSignsUptoCard : Claim7 := { stood := { row := namesSignsUptoRow, standIns := [], harness := (true, "d816627b2ae0baf26f24d7b8848545fff235d33b422c6ccc3e0906bae9e4138d"), looks := false }, kinds := [], alts := [], laidByText := true, laidKinds := [.data, .pinned], laidTests := true, laidLooks := .later }
def NamesSignsUptoCardSaid : Prop := Claim7.holds Tryd.pinned (.plain (OpenSpec.upto namesSignsSpec)) namesSignsUptoCard

/-- THE SECOND FORM's CARD OF 'concentriclaw7.TreeAccess'. -/
def treeAccessUptoCard : Claim7 := { stood := { row := treeAccessUptoRow, standIns := [], harness := (true, "d816627b2ae0baf26f24d7b8848545fff235d33b422c6ccc3e0906bae9e4138d"), looks := false }, kinds := [], alts := [], laidByText := true, laidKinds := [.data, .pinned], laidTests := true, laidLooks := .later }
def TreeAccessUptoCardSaid : Prop := Claim7.holds Tryd.pinned (.plain (OpenSpec.upto treeAccessSpec)) treeAccessUptoCard

/-- THE SECOND FORM's CARD OF 'concentriclaw8.WalkLinks'. -/
def walkLinksUptoCard : Claim7 := { stood := { row := walkLinksUptoRow, standIns := [], harness := (true, "d816627b2ae0baf26f24d7b8848545fff235d33b422c6ccc3e0906bae9e4138d"), looks := false }, kinds := [], alts := [], laidByText := true, laidKinds := [.data, .pinned], laidTests := true, laidLooks := .later }
def WalkLinksUptoCardSaid : Prop := Claim7.holds Tryd.pinned (.plain (OpenSpec.upto walkLinksSpec)) walkLinksUptoCard

/-- THE SECOND FORM's CARD OF 'concentriclaw8.WalkKnown'. -/
def walkKnownUptoCard : Claim7 := { stood := { row := walkKnownUptoRow, standIns := [], harness := (true, "d816627b2ae0baf26f24d7b8848545fff235d33b422c6ccc3e0906bae9e4138d"), looks := false }, kinds := [], alts := [], laidByText := true, laidKinds := [.data, .pinned], laidTests := true, laidLooks := .later }
def WalkKnownUptoCardSaid : Prop := Claim7.holds Tryd.pinned (.plain (OpenSpec.upto walkKnownSpec)) walkKnownUptoCard

/-- THE SECOND FORM's CARD OF 'concentriclaw24.JudgeKnown'. -/
def judgeKnownUptoCard : Claim7 := { stood := { row := judgeKnownUptoRow, standIns := [], harness := (true, "d816627b2ae0baf26f24d7b8848545fff235d33b422c6ccc3e0906bae9e4138d"), looks := false }, kinds := [], alts := [], laidByText := true, laidKinds := [.data, .pinned], laidTests := true, laidLooks := .later }
def JudgeKnownUptoCardSaid : Prop := Claim7.holds Tryd.pinned (.plain (OpenSpec.upto judgeKnownSpec)) judgeKnownUptoCard

/-- THE SECOND FORM's CARD OF 'concentriclaw14.RulesKnown'. -/
def rulesKnownUptoCard : Claim7 := { stood := { row := rulesKnownUptoRow, standIns := [], harness := (true, "d816627b2ae0baf26f24d7b8848545fff235d33b422c6ccc3e0906bae9e4138d"), looks := false }, kinds := [], alts := [], laidByText := true, laidKinds := [.data, .pinned], laidTests := true, laidLooks := .later }
def RulesKnownUptoCardSaid : Prop := Claim7.holds Tryd.pinned (.plain (OpenSpec.upto rulesKnownSpec)) rulesKnownUptoCard

/-- THE SECOND FORM's CARD OF 'concentriclaw14.RulesKinds'. -/
def rulesKindsUptoCard : Claim7 := { stood := { row := rulesKindsUptoRow, standIns := [], harness := (true, "d816627b2ae0baf26f24d7b8848545fff235d33b422c6ccc3e0906bae9e4138d"), looks := false }, kinds := [], alts := [], laidByText := true, laidKinds := [.data, .pinned], laidTests := true, laidLooks := .later }
def RulesKindsUptoCardSaid : Prop := Claim7.holds Tryd.pinned (.plain (OpenSpec.upto rulesKindsSpec)) rulesKindsUptoCard

/-- THE SECOND FORM's CARD OF 'concentriclaw11.SdwOf'. -/
def sdwOfUptoCard : Claim7 := { stood := { row := sdwOfUptoRow, standIns := [], harness := (true, "d816627b2ae0baf26f24d7b8848545fff235d33b422c6ccc3e0906bae9e4138d"), looks := false }, kinds := [], alts := [], laidByText := true, laidKinds := [.data, .pinned], laidTests := true, laidLooks := .later }
def SdwOfUptoCardSaid : Prop := Claim7.holds Tryd.pinned (.plain (OpenSpec.upto sdwOfSpec)) sdwOfUptoCard

/-- THE SECOND FORM's CARD OF 'concentriclaw11.SdwKnown'. -/
def sdwKnownUptoCard : Claim7 := { stood := { row := sdwKnownUptoRow, standIns := [], harness := (true, "d816627b2ae0baf26f24d7b8848545fff235d33b422c6ccc3e0906bae9e4138d"), looks := false }, kinds := [], alts := [], laidByText := true, laidKinds := [.data, .pinned], laidTests := true, laidLooks := .later }
def SdwKnownUptoCardSaid : Prop := Claim7.holds Tryd.pinned (.plain (OpenSpec.upto sdwKnownSpec)) sdwKnownUptoCard

/-- THE SECOND FORM's CARD OF 'concentriclaw11.SdwRings'. -/
def sdwRingsUptoCard : Claim7 := { stood := { row := sdwRingsUptoRow, standIns := [], harness := (true, "d816627b2ae0baf26f24d7b8848545fff235d33b422c6ccc3e0906bae9e4138d"), looks := false }, kinds := [], alts := [], laidByText := true, laidKinds := [.data, .pinned], laidTests := true, laidLooks := .later }
def SdwRingsUptoCardSaid : Prop := Claim7.holds Tryd.pinned (.plain (OpenSpec.upto sdwRingsSpec)) sdwRingsUptoCard

/-- THE SECOND FORM's CARD OF 'concentriclaw11.SdwNow'. -/
def sdwNowUptoCard : Claim7 := { stood := { row := sdwNowUptoRow, standIns := [], harness := (true, "d816627b2ae0baf26f24d7b8848545fff235d33b422c6ccc3e0906bae9e4138d"), looks := false }, kinds := [], alts := [], laidByText := true, laidKinds := [.data, .pinned], laidTests := true, laidLooks := .later }
def SdwNowUptoCardSaid : Prop := Claim7.holds Tryd.pinned (.plain (OpenSpec.upto sdwNowSpec)) sdwNowUptoCard

/-- THE SECOND FORM's CARD OF 'concentriclaw7.TreeDirs'. -/
def treeDirsUptoCard : Claim7 := { stood := { row := treeDirsUptoRow, standIns := [], harness := (true, "d816627b2ae0baf26f24d7b8848545fff235d33b422c6ccc3e0906bae9e4138d"), looks := false }, kinds := [], alts := [], laidByText := true, laidKinds := [.data, .pinned], laidTests := true, laidLooks := .later }
def TreeDirsUptoCardSaid : Prop := Claim7.holds Tryd.pinned (.plain (OpenSpec.upto treeDirsSpec)) treeDirsUptoCard

/-- THE SECOND FORM's CARD OF 'concentriclaw7.TreeHands'. -/
def treeHandsUptoCard : Claim7 := { stood := { row := treeHandsUptoRow, standIns := [], harness := (true, "d816627b2ae0baf26f24d7b8848545fff235d33b422c6ccc3e0906bae9e4138d"), looks := false }, kinds := [], alts := [], laidByText := true, laidKinds := [.data, .pinned], laidTests := true, laidLooks := .later }
def TreeHandsUptoCardSaid : Prop := Claim7.holds Tryd.pinned (.plain (OpenSpec.upto treeHandsSpec)) treeHandsUptoCard

/-- THE SECOND FORM's CARD OF 'concentriclaw7.TreeNames'. -/
def treeNamesUptoCard : Claim7 := { stood := { row := treeNamesUptoRow, standIns := [], harness := (true, "d816627b2ae0baf26f24d7b8848545fff235d33b422c6ccc3e0906bae9e4138d"), looks := false }, kinds := [], alts := [], laidByText := true, laidKinds := [.data, .pinned], laidTests := true, laidLooks := .later }
def TreeNamesUptoCardSaid : Prop := Claim7.holds Tryd.pinned (.plain (OpenSpec.upto treeNamesSpec)) treeNamesUptoCard

/-- THE SECOND FORM's CARD OF 'concentriclaw7.TreeKnown'. -/
def treeKnownUptoCard : Claim7 := { stood := { row := treeKnownUptoRow, standIns := [], harness := (true, "d816627b2ae0baf26f24d7b8848545fff235d33b422c6ccc3e0906bae9e4138d"), looks := false }, kinds := [], alts := [], laidByText := true, laidKinds := [.data, .pinned], laidTests := true, laidLooks := .later }
def TreeKnownUptoCardSaid : Prop := Claim7.holds Tryd.pinned (.plain (OpenSpec.upto treeKnownSpec)) treeKnownUptoCard
end Rows
end Go.Proofs.YtncmgiddcefpcaaDoor
