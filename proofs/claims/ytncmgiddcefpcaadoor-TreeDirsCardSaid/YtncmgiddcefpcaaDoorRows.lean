/-
  NARROWER THAN 'FOR EVERY INPUT', by the rows' own cells (each row's printed sentence says how): NamesSplit: laid · NamesJoin: laid · NamesKnown: laid · NamesParent: laid · NamesSigns: laid · TreeAccess: laid · WalkLinks: laid · WalkKnown: laid · JudgeKnown: laid · RulesKnown: laid · RulesKinds: laid · SdwOf: laid · SdwKnown: laid · SdwRings: laid · SdwNow: laid · TreeDirs: laid · TreeHands: laid · TreeNames: laid · TreeKnown: laid.
  DERIVED. THE GIVEN ROWS OF THIS SEAT. 19 by the template 'for every input the law returns true; each argument reads behind the call as it read before'; 0 by the template 'total and deterministic' (their statements: YtncmgiddcefpcaaDoorTotals.lean).
  GIVEN WITH THE SEED: the statements are not yours to turn. If you find one false, say at which input.
  Laid BY PROGRAM, IN A SANDBOX (cutbox-rows.mjs): the forced cells as the released guide's own fill.sh prints them over the translation 889be671f45081d0… (all of the seat's roots in one cut). By AI agents, Wed Nov 11 2026. No macro, syntax, notation, axiom, sorry.
-/
import Derived.Test.YtncmgiddcefpcaaDoorChecked
import GoSem.PinnedTables
import GoSem.Claim
import GoSem.ClaimJoined
import GoSem.ClaimMapViews
import Derived.JoinedTies
import Derived.KernelRfl
namespace Go.Proofs.YtncmgiddcefpcaaDoor
/- THE CELL 'sum', in the pinned program and in every row, IS THE sha256 OF THE DUMP (.gsa) THAT YtncmgiddcefpcaaDoorProg.lean LOADS. Nothing in Lean hashes anything: it is a label: what it is worth is what the hold of that sum in a sandbox is worth. -/
noncomputable def Tryd.pinned : Pinned := { name := "ytncmgiddcefpcaadoor", sum := "889be671f45081d01dbe8536fe6dff503d513c5eac9f825174e79fcfe6fdb477", checked := Tryd.checked }
namespace Rows
def none {H : Type} : Left H := { results := [], args := [] }

/- WHAT THE LISTED PACKAGE-LEVEL VARIABLES READ AS WHEN THE CALL BEGINS. Each datum BY PROGRAM (the guide's laid-datum.mjs) off the statement by which the dump's own 'gosem.cut.vars' lays the variable. In a bare row this is a premise. The card (YtncmgiddcefpcaaDoorCards.lean) ties it to the program's text. -/
def laid_unicode_utf8_acceptRanges {H : Type} : DataW H := .agg [.agg [.lit (.int .u8 128), .lit (.int .u8 191)], .agg [.lit (.int .u8 160), .lit (.int .u8 191)], .agg [.lit (.int .u8 128), .lit (.int .u8 159)], .agg [.lit (.int .u8 144), .lit (.int .u8 191)], .agg [.lit (.int .u8 128), .lit (.int .u8 143)], .agg [.lit (.int .u8 0), .lit (.int .u8 0)], .agg [.lit (.int .u8 0), .lit (.int .u8 0)], .agg [.lit (.int .u8 0), .lit (.int .u8 0)], .agg [.lit (.int .u8 0), .lit (.int .u8 0)], .agg [.lit (.int .u8 0), .lit (.int .u8 0)], .agg [.lit (.int .u8 0), .lit (.int .u8 0)], .agg [.lit (.int .u8 0), .lit (.int .u8 0)], .agg [.lit (.int .u8 0), .lit (.int .u8 0)], .agg [.lit (.int .u8 0), .lit (.int .u8 0)], .agg [.lit (.int .u8 0), .lit (.int .u8 0)], .agg [.lit (.int .u8 0), .lit (.int .u8 0)]]
/-- One of Go's own tables, pinned by name: the form's constant. -/
def laid_unicode_utf8_first : DataW Unit := Go.Pinned.utf8First

/-- 'concentriclaw3.NamesSplit': WHATEVER THE INPUT: true; the input reads as it did. -/
def namesSplitSpec : ChangeSpec := { name := "namesSplit", fn := fun _ => fun
  | [d] => { results := [.lit (.bool true)], args := [d] }
  | _ => none }
def namesSplitRow : OpenClaim := { program := "ytncmgiddcefpcaadoor", sum := "889be671f45081d01dbe8536fe6dff503d513c5eac9f825174e79fcfe6fdb477", func := "concentric/concentriclaw3.NamesSplit", spec := "namesSplit", inPlace := ["internal/bytealg.CountString", "internal/bytealg.IndexByteString", "internal/bytealg.IndexString", "internal/abi.NoEscape", "internal/bytealg.MakeNoZero"], named := ["unicode/utf8.first", "unicode/utf8.acceptRanges", "internal/bytealg.MaxLen"], plainKeys := false, apart := false, laid := [("unicode/utf8.acceptRanges", laid_unicode_utf8_acceptRanges), ("unicode/utf8.first", laid_unicode_utf8_first)] }
def NamesSplitSaid : Prop := namesSplitRow.holds Tryd.pinned (OpenSpec.ofChange namesSplitSpec)

/-- ITS FALSE NEIGHBOUR: 'it returns false'. Refute it at one input. -/
def namesSplitWrong : ChangeSpec := { name := "namesSplit", fn := fun _ => fun
  | [d] => { results := [.lit (.bool false)], args := [d] }
  | _ => none }
def NamesSplitWrongFalsely : Prop := namesSplitRow.holds Tryd.pinned (OpenSpec.ofChange namesSplitWrong)

/-- 'concentriclaw3.NamesJoin': WHATEVER THE INPUT: true; the input reads as it did. -/
def namesJoinSpec : ChangeSpec := { name := "namesJoin", fn := fun _ => fun
  | [d] => { results := [.lit (.bool true)], args := [d] }
  | _ => none }
def namesJoinRow : OpenClaim := { program := "ytncmgiddcefpcaadoor", sum := "889be671f45081d01dbe8536fe6dff503d513c5eac9f825174e79fcfe6fdb477", func := "concentric/concentriclaw3.NamesJoin", spec := "namesJoin", inPlace := ["internal/bytealg.CountString", "internal/bytealg.IndexByteString", "internal/bytealg.IndexString", "internal/abi.NoEscape", "internal/bytealg.MakeNoZero"], named := ["unicode/utf8.first", "unicode/utf8.acceptRanges", "internal/bytealg.MaxLen"], plainKeys := false, apart := false, laid := [("unicode/utf8.acceptRanges", laid_unicode_utf8_acceptRanges), ("unicode/utf8.first", laid_unicode_utf8_first)] }
def NamesJoinSaid : Prop := namesJoinRow.holds Tryd.pinned (OpenSpec.ofChange namesJoinSpec)

/-- ITS FALSE NEIGHBOUR: 'it returns false'. Refute it at one input. -/
def namesJoinWrong : ChangeSpec := { name := "namesJoin", fn := fun _ => fun
  | [d] => { results := [.lit (.bool false)], args := [d] }
  | _ => none }
def NamesJoinWrongFalsely : Prop := namesJoinRow.holds Tryd.pinned (OpenSpec.ofChange namesJoinWrong)

/-- 'concentriclaw3.NamesKnown': WHATEVER THE INPUT: true; the input reads as it did. -/
def namesKnownSpec : ChangeSpec := { name := "namesKnown", fn := fun _ => fun
  | [] => { results := [.lit (.bool true)], args := [] }
  | _ => none }
def namesKnownRow : OpenClaim := { program := "ytncmgiddcefpcaadoor", sum := "889be671f45081d01dbe8536fe6dff503d513c5eac9f825174e79fcfe6fdb477", func := "concentric/concentriclaw3.NamesKnown", spec := "namesKnown", inPlace := ["internal/bytealg.CountString", "internal/bytealg.IndexByteString", "internal/bytealg.IndexString", "internal/abi.NoEscape", "internal/bytealg.MakeNoZero"], named := ["unicode/utf8.first", "unicode/utf8.acceptRanges", "internal/bytealg.MaxLen"], plainKeys := false, apart := false, laid := [("unicode/utf8.acceptRanges", laid_unicode_utf8_acceptRanges), ("unicode/utf8.first", laid_unicode_utf8_first)] }
def NamesKnownSaid : Prop := namesKnownRow.holds Tryd.pinned (OpenSpec.ofChange namesKnownSpec)

/-- ITS FALSE NEIGHBOUR: 'it returns false'. Refute it at one input. -/
def namesKnownWrong : ChangeSpec := { name := "namesKnown", fn := fun _ => fun
  | [] => { results := [.lit (.bool false)], args := [] }
  | _ => none }
def NamesKnownWrongFalsely : Prop := namesKnownRow.holds Tryd.pinned (OpenSpec.ofChange namesKnownWrong)

/-- 'concentriclaw3.NamesParent': WHATEVER THE INPUT: true; the input reads as it did. -/
def namesParentSpec : ChangeSpec := { name := "namesParent", fn := fun _ => fun
  | [d] => { results := [.lit (.bool true)], args := [d] }
  | _ => none }
def namesParentRow : OpenClaim := { program := "ytncmgiddcefpcaadoor", sum := "889be671f45081d01dbe8536fe6dff503d513c5eac9f825174e79fcfe6fdb477", func := "concentric/concentriclaw3.NamesParent", spec := "namesParent", inPlace := ["internal/bytealg.CountString", "internal/bytealg.IndexByteString", "internal/bytealg.IndexString", "internal/abi.NoEscape", "internal/bytealg.MakeNoZero"], named := ["unicode/utf8.first", "unicode/utf8.acceptRanges", "internal/bytealg.MaxLen"], plainKeys := false, apart := false, laid := [("unicode/utf8.acceptRanges", laid_unicode_utf8_acceptRanges), ("unicode/utf8.first", laid_unicode_utf8_first)] }
def NamesParentSaid : Prop := namesParentRow.holds Tryd.pinned (OpenSpec.ofChange namesParentSpec)

/-- ITS FALSE NEIGHBOUR: 'it returns false'. Refute it at one input. -/
def namesParentWrong : ChangeSpec := { name := "namesParent", fn := fun _ => fun
  | [d] => { results := [.lit (.bool false)], args := [d] }
  | _ => none }
def NamesParentWrongFalsely : Prop := namesParentRow.holds Tryd.pinned (OpenSpec.ofChange namesParentWrong)

/-- 'concentriclaw3.NamesSigns': WHATEVER THE INPUT: true; the input reads as it did. -/
def namesSignsSpec : ChangeSpec := { name := "namesSigns", fn := fun _ => fun
  | [d1, d2, d3] => { results := [.lit (.bool true)], args := [d1, d2, d3] }
  | _ => none }
def namesSignsRow : OpenClaim := { program := "ytncmgiddcefpcaadoor", sum := "889be671f45081d01dbe8536fe6dff503d513c5eac9f825174e79fcfe6fdb477", func := "concentric/concentriclaw3.NamesSigns", spec := "namesSigns", inPlace := ["internal/bytealg.CountString", "internal/bytealg.IndexByteString", "internal/bytealg.IndexString", "internal/abi.NoEscape", "internal/bytealg.MakeNoZero"], named := ["unicode/utf8.first", "unicode/utf8.acceptRanges", "internal/bytealg.MaxLen"], plainKeys := false, apart := false, laid := [("unicode/utf8.acceptRanges", laid_unicode_utf8_acceptRanges), ("unicode/utf8.first", laid_unicode_utf8_first)] }
def NamesSignsSaid : Prop := namesSignsRow.holds Tryd.pinned (OpenSpec.ofChange namesSignsSpec)

/-- ITS FALSE NEIGHBOUR: 'it returns false'. Refute it at one input. -/
def namesSignsWrong : ChangeSpec := { name := "namesSigns", fn := fun _ => fun
  | [d1, d2, d3] => { results := [.lit (.bool false)], args := [d1, d2, d3] }
  | _ => none }
def NamesSignsWrongFalsely : Prop := namesSignsRow.holds Tryd.pinned (OpenSpec.ofChange namesSignsWrong)

/-- 'concentriclaw7.TreeAccess': WHATEVER THE INPUT: true; the input reads as it did. -/
def treeAccessSpec : ChangeSpec := { name := "treeAccess", fn := fun _ => fun
  | [d1, d2, d3] => { results := [.lit (.bool true)], args := [d1, d2, d3] }
  | _ => none }
def treeAccessRow : OpenClaim := { program := "ytncmgiddcefpcaadoor", sum := "889be671f45081d01dbe8536fe6dff503d513c5eac9f825174e79fcfe6fdb477", func := "concentric/concentriclaw7.TreeAccess", spec := "treeAccess", inPlace := ["internal/bytealg.abigen_runtime_cmpstring", "internal/bytealg.CountString", "internal/bytealg.IndexByteString", "internal/bytealg.IndexString"], named := ["unicode/utf8.first", "unicode/utf8.acceptRanges", "internal/bytealg.MaxLen"], plainKeys := false, apart := false, laid := [("unicode/utf8.acceptRanges", laid_unicode_utf8_acceptRanges), ("unicode/utf8.first", laid_unicode_utf8_first)] }
def TreeAccessSaid : Prop := treeAccessRow.holds Tryd.pinned (OpenSpec.ofChange treeAccessSpec)

/-- ITS FALSE NEIGHBOUR: 'it returns false'. Refute it at one input. -/
def treeAccessWrong : ChangeSpec := { name := "treeAccess", fn := fun _ => fun
  | [d1, d2, d3] => { results := [.lit (.bool false)], args := [d1, d2, d3] }
  | _ => none }
def TreeAccessWrongFalsely : Prop := treeAccessRow.holds Tryd.pinned (OpenSpec.ofChange treeAccessWrong)

/-- 'concentriclaw8.WalkLinks': WHATEVER THE INPUT: true; the input reads as it did. -/
def walkLinksSpec : ChangeSpec := { name := "walkLinks", fn := fun _ => fun
  | [d1, d2] => { results := [.lit (.bool true)], args := [d1, d2] }
  | _ => none }
def walkLinksRow : OpenClaim := { program := "ytncmgiddcefpcaadoor", sum := "889be671f45081d01dbe8536fe6dff503d513c5eac9f825174e79fcfe6fdb477", func := "concentric/concentriclaw8.WalkLinks", spec := "walkLinks", inPlace := ["internal/bytealg.abigen_runtime_cmpstring", "internal/bytealg.CountString", "internal/bytealg.IndexByteString", "internal/bytealg.IndexString"], named := ["unicode/utf8.first", "unicode/utf8.acceptRanges", "internal/bytealg.MaxLen"], plainKeys := false, apart := false, laid := [("unicode/utf8.acceptRanges", laid_unicode_utf8_acceptRanges), ("unicode/utf8.first", laid_unicode_utf8_first)] }
def WalkLinksSaid : Prop := walkLinksRow.holds Tryd.pinned (OpenSpec.ofChange walkLinksSpec)

/-- ITS FALSE NEIGHBOUR: 'it returns false'. Refute it at one input. -/
def walkLinksWrong : ChangeSpec := { name := "walkLinks", fn := fun _ => fun
  | [d1, d2] => { results := [.lit (.bool false)], args := [d1, d2] }
  | _ => none }
def WalkLinksWrongFalsely : Prop := walkLinksRow.holds Tryd.pinned (OpenSpec.ofChange walkLinksWrong)

/-- 'concentriclaw8.WalkKnown': WHATEVER THE INPUT: true; the input reads as it did. -/
def walkKnownSpec : ChangeSpec := { name := "walkKnown", fn := fun _ => fun
  | [] => { results := [.lit (.bool true)], args := [] }
  | _ => none }
def walkKnownRow : OpenClaim := { program := "ytncmgiddcefpcaadoor", sum := "889be671f45081d01dbe8536fe6dff503d513c5eac9f825174e79fcfe6fdb477", func := "concentric/concentriclaw8.WalkKnown", spec := "walkKnown", inPlace := ["internal/bytealg.abigen_runtime_cmpstring", "internal/bytealg.CountString", "internal/bytealg.IndexByteString", "internal/bytealg.IndexString"], named := ["unicode/utf8.first", "unicode/utf8.acceptRanges", "internal/bytealg.MaxLen"], plainKeys := false, apart := false, laid := [("unicode/utf8.acceptRanges", laid_unicode_utf8_acceptRanges), ("unicode/utf8.first", laid_unicode_utf8_first)] }
def WalkKnownSaid : Prop := walkKnownRow.holds Tryd.pinned (OpenSpec.ofChange walkKnownSpec)

/-- ITS FALSE NEIGHBOUR: 'it returns false'. Refute it at one input. -/
def walkKnownWrong : ChangeSpec := { name := "walkKnown", fn := fun _ => fun
  | [] => { results := [.lit (.bool false)], args := [] }
  | _ => none }
def WalkKnownWrongFalsely : Prop := walkKnownRow.holds Tryd.pinned (OpenSpec.ofChange walkKnownWrong)

/-- 'concentriclaw24.JudgeKnown': WHATEVER THE INPUT: true; the input reads as it did. -/
def judgeKnownSpec : ChangeSpec := { name := "judgeKnown", fn := fun _ => fun
  | [] => { results := [.lit (.bool true)], args := [] }
  | _ => none }
def judgeKnownRow : OpenClaim := { program := "ytncmgiddcefpcaadoor", sum := "889be671f45081d01dbe8536fe6dff503d513c5eac9f825174e79fcfe6fdb477", func := "concentric/concentriclaw24.JudgeKnown", spec := "judgeKnown", inPlace := ["internal/bytealg.abigen_runtime_cmpstring", "internal/bytealg.CountString", "internal/bytealg.IndexByteString", "internal/bytealg.IndexString"], unfollowed := true, recurses := true, named := ["unicode/utf8.first", "unicode/utf8.acceptRanges", "internal/bytealg.MaxLen"], plainKeys := false, apart := false, laid := [("unicode/utf8.acceptRanges", laid_unicode_utf8_acceptRanges), ("unicode/utf8.first", laid_unicode_utf8_first)] }
def JudgeKnownSaid : Prop := judgeKnownRow.holds Tryd.pinned (OpenSpec.ofChange judgeKnownSpec)

/-- ITS FALSE NEIGHBOUR: 'it returns false'. Refute it at one input. -/
def judgeKnownWrong : ChangeSpec := { name := "judgeKnown", fn := fun _ => fun
  | [] => { results := [.lit (.bool false)], args := [] }
  | _ => none }
def JudgeKnownWrongFalsely : Prop := judgeKnownRow.holds Tryd.pinned (OpenSpec.ofChange judgeKnownWrong)

/-- 'concentriclaw14.RulesKnown': WHATEVER THE INPUT: true; the input reads as it did. -/
def rulesKnownSpec : ChangeSpec := { name := "rulesKnown", fn := fun _ => fun
  | [] => { results := [.lit (.bool true)], args := [] }
  | _ => none }
def rulesKnownRow : OpenClaim := { program := "ytncmgiddcefpcaadoor", sum := "889be671f45081d01dbe8536fe6dff503d513c5eac9f825174e79fcfe6fdb477", func := "concentric/concentriclaw14.RulesKnown", spec := "rulesKnown", inPlace := ["internal/bytealg.abigen_runtime_cmpstring", "internal/bytealg.CountString", "internal/bytealg.IndexByteString", "internal/bytealg.IndexString"], named := ["unicode/utf8.first", "unicode/utf8.acceptRanges", "internal/bytealg.MaxLen"], plainKeys := false, apart := false, laid := [("unicode/utf8.acceptRanges", laid_unicode_utf8_acceptRanges), ("unicode/utf8.first", laid_unicode_utf8_first)] }
def RulesKnownSaid : Prop := rulesKnownRow.holds Tryd.pinned (OpenSpec.ofChange rulesKnownSpec)

/-- ITS FALSE NEIGHBOUR: 'it returns false'. Refute it at one input. -/
def rulesKnownWrong : ChangeSpec := { name := "rulesKnown", fn := fun _ => fun
  | [] => { results := [.lit (.bool false)], args := [] }
  | _ => none }
def RulesKnownWrongFalsely : Prop := rulesKnownRow.holds Tryd.pinned (OpenSpec.ofChange rulesKnownWrong)

/-- 'concentriclaw14.RulesKinds': WHATEVER THE INPUT: true; the input reads as it did. -/
def rulesKindsSpec : ChangeSpec := { name := "rulesKinds", fn := fun _ => fun
  | [d1, d2] => { results := [.lit (.bool true)], args := [d1, d2] }
  | _ => none }
def rulesKindsRow : OpenClaim := { program := "ytncmgiddcefpcaadoor", sum := "889be671f45081d01dbe8536fe6dff503d513c5eac9f825174e79fcfe6fdb477", func := "concentric/concentriclaw14.RulesKinds", spec := "rulesKinds", inPlace := ["internal/bytealg.abigen_runtime_cmpstring", "internal/bytealg.CountString", "internal/bytealg.IndexByteString", "internal/bytealg.IndexString"], named := ["unicode/utf8.first", "unicode/utf8.acceptRanges", "internal/bytealg.MaxLen"], plainKeys := false, apart := false, laid := [("unicode/utf8.acceptRanges", laid_unicode_utf8_acceptRanges), ("unicode/utf8.first", laid_unicode_utf8_first)] }
def RulesKindsSaid : Prop := rulesKindsRow.holds Tryd.pinned (OpenSpec.ofChange rulesKindsSpec)

/-- ITS FALSE NEIGHBOUR: 'it returns false'. Refute it at one input. -/
def rulesKindsWrong : ChangeSpec := { name := "rulesKinds", fn := fun _ => fun
  | [d1, d2] => { results := [.lit (.bool false)], args := [d1, d2] }
  | _ => none }
def RulesKindsWrongFalsely : Prop := rulesKindsRow.holds Tryd.pinned (OpenSpec.ofChange rulesKindsWrong)

/-- 'concentriclaw11.SdwOf': WHATEVER THE INPUT: true; the input reads as it did. -/
def sdwOfSpec : ChangeSpec := { name := "sdwOf", fn := fun _ => fun
  | [d1, d2, d3] => { results := [.lit (.bool true)], args := [d1, d2, d3] }
  | _ => none }
def sdwOfRow : OpenClaim := { program := "ytncmgiddcefpcaadoor", sum := "889be671f45081d01dbe8536fe6dff503d513c5eac9f825174e79fcfe6fdb477", func := "concentric/concentriclaw11.SdwOf", spec := "sdwOf", inPlace := ["internal/bytealg.abigen_runtime_cmpstring", "internal/bytealg.CountString", "internal/bytealg.IndexByteString", "internal/bytealg.IndexString"], unfollowed := true, recurses := true, named := ["unicode/utf8.first", "unicode/utf8.acceptRanges", "internal/bytealg.MaxLen"], plainKeys := false, apart := false, laid := [("unicode/utf8.acceptRanges", laid_unicode_utf8_acceptRanges), ("unicode/utf8.first", laid_unicode_utf8_first)] }
def SdwOfSaid : Prop := sdwOfRow.holds Tryd.pinned (OpenSpec.ofChange sdwOfSpec)

/-- ITS FALSE NEIGHBOUR: 'it returns false'. Refute it at one input. -/
def sdwOfWrong : ChangeSpec := { name := "sdwOf", fn := fun _ => fun
  | [d1, d2, d3] => { results := [.lit (.bool false)], args := [d1, d2, d3] }
  | _ => none }
def SdwOfWrongFalsely : Prop := sdwOfRow.holds Tryd.pinned (OpenSpec.ofChange sdwOfWrong)

/-- 'concentriclaw11.SdwKnown': WHATEVER THE INPUT: true; the input reads as it did. -/
def sdwKnownSpec : ChangeSpec := { name := "sdwKnown", fn := fun _ => fun
  | [] => { results := [.lit (.bool true)], args := [] }
  | _ => none }
def sdwKnownRow : OpenClaim := { program := "ytncmgiddcefpcaadoor", sum := "889be671f45081d01dbe8536fe6dff503d513c5eac9f825174e79fcfe6fdb477", func := "concentric/concentriclaw11.SdwKnown", spec := "sdwKnown", inPlace := ["internal/bytealg.abigen_runtime_cmpstring", "internal/bytealg.CountString", "internal/bytealg.IndexByteString", "internal/bytealg.IndexString"], named := ["unicode/utf8.first", "unicode/utf8.acceptRanges", "internal/bytealg.MaxLen"], plainKeys := false, apart := false, laid := [("unicode/utf8.acceptRanges", laid_unicode_utf8_acceptRanges), ("unicode/utf8.first", laid_unicode_utf8_first)] }
def SdwKnownSaid : Prop := sdwKnownRow.holds Tryd.pinned (OpenSpec.ofChange sdwKnownSpec)

/-- ITS FALSE NEIGHBOUR: 'it returns false'. Refute it at one input. -/
def sdwKnownWrong : ChangeSpec := { name := "sdwKnown", fn := fun _ => fun
  | [] => { results := [.lit (.bool false)], args := [] }
  | _ => none }
def SdwKnownWrongFalsely : Prop := sdwKnownRow.holds Tryd.pinned (OpenSpec.ofChange sdwKnownWrong)

/-- 'concentriclaw11.SdwRings': WHATEVER THE INPUT: true; the input reads as it did. -/
def sdwRingsSpec : ChangeSpec := { name := "sdwRings", fn := fun _ => fun
  | [d1, d2, d3] => { results := [.lit (.bool true)], args := [d1, d2, d3] }
  | _ => none }
def sdwRingsRow : OpenClaim := { program := "ytncmgiddcefpcaadoor", sum := "889be671f45081d01dbe8536fe6dff503d513c5eac9f825174e79fcfe6fdb477", func := "concentric/concentriclaw11.SdwRings", spec := "sdwRings", inPlace := ["internal/bytealg.abigen_runtime_cmpstring", "internal/bytealg.CountString", "internal/bytealg.IndexByteString", "internal/bytealg.IndexString"], named := ["unicode/utf8.first", "unicode/utf8.acceptRanges", "internal/bytealg.MaxLen"], plainKeys := false, apart := false, laid := [("unicode/utf8.acceptRanges", laid_unicode_utf8_acceptRanges), ("unicode/utf8.first", laid_unicode_utf8_first)] }
def SdwRingsSaid : Prop := sdwRingsRow.holds Tryd.pinned (OpenSpec.ofChange sdwRingsSpec)

/-- ITS FALSE NEIGHBOUR: 'it returns false'. Refute it at one input. -/
def sdwRingsWrong : ChangeSpec := { name := "sdwRings", fn := fun _ => fun
  | [d1, d2, d3] => { results := [.lit (.bool false)], args := [d1, d2, d3] }
  | _ => none }
def SdwRingsWrongFalsely : Prop := sdwRingsRow.holds Tryd.pinned (OpenSpec.ofChange sdwRingsWrong)

/-- 'concentriclaw11.SdwNow': WHATEVER THE INPUT: true; the input reads as it did. -/
def sdwNowSpec : ChangeSpec := { name := "sdwNow", fn := fun _ => fun
  | [d1, d2, d3] => { results := [.lit (.bool true)], args := [d1, d2, d3] }
  | _ => none }
def sdwNowRow : OpenClaim := { program := "ytncmgiddcefpcaadoor", sum := "889be671f45081d01dbe8536fe6dff503d513c5eac9f825174e79fcfe6fdb477", func := "concentric/concentriclaw11.SdwNow", spec := "sdwNow", inPlace := ["internal/bytealg.abigen_runtime_cmpstring", "internal/bytealg.CountString", "internal/bytealg.IndexByteString", "internal/bytealg.IndexString"], named := ["unicode/utf8.first", "unicode/utf8.acceptRanges", "internal/bytealg.MaxLen"], plainKeys := false, apart := false, laid := [("unicode/utf8.acceptRanges", laid_unicode_utf8_acceptRanges), ("unicode/utf8.first", laid_unicode_utf8_first)] }
def SdwNowSaid : Prop := sdwNowRow.holds Tryd.pinned (OpenSpec.ofChange sdwNowSpec)

/-- ITS FALSE NEIGHBOUR: 'it returns false'. Refute it at one input. -/
def sdwNowWrong : ChangeSpec := { name := "sdwNow", fn := fun _ => fun
  | [d1, d2, d3] => { results := [.lit (.bool false)], args := [d1, d2, d3] }
  | _ => none }
def SdwNowWrongFalsely : Prop := sdwNowRow.holds Tryd.pinned (OpenSpec.ofChange sdwNowWrong)

/-- 'concentriclaw7.TreeDirs': WHATEVER THE INPUT: true; the input reads as it did. -/
def treeDirsSpec : ChangeSpec := { name := "treeDirs", fn := fun _ => fun
  | [d] => { results := [.lit (.bool true)], args := [d] }
  | _ => none }
def treeDirsRow : OpenClaim := { program := "ytncmgiddcefpcaadoor", sum := "889be671f45081d01dbe8536fe6dff503d513c5eac9f825174e79fcfe6fdb477", func := "concentric/concentriclaw7.TreeDirs", spec := "treeDirs", inPlace := ["internal/bytealg.abigen_runtime_cmpstring", "internal/bytealg.CountString", "internal/bytealg.IndexByteString", "internal/bytealg.IndexString"], unfollowed := true, recurses := true, named := ["unicode/utf8.first", "unicode/utf8.acceptRanges", "internal/bytealg.MaxLen"], plainKeys := false, apart := false, laid := [("unicode/utf8.acceptRanges", laid_unicode_utf8_acceptRanges), ("unicode/utf8.first", laid_unicode_utf8_first)] }
def TreeDirsSaid : Prop := treeDirsRow.holds Tryd.pinned (OpenSpec.ofChange treeDirsSpec)

/-- ITS FALSE NEIGHBOUR: 'it returns false'. Refute it at one input. -/
def treeDirsWrong : ChangeSpec := { name := "treeDirs", fn := fun _ => fun
  | [d] => { results := [.lit (.bool false)], args := [d] }
  | _ => none }
def TreeDirsWrongFalsely : Prop := treeDirsRow.holds Tryd.pinned (OpenSpec.ofChange treeDirsWrong)

/-- 'concentriclaw7.TreeHands': WHATEVER THE INPUT: true; the input reads as it did. -/
def treeHandsSpec : ChangeSpec := { name := "treeHands", fn := fun _ => fun
  | [d] => { results := [.lit (.bool true)], args := [d] }
  | _ => none }
def treeHandsRow : OpenClaim := { program := "ytncmgiddcefpcaadoor", sum := "889be671f45081d01dbe8536fe6dff503d513c5eac9f825174e79fcfe6fdb477", func := "concentric/concentriclaw7.TreeHands", spec := "treeHands", inPlace := ["internal/bytealg.abigen_runtime_cmpstring", "internal/bytealg.CountString", "internal/bytealg.IndexByteString", "internal/bytealg.IndexString"], unfollowed := true, recurses := true, named := ["unicode/utf8.first", "unicode/utf8.acceptRanges", "internal/bytealg.MaxLen"], plainKeys := false, apart := false, laid := [("unicode/utf8.acceptRanges", laid_unicode_utf8_acceptRanges), ("unicode/utf8.first", laid_unicode_utf8_first)] }
def TreeHandsSaid : Prop := treeHandsRow.holds Tryd.pinned (OpenSpec.ofChange treeHandsSpec)

/-- ITS FALSE NEIGHBOUR: 'it returns false'. Refute it at one input. -/
def treeHandsWrong : ChangeSpec := { name := "treeHands", fn := fun _ => fun
  | [d] => { results := [.lit (.bool false)], args := [d] }
  | _ => none }
def TreeHandsWrongFalsely : Prop := treeHandsRow.holds Tryd.pinned (OpenSpec.ofChange treeHandsWrong)

/-- 'concentriclaw7.TreeNames': WHATEVER THE INPUT: true; the input reads as it did. -/
def treeNamesSpec : ChangeSpec := { name := "treeNames", fn := fun _ => fun
  | [d1, d2] => { results := [.lit (.bool true)], args := [d1, d2] }
  | _ => none }
def treeNamesRow : OpenClaim := { program := "ytncmgiddcefpcaadoor", sum := "889be671f45081d01dbe8536fe6dff503d513c5eac9f825174e79fcfe6fdb477", func := "concentric/concentriclaw7.TreeNames", spec := "treeNames", inPlace := ["internal/bytealg.abigen_runtime_cmpstring", "internal/bytealg.CountString", "internal/bytealg.IndexByteString", "internal/bytealg.IndexString"], unfollowed := true, recurses := true, named := ["unicode/utf8.first", "unicode/utf8.acceptRanges", "internal/bytealg.MaxLen"], plainKeys := false, apart := false, laid := [("unicode/utf8.acceptRanges", laid_unicode_utf8_acceptRanges), ("unicode/utf8.first", laid_unicode_utf8_first)] }
def TreeNamesSaid : Prop := treeNamesRow.holds Tryd.pinned (OpenSpec.ofChange treeNamesSpec)

/-- ITS FALSE NEIGHBOUR: 'it returns false'. Refute it at one input. -/
def treeNamesWrong : ChangeSpec := { name := "treeNames", fn := fun _ => fun
  | [d1, d2] => { results := [.lit (.bool false)], args := [d1, d2] }
  | _ => none }
def TreeNamesWrongFalsely : Prop := treeNamesRow.holds Tryd.pinned (OpenSpec.ofChange treeNamesWrong)

/-- 'concentriclaw7.TreeKnown': WHATEVER THE INPUT: true; the input reads as it did. -/
def treeKnownSpec : ChangeSpec := { name := "treeKnown", fn := fun _ => fun
  | [] => { results := [.lit (.bool true)], args := [] }
  | _ => none }
def treeKnownRow : OpenClaim := { program := "ytncmgiddcefpcaadoor", sum := "889be671f45081d01dbe8536fe6dff503d513c5eac9f825174e79fcfe6fdb477", func := "concentric/concentriclaw7.TreeKnown", spec := "treeKnown", inPlace := ["internal/bytealg.abigen_runtime_cmpstring", "internal/bytealg.CountString", "internal/bytealg.IndexByteString", "internal/bytealg.IndexString"], unfollowed := true, recurses := true, named := ["unicode/utf8.first", "unicode/utf8.acceptRanges", "internal/bytealg.MaxLen"], plainKeys := false, apart := false, laid := [("unicode/utf8.acceptRanges", laid_unicode_utf8_acceptRanges), ("unicode/utf8.first", laid_unicode_utf8_first)] }
def TreeKnownSaid : Prop := treeKnownRow.holds Tryd.pinned (OpenSpec.ofChange treeKnownSpec)

/-- ITS FALSE NEIGHBOUR: 'it returns false'. Refute it at one input. -/
def treeKnownWrong : ChangeSpec := { name := "treeKnown", fn := fun _ => fun
  | [] => { results := [.lit (.bool false)], args := [] }
  | _ => none }
def TreeKnownWrongFalsely : Prop := treeKnownRow.holds Tryd.pinned (OpenSpec.ofChange treeKnownWrong)

/- THE SECOND FORM. 'bulk': how many values and letters a reading holds, each counted each time it is reached (what is shared counts as often as it is met; a slice's spare places count too). A statement '..UptoSaid' is the law's where the arguments, and the package variables that the reading takes, are together of bulk at most 1048576: NARROWER than '..Said'. Prove '..Said' where nothing that the law and all that it calls make is longer than what came in: it says more and counts as full. Else prove '..UptoSaid'. A law counts once. -/
mutual
def uptoBulk {H : Type} : DataW H → Nat
  | .lit (.string bytes) => bytes.length + 1
  | .lit _ => 1
  | .nil => 1
  | .ptr d => uptoBulk d + 1
  | .slice elems spare => uptoBulkAll elems + uptoBulkAll spare + 1
  | .agg parts => uptoBulkAll parts + 1
  | .iface _ d => uptoBulk d + 1
  | .map entries => uptoBulkEntries entries + 1
  | .held _ => 1
def uptoBulkAll {H : Type} : List (DataW H) → Nat
  | [] => 0
  | d :: r => uptoBulk d + uptoBulkAll r
def uptoBulkEntries {H : Type} : List (Lit × DataW H) → Nat
  | [] => 0
  | x :: r => uptoBulkEntry x + uptoBulkEntries r
def uptoBulkEntry {H : Type} : Lit × DataW H → Nat
  | (.string bytes, d) => bytes.length + uptoBulk d + 1
  | (_, d) => uptoBulk d + 1
 end
def uptoSmall : (H : Type) → List (DataW H) → Bool := fun _ ds => decide (uptoBulkAll ds ≤ 1048576)
def OpenSpec.upto (s : _root_.Go.ChangeSpec) : _root_.Go.OpenSpec := { _root_.Go.OpenSpec.ofChange s with cond := some uptoSmall }

/-- 'concentriclaw3.NamesSplit', WHERE WHAT IT READS IS OF BULK AT MOST 1048576: true; the input reads as it did. -/
def namesSplitUptoRow : OpenClaim := { program := "ytncmgiddcefpcaadoor", sum := "889be671f45081d01dbe8536fe6dff503d513c5eac9f825174e79fcfe6fdb477", func := "concentric/concentriclaw3.NamesSplit", spec := "namesSplit", inPlace := ["internal/bytealg.CountString", "internal/bytealg.IndexByteString", "internal/bytealg.IndexString", "internal/abi.NoEscape", "internal/bytealg.MakeNoZero"], named := ["unicode/utf8.first", "unicode/utf8.acceptRanges", "internal/bytealg.MaxLen"], plainKeys := false, apart := false, laid := [("unicode/utf8.acceptRanges", laid_unicode_utf8_acceptRanges), ("unicode/utf8.first", laid_unicode_utf8_first)], narrowed := true }
def NamesSplitUptoSaid : Prop := namesSplitUptoRow.holds Tryd.pinned (OpenSpec.upto namesSplitSpec)

/-- 'concentriclaw3.NamesJoin', WHERE WHAT IT READS IS OF BULK AT MOST 1048576: true; the input reads as it did. -/
def namesJoinUptoRow : OpenClaim := { program := "ytncmgiddcefpcaadoor", sum := "889be671f45081d01dbe8536fe6dff503d513c5eac9f825174e79fcfe6fdb477", func := "concentric/concentriclaw3.NamesJoin", spec := "namesJoin", inPlace := ["internal/bytealg.CountString", "internal/bytealg.IndexByteString", "internal/bytealg.IndexString", "internal/abi.NoEscape", "internal/bytealg.MakeNoZero"], named := ["unicode/utf8.first", "unicode/utf8.acceptRanges", "internal/bytealg.MaxLen"], plainKeys := false, apart := false, laid := [("unicode/utf8.acceptRanges", laid_unicode_utf8_acceptRanges), ("unicode/utf8.first", laid_unicode_utf8_first)], narrowed := true }
def NamesJoinUptoSaid : Prop := namesJoinUptoRow.holds Tryd.pinned (OpenSpec.upto namesJoinSpec)

/-- 'concentriclaw3.NamesKnown', WHERE WHAT IT READS IS OF BULK AT MOST 1048576: true; the input reads as it did. -/
def namesKnownUptoRow : OpenClaim := { program := "ytncmgiddcefpcaadoor", sum := "889be671f45081d01dbe8536fe6dff503d513c5eac9f825174e79fcfe6fdb477", func := "concentric/concentriclaw3.NamesKnown", spec := "namesKnown", inPlace := ["internal/bytealg.CountString", "internal/bytealg.IndexByteString", "internal/bytealg.IndexString", "internal/abi.NoEscape", "internal/bytealg.MakeNoZero"], named := ["unicode/utf8.first", "unicode/utf8.acceptRanges", "internal/bytealg.MaxLen"], plainKeys := false, apart := false, laid := [("unicode/utf8.acceptRanges", laid_unicode_utf8_acceptRanges), ("unicode/utf8.first", laid_unicode_utf8_first)], narrowed := true }
def NamesKnownUptoSaid : Prop := namesKnownUptoRow.holds Tryd.pinned (OpenSpec.upto namesKnownSpec)

/-- 'concentriclaw3.NamesParent', WHERE WHAT IT READS IS OF BULK AT MOST 1048576: true; the input reads as it did. -/
def namesParentUptoRow : OpenClaim := { program := "ytncmgiddcefpcaadoor", sum := "889be671f45081d01dbe8536fe6dff503d513c5eac9f825174e79fcfe6fdb477", func := "concentric/concentriclaw3.NamesParent", spec := "namesParent", inPlace := ["internal/bytealg.CountString", "internal/bytealg.IndexByteString", "internal/bytealg.IndexString", "internal/abi.NoEscape", "internal/bytealg.MakeNoZero"], named := ["unicode/utf8.first", "unicode/utf8.acceptRanges", "internal/bytealg.MaxLen"], plainKeys := false, apart := false, laid := [("unicode/utf8.acceptRanges", laid_unicode_utf8_acceptRanges), ("unicode/utf8.first", laid_unicode_utf8_first)], narrowed := true }
def NamesParentUptoSaid : Prop := namesParentUptoRow.holds Tryd.pinned (OpenSpec.upto namesParentSpec)

/-- 'concentriclaw3.NamesSigns', WHERE WHAT IT READS IS OF BULK AT MOST 1048576: true; the input reads as it did. -/
def namesSignsUptoRow : OpenClaim := { program := "ytncmgiddcefpcaadoor", sum := "889be671f45081d01dbe8536fe6dff503d513c5eac9f825174e79fcfe6fdb477", func := "concentric/concentriclaw3.NamesSigns", spec := "namesSigns", inPlace := ["internal/bytealg.CountString", "internal/bytealg.IndexByteString", "internal/bytealg.IndexString", "internal/abi.NoEscape", "internal/bytealg.MakeNoZero"], named := ["unicode/utf8.first", "unicode/utf8.acceptRanges", "internal/bytealg.MaxLen"], plainKeys := false, apart := false, laid := [("unicode/utf8.acceptRanges", laid_unicode_utf8_acceptRanges), ("unicode/utf8.first", laid_unicode_utf8_first)], narrowed := true }
def NamesSignsUptoSaid : Prop := namesSignsUptoRow.holds Tryd.pinned (OpenSpec.upto namesSignsSpec)

/-- 'concentriclaw7.TreeAccess', WHERE WHAT IT READS IS OF BULK AT MOST 1048576: true; the input reads as it did. -/
def treeAccessUptoRow : OpenClaim := { program := "ytncmgiddcefpcaadoor", sum := "889be671f45081d01dbe8536fe6dff503d513c5eac9f825174e79fcfe6fdb477", func := "concentric/concentriclaw7.TreeAccess", spec := "treeAccess", inPlace := ["internal/bytealg.abigen_runtime_cmpstring", "internal/bytealg.CountString", "internal/bytealg.IndexByteString", "internal/bytealg.IndexString"], named := ["unicode/utf8.first", "unicode/utf8.acceptRanges", "internal/bytealg.MaxLen"], plainKeys := false, apart := false, laid := [("unicode/utf8.acceptRanges", laid_unicode_utf8_acceptRanges), ("unicode/utf8.first", laid_unicode_utf8_first)], narrowed := true }
def TreeAccessUptoSaid : Prop := treeAccessUptoRow.holds Tryd.pinned (OpenSpec.upto treeAccessSpec)

/-- 'concentriclaw8.WalkLinks', WHERE WHAT IT READS IS OF BULK AT MOST 1048576: true; the input reads as it did. -/
def walkLinksUptoRow : OpenClaim := { program := "ytncmgiddcefpcaadoor", sum := "889be671f45081d01dbe8536fe6dff503d513c5eac9f825174e79fcfe6fdb477", func := "concentric/concentriclaw8.WalkLinks", spec := "walkLinks", inPlace := ["internal/bytealg.abigen_runtime_cmpstring", "internal/bytealg.CountString", "internal/bytealg.IndexByteString", "internal/bytealg.IndexString"], named := ["unicode/utf8.first", "unicode/utf8.acceptRanges", "internal/bytealg.MaxLen"], plainKeys := false, apart := false, laid := [("unicode/utf8.acceptRanges", laid_unicode_utf8_acceptRanges), ("unicode/utf8.first", laid_unicode_utf8_first)], narrowed := true }
def WalkLinksUptoSaid : Prop := walkLinksUptoRow.holds Tryd.pinned (OpenSpec.upto walkLinksSpec)

/-- 'concentriclaw8.WalkKnown', WHERE WHAT IT READS IS OF BULK AT MOST 1048576: true; the input reads as it did. -/
def walkKnownUptoRow : OpenClaim := { program := "ytncmgiddcefpcaadoor", sum := "889be671f45081d01dbe8536fe6dff503d513c5eac9f825174e79fcfe6fdb477", func := "concentric/concentriclaw8.WalkKnown", spec := "walkKnown", inPlace := ["internal/bytealg.abigen_runtime_cmpstring", "internal/bytealg.CountString", "internal/bytealg.IndexByteString", "internal/bytealg.IndexString"], named := ["unicode/utf8.first", "unicode/utf8.acceptRanges", "internal/bytealg.MaxLen"], plainKeys := false, apart := false, laid := [("unicode/utf8.acceptRanges", laid_unicode_utf8_acceptRanges), ("unicode/utf8.first", laid_unicode_utf8_first)], narrowed := true }
def WalkKnownUptoSaid : Prop := walkKnownUptoRow.holds Tryd.pinned (OpenSpec.upto walkKnownSpec)

/-- 'concentriclaw24.JudgeKnown', WHERE WHAT IT READS IS OF BULK AT MOST 1048576: true; the input reads as it did. -/
def judgeKnownUptoRow : OpenClaim := { program := "ytncmgiddcefpcaadoor", sum := "889be671f45081d01dbe8536fe6dff503d513c5eac9f825174e79fcfe6fdb477", func := "concentric/concentriclaw24.JudgeKnown", spec := "judgeKnown", inPlace := ["internal/bytealg.abigen_runtime_cmpstring", "internal/bytealg.CountString", "internal/bytealg.IndexByteString", "internal/bytealg.IndexString"], unfollowed := true, recurses := true, named := ["unicode/utf8.first", "unicode/utf8.acceptRanges", "internal/bytealg.MaxLen"], plainKeys := false, apart := false, laid := [("unicode/utf8.acceptRanges", laid_unicode_utf8_acceptRanges), ("unicode/utf8.first", laid_unicode_utf8_first)], narrowed := true }
def JudgeKnownUptoSaid : Prop := judgeKnownUptoRow.holds Tryd.pinned (OpenSpec.upto judgeKnownSpec)

/-- 'concentriclaw14.RulesKnown', WHERE WHAT IT READS IS OF BULK AT MOST 1048576: true; the input reads as it did. -/
def rulesKnownUptoRow : OpenClaim := { program := "ytncmgiddcefpcaadoor", sum := "889be671f45081d01dbe8536fe6dff503d513c5eac9f825174e79fcfe6fdb477", func := "concentric/concentriclaw14.RulesKnown", spec := "rulesKnown", inPlace := ["internal/bytealg.abigen_runtime_cmpstring", "internal/bytealg.CountString", "internal/bytealg.IndexByteString", "internal/bytealg.IndexString"], named := ["unicode/utf8.first", "unicode/utf8.acceptRanges", "internal/bytealg.MaxLen"], plainKeys := false, apart := false, laid := [("unicode/utf8.acceptRanges", laid_unicode_utf8_acceptRanges), ("unicode/utf8.first", laid_unicode_utf8_first)], narrowed := true }
def RulesKnownUptoSaid : Prop := rulesKnownUptoRow.holds Tryd.pinned (OpenSpec.upto rulesKnownSpec)

/-- 'concentriclaw14.RulesKinds', WHERE WHAT IT READS IS OF BULK AT MOST 1048576: true; the input reads as it did. -/
def rulesKindsUptoRow : OpenClaim := { program := "ytncmgiddcefpcaadoor", sum := "889be671f45081d01dbe8536fe6dff503d513c5eac9f825174e79fcfe6fdb477", func := "concentric/concentriclaw14.RulesKinds", spec := "rulesKinds", inPlace := ["internal/bytealg.abigen_runtime_cmpstring", "internal/bytealg.CountString", "internal/bytealg.IndexByteString", "internal/bytealg.IndexString"], named := ["unicode/utf8.first", "unicode/utf8.acceptRanges", "internal/bytealg.MaxLen"], plainKeys := false, apart := false, laid := [("unicode/utf8.acceptRanges", laid_unicode_utf8_acceptRanges), ("unicode/utf8.first", laid_unicode_utf8_first)], narrowed := true }
def RulesKindsUptoSaid : Prop := rulesKindsUptoRow.holds Tryd.pinned (OpenSpec.upto rulesKindsSpec)

/-- 'concentriclaw11.SdwOf', WHERE WHAT IT READS IS OF BULK AT MOST 1048576: true; the input reads as it did. -/
def sdwOfUptoRow : OpenClaim := { program := "ytncmgiddcefpcaadoor", sum := "889be671f45081d01dbe8536fe6dff503d513c5eac9f825174e79fcfe6fdb477", func := "concentric/concentriclaw11.SdwOf", spec := "sdwOf", inPlace := ["internal/bytealg.abigen_runtime_cmpstring", "internal/bytealg.CountString", "internal/bytealg.IndexByteString", "internal/bytealg.IndexString"], unfollowed := true, recurses := true, named := ["unicode/utf8.first", "unicode/utf8.acceptRanges", "internal/bytealg.MaxLen"], plainKeys := false, apart := false, laid := [("unicode/utf8.acceptRanges", laid_unicode_utf8_acceptRanges), ("unicode/utf8.first", laid_unicode_utf8_first)], narrowed := true }
def SdwOfUptoSaid : Prop := sdwOfUptoRow.holds Tryd.pinned (OpenSpec.upto sdwOfSpec)

/-- 'concentriclaw11.SdwKnown', WHERE WHAT IT READS IS OF BULK AT MOST 1048576: true; the input reads as it did. -/
def sdwKnownUptoRow : OpenClaim := { program := "ytncmgiddcefpcaadoor", sum := "889be671f45081d01dbe8536fe6dff503d513c5eac9f825174e79fcfe6fdb477", func := "concentric/concentriclaw11.SdwKnown", spec := "sdwKnown", inPlace := ["internal/bytealg.abigen_runtime_cmpstring", "internal/bytealg.CountString", "internal/bytealg.IndexByteString", "internal/bytealg.IndexString"], named := ["unicode/utf8.first", "unicode/utf8.acceptRanges", "internal/bytealg.MaxLen"], plainKeys := false, apart := false, laid := [("unicode/utf8.acceptRanges", laid_unicode_utf8_acceptRanges), ("unicode/utf8.first", laid_unicode_utf8_first)], narrowed := true }
def SdwKnownUptoSaid : Prop := sdwKnownUptoRow.holds Tryd.pinned (OpenSpec.upto sdwKnownSpec)

/-- 'concentriclaw11.SdwRings', WHERE WHAT IT READS IS OF BULK AT MOST 1048576: true; the input reads as it did. -/
def sdwRingsUptoRow : OpenClaim := { program := "ytncmgiddcefpcaadoor", sum := "889be671f45081d01dbe8536fe6dff503d513c5eac9f825174e79fcfe6fdb477", func := "concentric/concentriclaw11.SdwRings", spec := "sdwRings", inPlace := ["internal/bytealg.abigen_runtime_cmpstring", "internal/bytealg.CountString", "internal/bytealg.IndexByteString", "internal/bytealg.IndexString"], named := ["unicode/utf8.first", "unicode/utf8.acceptRanges", "internal/bytealg.MaxLen"], plainKeys := false, apart := false, laid := [("unicode/utf8.acceptRanges", laid_unicode_utf8_acceptRanges), ("unicode/utf8.first", laid_unicode_utf8_first)], narrowed := true }
def SdwRingsUptoSaid : Prop := sdwRingsUptoRow.holds Tryd.pinned (OpenSpec.upto sdwRingsSpec)

/-- 'concentriclaw11.SdwNow', WHERE WHAT IT READS IS OF BULK AT MOST 1048576: true; the input reads as it did. -/
def sdwNowUptoRow : OpenClaim := { program := "ytncmgiddcefpcaadoor", sum := "889be671f45081d01dbe8536fe6dff503d513c5eac9f825174e79fcfe6fdb477", func := "concentric/concentriclaw11.SdwNow", spec := "sdwNow", inPlace := ["internal/bytealg.abigen_runtime_cmpstring", "internal/bytealg.CountString", "internal/bytealg.IndexByteString", "internal/bytealg.IndexString"], named := ["unicode/utf8.first", "unicode/utf8.acceptRanges", "internal/bytealg.MaxLen"], plainKeys := false, apart := false, laid := [("unicode/utf8.acceptRanges", laid_unicode_utf8_acceptRanges), ("unicode/utf8.first", laid_unicode_utf8_first)], narrowed := true }
def SdwNowUptoSaid : Prop := sdwNowUptoRow.holds Tryd.pinned (OpenSpec.upto sdwNowSpec)

/-- 'concentriclaw7.TreeDirs', WHERE WHAT IT READS IS OF BULK AT MOST 1048576: true; the input reads as it did. -/
def treeDirsUptoRow : OpenClaim := { program := "ytncmgiddcefpcaadoor", sum := "889be671f45081d01dbe8536fe6dff503d513c5eac9f825174e79fcfe6fdb477", func := "concentric/concentriclaw7.TreeDirs", spec := "treeDirs", inPlace := ["internal/bytealg.abigen_runtime_cmpstring", "internal/bytealg.CountString", "internal/bytealg.IndexByteString", "internal/bytealg.IndexString"], unfollowed := true, recurses := true, named := ["unicode/utf8.first", "unicode/utf8.acceptRanges", "internal/bytealg.MaxLen"], plainKeys := false, apart := false, laid := [("unicode/utf8.acceptRanges", laid_unicode_utf8_acceptRanges), ("unicode/utf8.first", laid_unicode_utf8_first)], narrowed := true }
def TreeDirsUptoSaid : Prop := treeDirsUptoRow.holds Tryd.pinned (OpenSpec.upto treeDirsSpec)

/-- 'concentriclaw7.TreeHands', WHERE WHAT IT READS IS OF BULK AT MOST 1048576: true; the input reads as it did. -/
def treeHandsUptoRow : OpenClaim := { program := "ytncmgiddcefpcaadoor", sum := "889be671f45081d01dbe8536fe6dff503d513c5eac9f825174e79fcfe6fdb477", func := "concentric/concentriclaw7.TreeHands", spec := "treeHands", inPlace := ["internal/bytealg.abigen_runtime_cmpstring", "internal/bytealg.CountString", "internal/bytealg.IndexByteString", "internal/bytealg.IndexString"], unfollowed := true, recurses := true, named := ["unicode/utf8.first", "unicode/utf8.acceptRanges", "internal/bytealg.MaxLen"], plainKeys := false, apart := false, laid := [("unicode/utf8.acceptRanges", laid_unicode_utf8_acceptRanges), ("unicode/utf8.first", laid_unicode_utf8_first)], narrowed := true }
def TreeHandsUptoSaid : Prop := treeHandsUptoRow.holds Tryd.pinned (OpenSpec.upto treeHandsSpec)

/-- 'concentriclaw7.TreeNames', WHERE WHAT IT READS IS OF BULK AT MOST 1048576: true; the input reads as it did. -/
def treeNamesUptoRow : OpenClaim := { program := "ytncmgiddcefpcaadoor", sum := "889be671f45081d01dbe8536fe6dff503d513c5eac9f825174e79fcfe6fdb477", func := "concentric/concentriclaw7.TreeNames", spec := "treeNames", inPlace := ["internal/bytealg.abigen_runtime_cmpstring", "internal/bytealg.CountString", "internal/bytealg.IndexByteString", "internal/bytealg.IndexString"], unfollowed := true, recurses := true, named := ["unicode/utf8.first", "unicode/utf8.acceptRanges", "internal/bytealg.MaxLen"], plainKeys := false, apart := false, laid := [("unicode/utf8.acceptRanges", laid_unicode_utf8_acceptRanges), ("unicode/utf8.first", laid_unicode_utf8_first)], narrowed := true }
def TreeNamesUptoSaid : Prop := treeNamesUptoRow.holds Tryd.pinned (OpenSpec.upto treeNamesSpec)

/-- 'concentriclaw7.TreeKnown', WHERE WHAT IT READS IS OF BULK AT MOST 1048576: true; the input reads as it did. -/
def treeKnownUptoRow : OpenClaim := { program := "ytncmgiddcefpcaadoor", sum := "889be671f45081d01dbe8536fe6dff503d513c5eac9f825174e79fcfe6fdb477", func := "concentric/concentriclaw7.TreeKnown", spec := "treeKnown", inPlace := ["internal/bytealg.abigen_runtime_cmpstring", "internal/bytealg.CountString", "internal/bytealg.IndexByteString", "internal/bytealg.IndexString"], unfollowed := true, recurses := true, named := ["unicode/utf8.first", "unicode/utf8.acceptRanges", "internal/bytealg.MaxLen"], plainKeys := false, apart := false, laid := [("unicode/utf8.acceptRanges", laid_unicode_utf8_acceptRanges), ("unicode/utf8.first", laid_unicode_utf8_first)], narrowed := true }
def TreeKnownUptoSaid : Prop := treeKnownUptoRow.holds Tryd.pinned (OpenSpec.upto treeKnownSpec)

end Rows
end Go.Proofs.YtncmgiddcefpcaaDoor
