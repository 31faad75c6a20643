/-
  NARROWER THAN 'FOR EVERY INPUT', by the rows' own cells (each row's printed sentence says how): WalkRoot: laid · WalkWalks: laid · WalkSteps: laid · JudgeNow: laid · JudgeFine: laid · JudgeParts: laid · RulesFind: laid · RulesFirst: laid.
  DERIVED. THE GIVEN ROWS OF THIS SEAT. 8 by the template 'for every input the law returns true; each argument reads behind the call as it read before'; 0 by the template 'total and deterministic' (their statements: YtncmgiddcefpcaaGreatDoorTotals.lean).
  GIVEN WITH THE SEED: the statements are not yours to turn. If you find one false, say at which input.
  Laid BY PROGRAM, IN A SANDBOX (cutbox-rows.mjs): the forced cells as the released guide's own fill.sh prints them over the translation 28e3861cf5ed7f19… (all of the seat's roots in one cut). By AI agents, Wed Nov 11 2026. No macro, syntax, notation, axiom, sorry.
-/
import Derived.Test.YtncmgiddcefpcaaGreatDoorChecked
import GoSem.PinnedTables
import GoSem.Claim
import GoSem.ClaimJoined
import GoSem.ClaimMapViews
import Derived.JoinedTies
import Derived.KernelRfl
namespace Go.Proofs.YtncmgiddcefpcaaGreatDoor
/- THE CELL 'sum', in the pinned program and in every row, IS THE sha256 OF THE DUMP (.gsa) THAT YtncmgiddcefpcaaGreatDoorProg.lean LOADS. Nothing in Lean hashes anything: it is a label: what it is worth is what the hold of that sum in a sandbox is worth. -/
noncomputable def Tryz.pinned : Pinned := { name := "ytncmgiddcefpcaagreatdoor", sum := "28e3861cf5ed7f199a0f53dc1b75caeb2be9431c22784f3e8b99ade20ceb4f4d", checked := Tryz.checked }
namespace Rows
def none {H : Type} : Left H := { results := [], args := [] }

/- WHAT THE LISTED PACKAGE-LEVEL VARIABLES READ AS WHEN THE CALL BEGINS. Each datum BY PROGRAM (the guide's laid-datum.mjs) off the statement by which the dump's own 'gosem.cut.vars' lays the variable. In a bare row this is a premise. The card (YtncmgiddcefpcaaGreatDoorCards.lean) ties it to the program's text. -/
def laid_unicode_utf8_acceptRanges {H : Type} : DataW H := .agg [.agg [.lit (.int .u8 128), .lit (.int .u8 191)], .agg [.lit (.int .u8 160), .lit (.int .u8 191)], .agg [.lit (.int .u8 128), .lit (.int .u8 159)], .agg [.lit (.int .u8 144), .lit (.int .u8 191)], .agg [.lit (.int .u8 128), .lit (.int .u8 143)], .agg [.lit (.int .u8 0), .lit (.int .u8 0)], .agg [.lit (.int .u8 0), .lit (.int .u8 0)], .agg [.lit (.int .u8 0), .lit (.int .u8 0)], .agg [.lit (.int .u8 0), .lit (.int .u8 0)], .agg [.lit (.int .u8 0), .lit (.int .u8 0)], .agg [.lit (.int .u8 0), .lit (.int .u8 0)], .agg [.lit (.int .u8 0), .lit (.int .u8 0)], .agg [.lit (.int .u8 0), .lit (.int .u8 0)], .agg [.lit (.int .u8 0), .lit (.int .u8 0)], .agg [.lit (.int .u8 0), .lit (.int .u8 0)], .agg [.lit (.int .u8 0), .lit (.int .u8 0)]]
/-- One of Go's own tables, pinned by name: the form's constant. -/
def laid_unicode_utf8_first : DataW Unit := Go.Pinned.utf8First

/-- 'concentriclaw8.WalkRoot': WHATEVER THE INPUT: true; the input reads as it did. -/
def walkRootSpec : ChangeSpec := { name := "walkRoot", fn := fun _ => fun
  | [d1, d2] => { results := [.lit (.bool true)], args := [d1, d2] }
  | _ => none }
def walkRootRow : OpenClaim := { program := "ytncmgiddcefpcaagreatdoor", sum := "28e3861cf5ed7f199a0f53dc1b75caeb2be9431c22784f3e8b99ade20ceb4f4d", func := "concentric/concentriclaw8.WalkRoot", spec := "walkRoot", inPlace := ["internal/bytealg.abigen_runtime_cmpstring", "internal/bytealg.CountString", "internal/bytealg.IndexByteString", "internal/bytealg.IndexString"], unfollowed := true, recurses := true, named := ["unicode/utf8.first", "unicode/utf8.acceptRanges", "internal/bytealg.MaxLen"], plainKeys := false, apart := false, laid := [("unicode/utf8.acceptRanges", laid_unicode_utf8_acceptRanges), ("unicode/utf8.first", laid_unicode_utf8_first)] }
def WalkRootSaid : Prop := walkRootRow.holds Tryz.pinned (OpenSpec.ofChange walkRootSpec)

/-- ITS FALSE NEIGHBOUR: 'it returns false'. Refute it at one input. -/
def walkRootWrong : ChangeSpec := { name := "walkRoot", fn := fun _ => fun
  | [d1, d2] => { results := [.lit (.bool false)], args := [d1, d2] }
  | _ => none }
def WalkRootWrongFalsely : Prop := walkRootRow.holds Tryz.pinned (OpenSpec.ofChange walkRootWrong)

/-- 'concentriclaw8.WalkWalks': WHATEVER THE INPUT: true; the input reads as it did. -/
def walkWalksSpec : ChangeSpec := { name := "walkWalks", fn := fun _ => fun
  | [d1, d2, d3] => { results := [.lit (.bool true)], args := [d1, d2, d3] }
  | _ => none }
def walkWalksRow : OpenClaim := { program := "ytncmgiddcefpcaagreatdoor", sum := "28e3861cf5ed7f199a0f53dc1b75caeb2be9431c22784f3e8b99ade20ceb4f4d", func := "concentric/concentriclaw8.WalkWalks", spec := "walkWalks", inPlace := ["internal/bytealg.abigen_runtime_cmpstring", "internal/bytealg.CountString", "internal/bytealg.IndexByteString", "internal/bytealg.IndexString"], unfollowed := true, recurses := true, named := ["unicode/utf8.first", "unicode/utf8.acceptRanges", "internal/bytealg.MaxLen"], plainKeys := false, apart := false, laid := [("unicode/utf8.acceptRanges", laid_unicode_utf8_acceptRanges), ("unicode/utf8.first", laid_unicode_utf8_first)] }
def WalkWalksSaid : Prop := walkWalksRow.holds Tryz.pinned (OpenSpec.ofChange walkWalksSpec)

/-- ITS FALSE NEIGHBOUR: 'it returns false'. Refute it at one input. -/
def walkWalksWrong : ChangeSpec := { name := "walkWalks", fn := fun _ => fun
  | [d1, d2, d3] => { results := [.lit (.bool false)], args := [d1, d2, d3] }
  | _ => none }
def WalkWalksWrongFalsely : Prop := walkWalksRow.holds Tryz.pinned (OpenSpec.ofChange walkWalksWrong)

/-- 'concentriclaw8.WalkSteps': WHATEVER THE INPUT: true; the input reads as it did. -/
def walkStepsSpec : ChangeSpec := { name := "walkSteps", fn := fun _ => fun
  | [d1, d2] => { results := [.lit (.bool true)], args := [d1, d2] }
  | _ => none }
def walkStepsRow : OpenClaim := { program := "ytncmgiddcefpcaagreatdoor", sum := "28e3861cf5ed7f199a0f53dc1b75caeb2be9431c22784f3e8b99ade20ceb4f4d", func := "concentric/concentriclaw8.WalkSteps", spec := "walkSteps", inPlace := ["internal/bytealg.abigen_runtime_cmpstring", "internal/bytealg.CountString", "internal/bytealg.IndexByteString", "internal/bytealg.IndexString"], unfollowed := true, recurses := true, named := ["unicode/utf8.first", "unicode/utf8.acceptRanges", "internal/bytealg.MaxLen"], plainKeys := false, apart := false, laid := [("unicode/utf8.acceptRanges", laid_unicode_utf8_acceptRanges), ("unicode/utf8.first", laid_unicode_utf8_first)] }
def WalkStepsSaid : Prop := walkStepsRow.holds Tryz.pinned (OpenSpec.ofChange walkStepsSpec)

/-- ITS FALSE NEIGHBOUR: 'it returns false'. Refute it at one input. -/
def walkStepsWrong : ChangeSpec := { name := "walkSteps", fn := fun _ => fun
  | [d1, d2] => { results := [.lit (.bool false)], args := [d1, d2] }
  | _ => none }
def WalkStepsWrongFalsely : Prop := walkStepsRow.holds Tryz.pinned (OpenSpec.ofChange walkStepsWrong)

/-- 'concentriclaw24.JudgeNow': WHATEVER THE INPUT: true; the input reads as it did. -/
def judgeNowSpec : ChangeSpec := { name := "judgeNow", fn := fun _ => fun
  | [d1, d2, d3] => { results := [.lit (.bool true)], args := [d1, d2, d3] }
  | _ => none }
def judgeNowRow : OpenClaim := { program := "ytncmgiddcefpcaagreatdoor", sum := "28e3861cf5ed7f199a0f53dc1b75caeb2be9431c22784f3e8b99ade20ceb4f4d", func := "concentric/concentriclaw24.JudgeNow", spec := "judgeNow", inPlace := ["internal/bytealg.abigen_runtime_cmpstring", "internal/bytealg.CountString", "internal/bytealg.IndexByteString", "internal/bytealg.IndexString"], unfollowed := true, recurses := true, named := ["unicode/utf8.first", "unicode/utf8.acceptRanges", "internal/bytealg.MaxLen"], plainKeys := false, apart := false, laid := [("unicode/utf8.acceptRanges", laid_unicode_utf8_acceptRanges), ("unicode/utf8.first", laid_unicode_utf8_first)] }
def JudgeNowSaid : Prop := judgeNowRow.holds Tryz.pinned (OpenSpec.ofChange judgeNowSpec)

/-- ITS FALSE NEIGHBOUR: 'it returns false'. Refute it at one input. -/
def judgeNowWrong : ChangeSpec := { name := "judgeNow", fn := fun _ => fun
  | [d1, d2, d3] => { results := [.lit (.bool false)], args := [d1, d2, d3] }
  | _ => none }
def JudgeNowWrongFalsely : Prop := judgeNowRow.holds Tryz.pinned (OpenSpec.ofChange judgeNowWrong)

/-- 'concentriclaw24.JudgeFine': WHATEVER THE INPUT: true; the input reads as it did. -/
def judgeFineSpec : ChangeSpec := { name := "judgeFine", fn := fun _ => fun
  | [d1, d2, d3] => { results := [.lit (.bool true)], args := [d1, d2, d3] }
  | _ => none }
def judgeFineRow : OpenClaim := { program := "ytncmgiddcefpcaagreatdoor", sum := "28e3861cf5ed7f199a0f53dc1b75caeb2be9431c22784f3e8b99ade20ceb4f4d", func := "concentric/concentriclaw24.JudgeFine", spec := "judgeFine", inPlace := ["internal/bytealg.abigen_runtime_cmpstring", "internal/bytealg.CountString", "internal/bytealg.IndexByteString", "internal/bytealg.IndexString"], unfollowed := true, recurses := true, named := ["unicode/utf8.first", "unicode/utf8.acceptRanges", "internal/bytealg.MaxLen"], plainKeys := false, apart := false, laid := [("unicode/utf8.acceptRanges", laid_unicode_utf8_acceptRanges), ("unicode/utf8.first", laid_unicode_utf8_first)] }
def JudgeFineSaid : Prop := judgeFineRow.holds Tryz.pinned (OpenSpec.ofChange judgeFineSpec)

/-- ITS FALSE NEIGHBOUR: 'it returns false'. Refute it at one input. -/
def judgeFineWrong : ChangeSpec := { name := "judgeFine", fn := fun _ => fun
  | [d1, d2, d3] => { results := [.lit (.bool false)], args := [d1, d2, d3] }
  | _ => none }
def JudgeFineWrongFalsely : Prop := judgeFineRow.holds Tryz.pinned (OpenSpec.ofChange judgeFineWrong)

/-- 'concentriclaw24.JudgeParts': WHATEVER THE INPUT: true; the input reads as it did. -/
def judgePartsSpec : ChangeSpec := { name := "judgeParts", fn := fun _ => fun
  | [d1, d2, d3] => { results := [.lit (.bool true)], args := [d1, d2, d3] }
  | _ => none }
def judgePartsRow : OpenClaim := { program := "ytncmgiddcefpcaagreatdoor", sum := "28e3861cf5ed7f199a0f53dc1b75caeb2be9431c22784f3e8b99ade20ceb4f4d", func := "concentric/concentriclaw24.JudgeParts", spec := "judgeParts", inPlace := ["internal/bytealg.abigen_runtime_cmpstring", "internal/bytealg.CountString", "internal/bytealg.IndexByteString", "internal/bytealg.IndexString"], unfollowed := true, recurses := true, named := ["unicode/utf8.first", "unicode/utf8.acceptRanges", "internal/bytealg.MaxLen"], plainKeys := false, apart := false, laid := [("unicode/utf8.acceptRanges", laid_unicode_utf8_acceptRanges), ("unicode/utf8.first", laid_unicode_utf8_first)] }
def JudgePartsSaid : Prop := judgePartsRow.holds Tryz.pinned (OpenSpec.ofChange judgePartsSpec)

/-- ITS FALSE NEIGHBOUR: 'it returns false'. Refute it at one input. -/
def judgePartsWrong : ChangeSpec := { name := "judgeParts", fn := fun _ => fun
  | [d1, d2, d3] => { results := [.lit (.bool false)], args := [d1, d2, d3] }
  | _ => none }
def JudgePartsWrongFalsely : Prop := judgePartsRow.holds Tryz.pinned (OpenSpec.ofChange judgePartsWrong)

/-- 'concentriclaw14.RulesFind': WHATEVER THE INPUT: true; the input reads as it did. -/
def rulesFindSpec : ChangeSpec := { name := "rulesFind", fn := fun _ => fun
  | [d1, d2, d3] => { results := [.lit (.bool true)], args := [d1, d2, d3] }
  | _ => none }
def rulesFindRow : OpenClaim := { program := "ytncmgiddcefpcaagreatdoor", sum := "28e3861cf5ed7f199a0f53dc1b75caeb2be9431c22784f3e8b99ade20ceb4f4d", func := "concentric/concentriclaw14.RulesFind", spec := "rulesFind", inPlace := ["internal/bytealg.abigen_runtime_cmpstring", "internal/bytealg.CountString", "internal/bytealg.IndexByteString", "internal/bytealg.IndexString"], unfollowed := true, recurses := true, named := ["unicode/utf8.first", "unicode/utf8.acceptRanges", "internal/bytealg.MaxLen"], plainKeys := false, apart := false, laid := [("unicode/utf8.acceptRanges", laid_unicode_utf8_acceptRanges), ("unicode/utf8.first", laid_unicode_utf8_first)] }
def RulesFindSaid : Prop := rulesFindRow.holds Tryz.pinned (OpenSpec.ofChange rulesFindSpec)

/-- ITS FALSE NEIGHBOUR: 'it returns false'. Refute it at one input. -/
def rulesFindWrong : ChangeSpec := { name := "rulesFind", fn := fun _ => fun
  | [d1, d2, d3] => { results := [.lit (.bool false)], args := [d1, d2, d3] }
  | _ => none }
def RulesFindWrongFalsely : Prop := rulesFindRow.holds Tryz.pinned (OpenSpec.ofChange rulesFindWrong)

/-- 'concentriclaw14.RulesFirst': WHATEVER THE INPUT: true; the input reads as it did. -/
def rulesFirstSpec : ChangeSpec := { name := "rulesFirst", fn := fun _ => fun
  | [d1, d2, d3] => { results := [.lit (.bool true)], args := [d1, d2, d3] }
  | _ => none }
def rulesFirstRow : OpenClaim := { program := "ytncmgiddcefpcaagreatdoor", sum := "28e3861cf5ed7f199a0f53dc1b75caeb2be9431c22784f3e8b99ade20ceb4f4d", func := "concentric/concentriclaw14.RulesFirst", spec := "rulesFirst", inPlace := ["internal/bytealg.abigen_runtime_cmpstring", "internal/bytealg.CountString", "internal/bytealg.IndexByteString", "internal/bytealg.IndexString"], unfollowed := true, recurses := true, named := ["unicode/utf8.first", "unicode/utf8.acceptRanges", "internal/bytealg.MaxLen"], plainKeys := false, apart := false, laid := [("unicode/utf8.acceptRanges", laid_unicode_utf8_acceptRanges), ("unicode/utf8.first", laid_unicode_utf8_first)] }
def RulesFirstSaid : Prop := rulesFirstRow.holds Tryz.pinned (OpenSpec.ofChange rulesFirstSpec)

/-- ITS FALSE NEIGHBOUR: 'it returns false'. Refute it at one input. -/
def rulesFirstWrong : ChangeSpec := { name := "rulesFirst", fn := fun _ => fun
  | [d1, d2, d3] => { results := [.lit (.bool false)], args := [d1, d2, d3] }
  | _ => none }
def RulesFirstWrongFalsely : Prop := rulesFirstRow.holds Tryz.pinned (OpenSpec.ofChange rulesFirstWrong)

/- THE SECOND FORM. 'bulk': how many values and letters a reading holds, each counted each time it is reached (what is shared counts as often as it is met; a slice's spare places count too). A statement '..UptoSaid' is the law's where the arguments, and the package variables that the reading takes, are together of bulk at most 1048576: NARROWER than '..Said'. Prove '..Said' where nothing that the law and all that it calls make is longer than what came in: it says more and counts as full. Else prove '..UptoSaid'. A law counts once. -/
mutual
def uptoBulk {H : Type} : DataW H → Nat
  | .lit (.string bytes) => bytes.length + 1
  | .lit _ => 1
  | .nil => 1
  | .ptr d => uptoBulk d + 1
  | .slice elems spare => uptoBulkAll elems + uptoBulkAll spare + 1
  | .agg parts => uptoBulkAll parts + 1
  | .iface _ d => uptoBulk d + 1
  | .map entries => uptoBulkEntries entries + 1
  | .held _ => 1
def uptoBulkAll {H : Type} : List (DataW H) → Nat
  | [] => 0
  | d :: r => uptoBulk d + uptoBulkAll r
def uptoBulkEntries {H : Type} : List (Lit × DataW H) → Nat
  | [] => 0
  | x :: r => uptoBulkEntry x + uptoBulkEntries r
def uptoBulkEntry {H : Type} : Lit × DataW H → Nat
  | (.string bytes, d) => bytes.length + uptoBulk d + 1
  | (_, d) => uptoBulk d + 1
 end
def uptoSmall : (H : Type) → List (DataW H) → Bool := fun _ ds => decide (uptoBulkAll ds ≤ 1048576)
def OpenSpec.upto (s : _root_.Go.ChangeSpec) : _root_.Go.OpenSpec := { _root_.Go.OpenSpec.ofChange s with cond := some uptoSmall }

/-- 'concentriclaw8.WalkRoot', WHERE WHAT IT READS IS OF BULK AT MOST 1048576: true; the input reads as it did. -/
def walkRootUptoRow : OpenClaim := { program := "ytncmgiddcefpcaagreatdoor", sum := "28e3861cf5ed7f199a0f53dc1b75caeb2be9431c22784f3e8b99ade20ceb4f4d", func := "concentric/concentriclaw8.WalkRoot", spec := "walkRoot", inPlace := ["internal/bytealg.abigen_runtime_cmpstring", "internal/bytealg.CountString", "internal/bytealg.IndexByteString", "internal/bytealg.IndexString"], unfollowed := true, recurses := true, named := ["unicode/utf8.first", "unicode/utf8.acceptRanges", "internal/bytealg.MaxLen"], plainKeys := false, apart := false, laid := [("unicode/utf8.acceptRanges", laid_unicode_utf8_acceptRanges), ("unicode/utf8.first", laid_unicode_utf8_first)], narrowed := true }
def WalkRootUptoSaid : Prop := walkRootUptoRow.holds Tryz.pinned (OpenSpec.upto walkRootSpec)

/-- 'concentriclaw8.WalkWalks', WHERE WHAT IT READS IS OF BULK AT MOST 1048576: true; the input reads as it did. -/
def walkWalksUptoRow : OpenClaim := { program := "ytncmgiddcefpcaagreatdoor", sum := "28e3861cf5ed7f199a0f53dc1b75caeb2be9431c22784f3e8b99ade20ceb4f4d", func := "concentric/concentriclaw8.WalkWalks", spec := "walkWalks", inPlace := ["internal/bytealg.abigen_runtime_cmpstring", "internal/bytealg.CountString", "internal/bytealg.IndexByteString", "internal/bytealg.IndexString"], unfollowed := true, recurses := true, named := ["unicode/utf8.first", "unicode/utf8.acceptRanges", "internal/bytealg.MaxLen"], plainKeys := false, apart := false, laid := [("unicode/utf8.acceptRanges", laid_unicode_utf8_acceptRanges), ("unicode/utf8.first", laid_unicode_utf8_first)], narrowed := true }
def WalkWalksUptoSaid : Prop := walkWalksUptoRow.holds Tryz.pinned (OpenSpec.upto walkWalksSpec)

/-- 'concentriclaw8.WalkSteps', WHERE WHAT IT READS IS OF BULK AT MOST 1048576: true; the input reads as it did. -/
def walkStepsUptoRow : OpenClaim := { program := "ytncmgiddcefpcaagreatdoor", sum := "28e3861cf5ed7f199a0f53dc1b75caeb2be9431c22784f3e8b99ade20ceb4f4d", func := "concentric/concentriclaw8.WalkSteps", spec := "walkSteps", inPlace := ["internal/bytealg.abigen_runtime_cmpstring", "internal/bytealg.CountString", "internal/bytealg.IndexByteString", "internal/bytealg.IndexString"], unfollowed := true, recurses := true, named := ["unicode/utf8.first", "unicode/utf8.acceptRanges", "internal/bytealg.MaxLen"], plainKeys := false, apart := false, laid := [("unicode/utf8.acceptRanges", laid_unicode_utf8_acceptRanges), ("unicode/utf8.first", laid_unicode_utf8_first)], narrowed := true }
def WalkStepsUptoSaid : Prop := walkStepsUptoRow.holds Tryz.pinned (OpenSpec.upto walkStepsSpec)

/-- 'concentriclaw24.JudgeNow', WHERE WHAT IT READS IS OF BULK AT MOST 1048576: true; the input reads as it did. -/
def judgeNowUptoRow : OpenClaim := { program := "ytncmgiddcefpcaagreatdoor", sum := "28e3861cf5ed7f199a0f53dc1b75caeb2be9431c22784f3e8b99ade20ceb4f4d", func := "concentric/concentriclaw24.JudgeNow", spec := "judgeNow", inPlace := ["internal/bytealg.abigen_runtime_cmpstring", "internal/bytealg.CountString", "internal/bytealg.IndexByteString", "internal/bytealg.IndexString"], unfollowed := true, recurses := true, named := ["unicode/utf8.first", "unicode/utf8.acceptRanges", "internal/bytealg.MaxLen"], plainKeys := false, apart := false, laid := [("unicode/utf8.acceptRanges", laid_unicode_utf8_acceptRanges), ("unicode/utf8.first", laid_unicode_utf8_first)], narrowed := true }
def JudgeNowUptoSaid : Prop := judgeNowUptoRow.holds Tryz.pinned (OpenSpec.upto judgeNowSpec)

/-- 'concentriclaw24.JudgeFine', WHERE WHAT IT READS IS OF BULK AT MOST 1048576: true; the input reads as it did. -/
def judgeFineUptoRow : OpenClaim := { program := "ytncmgiddcefpcaagreatdoor", sum := "28e3861cf5ed7f199a0f53dc1b75caeb2be9431c22784f3e8b99ade20ceb4f4d", func := "concentric/concentriclaw24.JudgeFine", spec := "judgeFine", inPlace := ["internal/bytealg.abigen_runtime_cmpstring", "internal/bytealg.CountString", "internal/bytealg.IndexByteString", "internal/bytealg.IndexString"], unfollowed := true, recurses := true, named := ["unicode/utf8.first", "unicode/utf8.acceptRanges", "internal/bytealg.MaxLen"], plainKeys := false, apart := false, laid := [("unicode/utf8.acceptRanges", laid_unicode_utf8_acceptRanges), ("unicode/utf8.first", laid_unicode_utf8_first)], narrowed := true }
def JudgeFineUptoSaid : Prop := judgeFineUptoRow.holds Tryz.pinned (OpenSpec.upto judgeFineSpec)

/-- 'concentriclaw24.JudgeParts', WHERE WHAT IT READS IS OF BULK AT MOST 1048576: true; the input reads as it did. -/
def judgePartsUptoRow : OpenClaim := { program := "ytncmgiddcefpcaagreatdoor", sum := "28e3861cf5ed7f199a0f53dc1b75caeb2be9431c22784f3e8b99ade20ceb4f4d", func := "concentric/concentriclaw24.JudgeParts", spec := "judgeParts", inPlace := ["internal/bytealg.abigen_runtime_cmpstring", "internal/bytealg.CountString", "internal/bytealg.IndexByteString", "internal/bytealg.IndexString"], unfollowed := true, recurses := true, named := ["unicode/utf8.first", "unicode/utf8.acceptRanges", "internal/bytealg.MaxLen"], plainKeys := false, apart := false, laid := [("unicode/utf8.acceptRanges", laid_unicode_utf8_acceptRanges), ("unicode/utf8.first", laid_unicode_utf8_first)], narrowed := true }
def JudgePartsUptoSaid : Prop := judgePartsUptoRow.holds Tryz.pinned (OpenSpec.upto judgePartsSpec)

/-- 'concentriclaw14.RulesFind', WHERE WHAT IT READS IS OF BULK AT MOST 1048576: true; the input reads as it did. -/
def rulesFindUptoRow : OpenClaim := { program := "ytncmgiddcefpcaagreatdoor", sum := "28e3861cf5ed7f199a0f53dc1b75caeb2be9431c22784f3e8b99ade20ceb4f4d", func := "concentric/concentriclaw14.RulesFind", spec := "rulesFind", inPlace := ["internal/bytealg.abigen_runtime_cmpstring", "internal/bytealg.CountString", "internal/bytealg.IndexByteString", "internal/bytealg.IndexString"], unfollowed := true, recurses := true, named := ["unicode/utf8.first", "unicode/utf8.acceptRanges", "internal/bytealg.MaxLen"], plainKeys := false, apart := false, laid := [("unicode/utf8.acceptRanges", laid_unicode_utf8_acceptRanges), ("unicode/utf8.first", laid_unicode_utf8_first)], narrowed := true }
def RulesFindUptoSaid : Prop := rulesFindUptoRow.holds Tryz.pinned (OpenSpec.upto rulesFindSpec)

/-- 'concentriclaw14.RulesFirst', WHERE WHAT IT READS IS OF BULK AT MOST 1048576: true; the input reads as it did. -/
def rulesFirstUptoRow : OpenClaim := { program := "ytncmgiddcefpcaagreatdoor", sum := "28e3861cf5ed7f199a0f53dc1b75caeb2be9431c22784f3e8b99ade20ceb4f4d", func := "concentric/concentriclaw14.RulesFirst", spec := "rulesFirst", inPlace := ["internal/bytealg.abigen_runtime_cmpstring", "internal/bytealg.CountString", "internal/bytealg.IndexByteString", "internal/bytealg.IndexString"], unfollowed := true, recurses := true, named := ["unicode/utf8.first", "unicode/utf8.acceptRanges", "internal/bytealg.MaxLen"], plainKeys := false, apart := false, laid := [("unicode/utf8.acceptRanges", laid_unicode_utf8_acceptRanges), ("unicode/utf8.first", laid_unicode_utf8_first)], narrowed := true }
def RulesFirstUptoSaid : Prop := rulesFirstUptoRow.holds Tryz.pinned (OpenSpec.upto rulesFirstSpec)

end Rows
end Go.Proofs.YtncmgiddcefpcaaGreatDoor
