/- The contexts: which functions are stepped through, which enter by a summary. Definitions alone. -/
import Derived.Test.YtncmgiddcefpcaaDoorEvM2
import Derived.Test.YtncmgiddcefpcaaDoorEvM4
import Derived.Test.YtncmgiddcefpcaaDoorEvM3
import Derived.Test.YtncmgiddcefpcaaDoorProg
namespace Go.Proofs.YtncmgiddcefpcaaDoor
open Go Go.Ev Go.RowKit
set_option linter.unusedSimpArgs false
set_option linter.unusedVariables false
set_option maxRecDepth 100000

/-- The functions 2 to 120 - 1. -/
def mask : Nat := 2 ^ 120 - 4
def sums : List (Nat × Sum) := [(75, sumSplit 9), (78, sumJoin), (127, sumCmp Lib.compareBytes), (68, sumNames 9)]
def sumAt (f : Nat) : List (Nat × Sum) → Option Sum
  | [] => none
  | (g, s) :: l => bif Nat.beq f g then some s else sumAt f l
noncomputable def ctx : Ctx := { P := Tryd.prog, mask := mask, S := fun f => sumAt f sums }

def awakes : List Nat := 22 :: 33 :: 42 :: 47 :: 50 :: 53 :: []
def sumAwake : Sum
  | [], h => some (.bool true, h)
  | _, _ => none
noncomputable def kon : Ctx := { ctx with S := fun f => bif awakes.contains f then some sumAwake else ctx.S f }
theorem awake_call {f : FuncId} (hf : kon.S f = some sumAwake) (h : Hp) (Q : Value → Hp → Prop) : callP kon f h Q [] = Q (.bool true) h := callP_of (Ret.sum hf rfl)
end Go.Proofs.YtncmgiddcefpcaaDoor
