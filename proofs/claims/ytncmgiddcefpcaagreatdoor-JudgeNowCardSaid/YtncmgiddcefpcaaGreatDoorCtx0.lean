/- The contexts: which functions are stepped through, which enter by a summary. Definitions alone. -/
import Derived.Test.YtncmgiddcefpcaaGreatDoorEvM2
import Derived.Test.YtncmgiddcefpcaaGreatDoorEvM4
import Derived.Test.YtncmgiddcefpcaaGreatDoorEvM3
import Derived.Test.YtncmgiddcefpcaaGreatDoorProg
namespace Go.Proofs.YtncmgiddcefpcaaGreatDoor
open Go Go.Ev Go.RowKit
set_option linter.unusedSimpArgs false
set_option linter.unusedVariables false
set_option maxRecDepth 100000

/-- The functions 2 to 115 - 1. -/
def mask : Nat := 2 ^ 115 - 4
def sums : List (Nat × Sum) := [(106, sumSplit 9), (110, sumCmp Lib.compareBytes), (73, sumNames 9)]
def sumAt (f : Nat) : List (Nat × Sum) → Option Sum
  | [] => none
  | (g, s) :: l => bif Nat.beq f g then some s else sumAt f l
noncomputable def ctx : Ctx := { P := Tryz.prog, mask := mask, S := fun f => sumAt f sums }

def awakes : List Nat := 11 :: 27 :: 38 :: []
def sumAwake : Sum
  | [], h => some (.bool true, h)
  | _, _ => none
noncomputable def kon : Ctx := { ctx with S := fun f => bif awakes.contains f then some sumAwake else ctx.S f }
theorem awake_call {f : FuncId} (hf : kon.S f = some sumAwake) (h : Hp) (Q : Value → Hp → Prop) : callP kon f h Q [] = Q (.bool true) h := callP_of (Ret.sum hf rfl)
end Go.Proofs.YtncmgiddcefpcaaGreatDoor
