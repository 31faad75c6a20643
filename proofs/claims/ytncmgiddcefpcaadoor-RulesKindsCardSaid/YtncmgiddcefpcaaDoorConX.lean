/- A body's head and its rest: evaluated apart. -/
import Derived.Test.YtncmgiddcefpcaaDoorConW
namespace Go.Proofs.YtncmgiddcefpcaaDoor
open Go Go.Ev Go.RowKit Go.Con
set_option linter.unusedSimpArgs false
set_option linter.unusedVariables false
set_option maxRecDepth 1000000

noncomputable def headC : Nat → Code → Code
  | k + 1, .seq a c => .seq a (headC k c)
  | _ + 1, c => c
  | 0, _ => .skip
noncomputable def tailC : Nat → Code → Code
  | k + 1, .seq _ c => tailC k c
  | _ + 1, _ => .skip
  | 0, c => c
noncomputable def runC (n : Nat) (c : Code) (fr : Fr) (h : Hp) : Res := evCode kon.P (evCall kon n) (evDraw kon.P (evCall kon n)) n c fr h
theorem runC_split (n : Nat) : ∀ (k : Nat) (c : Code) (fr : Fr) (h : Hp) (fr' : Fr) (h' : Hp), runC n (headC k c) fr h = some (.norm, fr', h') → runC n c fr h = runC n (tailC k c) fr' h'
  | 0, c, fr, h, fr', h', e => by
    have e : some (Ex.norm, fr, h) = some (Ex.norm, fr', h') := e
    cases e; rfl
  | k + 1, .seq a c, fr, h, fr', h', e => by
    have e : (match runC n a fr h with | some (.norm, fr, h) => runC n (headC k c) fr h | r => r) = some (Ex.norm, fr', h') := e
    show (match runC n a fr h with | some (.norm, fr, h) => runC n c fr h | r => r) = runC n (tailC k c) fr' h'
    split at e
    · rename_i fr1 h1 e1
      exact runC_split n k c fr1 h1 fr' h' e
    · rename_i r hr
      exact absurd e (hr _ _)
  | k + 1, .skip, fr, h, fr', h', e | k + 1, .region .., fr, h, fr', h', e | k + 1, .cond .., fr, h, fr', h', e | k + 1, .block .., fr, h, fr', h', e | k + 1, .loop .., fr, h, fr', h', e
  | k + 1, .exit .., fr, h, fr', h', e | k + 1, .ret, fr, h, fr', h', e => by
    first
    | exact e
    | (show _ = some (Ex.norm, fr', h'); exact e)
end Go.Proofs.YtncmgiddcefpcaaDoor
