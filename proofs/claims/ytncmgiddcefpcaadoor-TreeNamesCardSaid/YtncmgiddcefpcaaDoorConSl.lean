/- The tree in the heap: Len (seat D alone has its body). -/
import Derived.Test.YtncmgiddcefpcaaDoorConS
namespace Go.Proofs.YtncmgiddcefpcaaDoor
open Go Go.Ev Go.Con
set_option linter.unusedSimpArgs false
set_option linter.unusedVariables false
set_option maxRecDepth 100000
section
variable {h : Hp} {F : Nat → Prop} {T : Hi} {bt : Nat}
theorem tLen_spec (t : TreeAt h F T bt) (d : Int) : Meets kon 70 [ptrV bt, .int .i64 d] h fun v h' => v = .int .i64 (if T.is d = true then (T.count d : Int) else 0) ∧ h' = h := by
  obtain ⟨bl, bd, bu, nb, t⟩ := t
  have hr := rowOf_rw t.core.row
  have hl := t.core.lookD d false
  have : evLookup kon.P 116 (.map (some bd)) (.int .i64 d) false h = some (.int .i64 (if T.is d = true then (T.count d : Int) else 0)) := by
    rw [hl]; unfold Hi.dirF; cases T.is d <;> rfl
  unfold ptrV
  refine Meets.mk rfl (by kernel_rfl) Tryd.func70 rfl (congrArg Array.toList Tryd.results70) ?_
  simp only [evr, nextP_norm, evd, evq, beq_self_eq_true, cond_true, cond_false, reduceIte, Nat.reduceEqDiff, Nat.reduceAdd, Int.reduceBNe, Int.reduceBEq, Int.reduceLT, Int.reduceLE, Int.reduceEq, evh, evp, Nat.reduceLeDiff, Nat.reduceSub, Nat.reduceBEq, typs, hr, this]
end
end Go.Proofs.YtncmgiddcefpcaaDoor
