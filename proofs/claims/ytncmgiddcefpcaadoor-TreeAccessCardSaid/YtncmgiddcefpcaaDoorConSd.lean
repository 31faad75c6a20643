/- Descriptors: in, Read, Write, Fetch, Call. -/
import Derived.Test.YtncmgiddcefpcaaDoorConRi
import Derived.Test.YtncmgiddcefpcaaDoorConSt
namespace Go.Proofs.YtncmgiddcefpcaaDoor
open Go Go.Ev Go.Con
set_option linter.unusedSimpArgs false
set_option linter.unusedVariables false
set_option maxRecDepth 100000
def sdC (x : Sd) : List Value := [.int .i64 x.uid, .int .i64 x.size, .bool x.f.r, .bool x.f.w, .bool x.f.e, .int .i64 x.b.r1, .int .i64 x.b.r2, .int .i64 x.b.r3, .int .i64 x.b.g]
def sdV (x : Sd) : Value := .agg #[.int .i64 x.uid, .int .i64 x.size, .bool x.f.r, .bool x.f.w, .bool x.f.e, .int .i64 x.b.r1, .int .i64 x.b.r2, .int .i64 x.b.r3, .int .i64 x.b.g]
theorem inX (x : Sd) (e off : Int) (h : Hp) : Meets kon 100 [.agg #[.int .i64 x.uid, .int .i64 x.size, .bool x.f.r, .bool x.f.w, .bool x.f.e, .int .i64 x.b.r1, .int .i64 x.b.r2, .int .i64 x.b.r3, .int .i64 x.b.g], .int .i64 e, .int .i64 off] h fun v h' =>
    v = .int .i64 (inE x e off) ∧ h' = h.push (.row (sdC x) 86 (.rw 0 [])) := by
  unfold sdC
  refine Meets.mk rfl (by kernel_rfl) Tryd.func100 rfl (congrArg Array.toList Tryd.results100) ?_
  repeat' (first | simp only [evr, nextP_norm, evd, evq, beq_self_eq_true, cond_true, cond_false, reduceIte, Nat.reduceEqDiff, Nat.reduceAdd, Int.reduceBNe, Int.reduceBEq, Int.reduceLT, Int.reduceLE, Int.reduceEq, evh, evp, Nat.reduceLeDiff, Nat.reduceSub, Nat.reduceBEq, typs] | refine kCond2_by (fun hc => ?_) (fun hc => ?_) <;> try simp only [hc] | refine kPick_by (fun hc => ?_) (fun hc => ?_) <;> try simp only [hc] | refine kWant_by (fun hc => ?_) (fun hc => ?_) <;> try simp only [hc])
  all_goals (congr 1; unfold inE; simp_all; try omega)
theorem sdRead_spec (x : Sd) (r off : Int) (h : Hp) : Meets kon 61 [sdV x, .int .i64 r, .int .i64 off] h fun v h' => v = .int .i64 (x.read r off) ∧ Keep h h' := by
  have h1 := fun h => (readX x.b x.f r h).call
  have h2 := fun e h => (inX x e off h).call
  unfold obB obF at h1
  unfold sdC at h2
  unfold sdV Sd.read
  refine Meets.mk rfl (by kernel_rfl) Tryd.func61 rfl (congrArg Array.toList Tryd.results61) ?_
  repeat' (first | simp only [evr, nextP_norm, evd, evq, beq_self_eq_true, cond_true, cond_false, reduceIte, Nat.reduceEqDiff, Nat.reduceAdd, Int.reduceBNe, Int.reduceBEq, Int.reduceLT, Int.reduceLE, Int.reduceEq, evh, evp, Nat.reduceLeDiff, Nat.reduceSub, Nat.reduceBEq, typs] | refine kCond2_by (fun hc => ?_) (fun hc => ?_) <;> try simp only [hc] | refine kPick_by (fun hc => ?_) (fun hc => ?_) <;> try simp only [hc] | refine kWant_by (fun hc => ?_) (fun hc => ?_) <;> try simp only [hc])
  refine Wp_drawE [1, 0, 1, 0, 1, 0, 3, 0, 4, 0] (KR.mk (by kernel_rfl)) ?_
  repeat' (first | simp only [evr, nextP_norm, evd, evq, beq_self_eq_true, cond_true, cond_false, reduceIte, Nat.reduceEqDiff, Nat.reduceAdd, Int.reduceBNe, Int.reduceBEq, Int.reduceLT, Int.reduceLE, Int.reduceEq, evh, evp, Nat.reduceLeDiff, Nat.reduceSub, Nat.reduceBEq, typs, h1, h2] | refine kCond2_by (fun hc => ?_) (fun hc => ?_) <;> try simp only [hc] | refine kPick_by (fun hc => ?_) (fun hc => ?_) <;> try simp only [hc] | refine kWant_by (fun hc => ?_) (fun hc => ?_) <;> try simp only [hc])
  exact (((((Keep.push _ _).pushed).pushed).pushed).pushed).pushed
theorem sdWrite_spec (x : Sd) (r off : Int) (h : Hp) : Meets kon 63 [sdV x, .int .i64 r, .int .i64 off] h fun v h' => v = .int .i64 (x.write r off) ∧ Keep h h' := by
  have h1 := fun h => (writeX x.b x.f r h).call
  have h2 := fun e h => (inX x e off h).call
  unfold obB obF at h1
  unfold sdC at h2
  unfold sdV Sd.write
  refine Meets.mk rfl (by kernel_rfl) Tryd.func63 rfl (congrArg Array.toList Tryd.results63) ?_
  repeat' (first | simp only [evr, nextP_norm, evd, evq, beq_self_eq_true, cond_true, cond_false, reduceIte, Nat.reduceEqDiff, Nat.reduceAdd, Int.reduceBNe, Int.reduceBEq, Int.reduceLT, Int.reduceLE, Int.reduceEq, evh, evp, Nat.reduceLeDiff, Nat.reduceSub, Nat.reduceBEq, typs] | refine kCond2_by (fun hc => ?_) (fun hc => ?_) <;> try simp only [hc] | refine kPick_by (fun hc => ?_) (fun hc => ?_) <;> try simp only [hc] | refine kWant_by (fun hc => ?_) (fun hc => ?_) <;> try simp only [hc])
  refine Wp_drawE [1, 0, 1, 0, 1, 0, 3, 0, 4, 0] (KR.mk (by kernel_rfl)) ?_
  repeat' (first | simp only [evr, nextP_norm, evd, evq, beq_self_eq_true, cond_true, cond_false, reduceIte, Nat.reduceEqDiff, Nat.reduceAdd, Int.reduceBNe, Int.reduceBEq, Int.reduceLT, Int.reduceLE, Int.reduceEq, evh, evp, Nat.reduceLeDiff, Nat.reduceSub, Nat.reduceBEq, typs, h1, h2] | refine kCond2_by (fun hc => ?_) (fun hc => ?_) <;> try simp only [hc] | refine kPick_by (fun hc => ?_) (fun hc => ?_) <;> try simp only [hc] | refine kWant_by (fun hc => ?_) (fun hc => ?_) <;> try simp only [hc])
  exact (((((Keep.push _ _).pushed).pushed).pushed).pushed).pushed
theorem sdFetch_spec (x : Sd) (r off : Int) (h : Hp) : Meets kon 64 [sdV x, .int .i64 r, .int .i64 off] h fun v h' => v = .int .i64 (x.fetch r off) ∧ Keep h h' := by
  have h1 := fun h => (execX x.b x.f r h).call
  have h2 := fun e h => (inX x e off h).call
  unfold obB obF at h1
  unfold sdC at h2
  unfold sdV Sd.fetch
  refine Meets.mk rfl (by kernel_rfl) Tryd.func64 rfl (congrArg Array.toList Tryd.results64) ?_
  repeat' (first | simp only [evr, nextP_norm, evd, evq, beq_self_eq_true, cond_true, cond_false, reduceIte, Nat.reduceEqDiff, Nat.reduceAdd, Int.reduceBNe, Int.reduceBEq, Int.reduceLT, Int.reduceLE, Int.reduceEq, evh, evp, Nat.reduceLeDiff, Nat.reduceSub, Nat.reduceBEq, typs] | refine kCond2_by (fun hc => ?_) (fun hc => ?_) <;> try simp only [hc] | refine kPick_by (fun hc => ?_) (fun hc => ?_) <;> try simp only [hc] | refine kWant_by (fun hc => ?_) (fun hc => ?_) <;> try simp only [hc])
  refine Wp_drawE [1, 0, 1, 0, 1, 0, 3, 0, 4, 0] (KR.mk (by kernel_rfl)) ?_
  repeat' (first | simp only [evr, nextP_norm, evd, evq, beq_self_eq_true, cond_true, cond_false, reduceIte, Nat.reduceEqDiff, Nat.reduceAdd, Int.reduceBNe, Int.reduceBEq, Int.reduceLT, Int.reduceLE, Int.reduceEq, evh, evp, Nat.reduceLeDiff, Nat.reduceSub, Nat.reduceBEq, typs, h1, h2] | refine kCond2_by (fun hc => ?_) (fun hc => ?_) <;> try simp only [hc] | refine kPick_by (fun hc => ?_) (fun hc => ?_) <;> try simp only [hc] | refine kWant_by (fun hc => ?_) (fun hc => ?_) <;> try simp only [hc])
  exact (((((Keep.push _ _).pushed).pushed).pushed).pushed).pushed
theorem sdCall_spec (x : Sd) (r off : Int) (h : Hp) : Meets kon 59 [sdV x, .int .i64 r, .int .i64 off] h fun v h' => v = .tuple #[.int .i64 (x.call r off).1, .int .i64 (x.call r off).2] ∧ Keep h h' := by
  have h1 := fun h => (callX x.b x.f r off h).call
  have h2 := fun e h => (inX x e off h).call
  unfold obB obF at h1
  unfold sdC at h2
  unfold sdV Sd.call
  refine Meets.mk rfl (by kernel_rfl) Tryd.func59 rfl (congrArg Array.toList Tryd.results59) ?_
  by_cases he : inE x (callE x.b x.f r off).2 off = 0
  · have e1 : (inE x (callE x.b x.f r off).2 off != 0) = false := by simp [he]
    repeat' (first | simp only [evr, nextP_norm, evd, evq, beq_self_eq_true, cond_true, cond_false, reduceIte, Nat.reduceEqDiff, Nat.reduceAdd, Int.reduceBNe, Int.reduceBEq, Int.reduceLT, Int.reduceLE, Int.reduceEq, evh, evp, Nat.reduceLeDiff, Nat.reduceSub, Nat.reduceBEq, typs, h1, h2, e1] | refine kCond2_by (fun hc => ?_) (fun hc => ?_) <;> try simp only [hc] | refine kPick_by (fun hc => ?_) (fun hc => ?_) <;> try simp only [hc] | refine kWant_by (fun hc => ?_) (fun hc => ?_) <;> try simp only [hc])
    simp only [he, if_true, true_and]
    exact (((((Keep.push _ _).pushed).pushed).pushed).pushed).pushed
  · have e1 : (inE x (callE x.b x.f r off).2 off != 0) = true := by simp [he]
    repeat' (first | simp only [evr, nextP_norm, evd, evq, beq_self_eq_true, cond_true, cond_false, reduceIte, Nat.reduceEqDiff, Nat.reduceAdd, Int.reduceBNe, Int.reduceBEq, Int.reduceLT, Int.reduceLE, Int.reduceEq, evh, evp, Nat.reduceLeDiff, Nat.reduceSub, Nat.reduceBEq, typs, h1, h2, e1] | refine kCond2_by (fun hc => ?_) (fun hc => ?_) <;> try simp only [hc] | refine kPick_by (fun hc => ?_) (fun hc => ?_) <;> try simp only [hc] | refine kWant_by (fun hc => ?_) (fun hc => ?_) <;> try simp only [hc])
    simp only [he, if_false, true_and]
    exact (((((Keep.push _ _).pushed).pushed).pushed).pushed).pushed
end Go.Proofs.YtncmgiddcefpcaaDoor
