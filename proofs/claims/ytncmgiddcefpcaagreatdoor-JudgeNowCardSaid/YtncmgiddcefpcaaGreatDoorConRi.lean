/- Brackets and flags: what the program's and the reference's functions say of a ring. -/
import Derived.Test.YtncmgiddcefpcaaGreatDoorConT
import Derived.Test.YtncmgiddcefpcaaGreatDoorEvM4
namespace Go.Proofs.YtncmgiddcefpcaaGreatDoor
open Go Go.Ev Go.Con
set_option linter.unusedSimpArgs false
set_option linter.unusedVariables false
set_option maxRecDepth 100000
def obB (b : Bk) : Ob := .row [.int .i64 b.r1, .int .i64 b.r2, .int .i64 b.r3, .int .i64 b.g] 32 (.rw 0 [])
def obF (f : Fl) : Ob := .row [.bool f.r, .bool f.w, .bool f.e] 62 (.rw 0 [])
theorem ringMayX (b : Bk) (h : Hp) : Meets kon 71 [.agg #[.int .i64 b.r1, .int .i64 b.r2, .int .i64 b.r3, .int .i64 b.g]] h fun v h' => v = .bool (bkMay b) ∧ h' = h.push (obB b) := by
  unfold obB
  refine Meets.mk rfl (by kernel_rfl) Tryz.func71 rfl (congrArg Array.toList Tryz.results71) ?_
  repeat' (first | simp only [evr, nextP_norm, evd, evq, beq_self_eq_true, cond_true, cond_false, reduceIte, Nat.reduceEqDiff, Nat.reduceAdd, Int.reduceBNe, Int.reduceBEq, Int.reduceLT, Int.reduceLE, Int.reduceEq, evh, evp, Nat.reduceLeDiff, Nat.reduceSub, Nat.reduceBEq, typs] | refine kCond2_by (fun hc => ?_) (fun hc => ?_) <;> try simp only [hc] | refine kPick_by (fun hc => ?_) (fun hc => ?_) <;> try simp only [hc] | refine kWant_by (fun hc => ?_) (fun hc => ?_) <;> try simp only [hc])
  all_goals (congr 1; unfold bkMay; simp_all; try (intros; omega))
theorem refRingMayX (b : Bk) (h : Hp) : Meets kon 28 [.agg #[.int .i64 b.r1, .int .i64 b.r2, .int .i64 b.r3, .int .i64 b.g]] h fun v h' => v = .bool (bkMay b) ∧ h' = h.push (obB b) := by
  unfold obB
  refine Meets.mk rfl (by kernel_rfl) Tryz.func28 rfl (congrArg Array.toList Tryz.results28) ?_
  repeat' (first | simp only [evr, nextP_norm, evd, evq, beq_self_eq_true, cond_true, cond_false, reduceIte, Nat.reduceEqDiff, Nat.reduceAdd, Int.reduceBNe, Int.reduceBEq, Int.reduceLT, Int.reduceLE, Int.reduceEq, evh, evp, Nat.reduceLeDiff, Nat.reduceSub, Nat.reduceBEq, typs] | refine kCond2_by (fun hc => ?_) (fun hc => ?_) <;> try simp only [hc] | refine kPick_by (fun hc => ?_) (fun hc => ?_) <;> try simp only [hc] | refine kWant_by (fun hc => ?_) (fun hc => ?_) <;> try simp only [hc])
  all_goals (congr 1; unfold bkMay; simp_all; try (intros; omega))
theorem fineX (b : Bk) (r : Int) (h : Hp) : Meets kon 107 [.agg #[.int .i64 b.r1, .int .i64 b.r2, .int .i64 b.r3, .int .i64 b.g], .int .i64 r] h fun v h' => v = .bool (fineB b r) ∧ h' = (h.push (obB b)).push (obB b) := by
  have hm := fun h => (ringMayX b h).call
  unfold obB at *
  unfold fineB
  refine Meets.mk rfl (by kernel_rfl) Tryz.func107 rfl (congrArg Array.toList Tryz.results107) ?_
  cases hb : bkMay b <;> rw [hb] at hm <;> repeat' (first | simp only [evr, nextP_norm, evd, evq, beq_self_eq_true, cond_true, cond_false, reduceIte, Nat.reduceEqDiff, Nat.reduceAdd, Int.reduceBNe, Int.reduceBEq, Int.reduceLT, Int.reduceLE, Int.reduceEq, evh, evp, Nat.reduceLeDiff, Nat.reduceSub, Nat.reduceBEq, typs, hm] | refine kCond2_by (fun hc => ?_) (fun hc => ?_) <;> try simp only [hc] | refine kPick_by (fun hc => ?_) (fun hc => ?_) <;> try simp only [hc] | refine kWant_by (fun hc => ?_) (fun hc => ?_) <;> try simp only [hc])
  all_goals (clear hm; congr 1; (try simp_all); (try omega))
theorem readX (b : Bk) (f : Fl) (r : Int) (h : Hp) : Meets kon 92 [.agg #[.int .i64 b.r1, .int .i64 b.r2, .int .i64 b.r3, .int .i64 b.g], .agg #[.bool f.r, .bool f.w, .bool f.e], .int .i64 r] h fun v h' =>
    v = .int .i64 (readE b f r) ∧ h' = (((h.push (obB b)).push (obF f)).push (obB b)).push (obB b) := by
  have hm := fun h => (fineX b r h).call
  unfold obB at *
  unfold obF readE
  refine Meets.mk rfl (by kernel_rfl) Tryz.func92 rfl (congrArg Array.toList Tryz.results92) ?_
  cases hb : fineB b r <;> rw [hb] at hm <;> repeat' (first | simp only [evr, nextP_norm, evd, evq, beq_self_eq_true, cond_true, cond_false, reduceIte, Nat.reduceEqDiff, Nat.reduceAdd, Int.reduceBNe, Int.reduceBEq, Int.reduceLT, Int.reduceLE, Int.reduceEq, evh, evp, Nat.reduceLeDiff, Nat.reduceSub, Nat.reduceBEq, typs, hm] | refine kCond2_by (fun hc => ?_) (fun hc => ?_) <;> try simp only [hc] | refine kPick_by (fun hc => ?_) (fun hc => ?_) <;> try simp only [hc] | refine kWant_by (fun hc => ?_) (fun hc => ?_) <;> try simp only [hc])
  all_goals (clear hm; congr 1; (try simp_all); (try omega))
theorem writeX (b : Bk) (f : Fl) (r : Int) (h : Hp) : Meets kon 93 [.agg #[.int .i64 b.r1, .int .i64 b.r2, .int .i64 b.r3, .int .i64 b.g], .agg #[.bool f.r, .bool f.w, .bool f.e], .int .i64 r] h fun v h' =>
    v = .int .i64 (writeE b f r) ∧ h' = (((h.push (obB b)).push (obF f)).push (obB b)).push (obB b) := by
  have hm := fun h => (fineX b r h).call
  unfold obB at *
  unfold obF writeE
  refine Meets.mk rfl (by kernel_rfl) Tryz.func93 rfl (congrArg Array.toList Tryz.results93) ?_
  cases hb : fineB b r <;> rw [hb] at hm <;> repeat' (first | simp only [evr, nextP_norm, evd, evq, beq_self_eq_true, cond_true, cond_false, reduceIte, Nat.reduceEqDiff, Nat.reduceAdd, Int.reduceBNe, Int.reduceBEq, Int.reduceLT, Int.reduceLE, Int.reduceEq, evh, evp, Nat.reduceLeDiff, Nat.reduceSub, Nat.reduceBEq, typs, hm] | refine kCond2_by (fun hc => ?_) (fun hc => ?_) <;> try simp only [hc] | refine kPick_by (fun hc => ?_) (fun hc => ?_) <;> try simp only [hc] | refine kWant_by (fun hc => ?_) (fun hc => ?_) <;> try simp only [hc])
  all_goals (clear hm; congr 1; (try simp_all); (try omega))
theorem execX (b : Bk) (f : Fl) (r : Int) (h : Hp) : Meets kon 91 [.agg #[.int .i64 b.r1, .int .i64 b.r2, .int .i64 b.r3, .int .i64 b.g], .agg #[.bool f.r, .bool f.w, .bool f.e], .int .i64 r] h fun v h' =>
    v = .int .i64 (execE b f r) ∧ h' = (((h.push (obB b)).push (obF f)).push (obB b)).push (obB b) := by
  have hm := fun h => (fineX b r h).call
  unfold obB at *
  unfold obF execE
  refine Meets.mk rfl (by kernel_rfl) Tryz.func91 rfl (congrArg Array.toList Tryz.results91) ?_
  cases hb : fineB b r <;> rw [hb] at hm <;> repeat' (first | simp only [evr, nextP_norm, evd, evq, beq_self_eq_true, cond_true, cond_false, reduceIte, Nat.reduceEqDiff, Nat.reduceAdd, Int.reduceBNe, Int.reduceBEq, Int.reduceLT, Int.reduceLE, Int.reduceEq, evh, evp, Nat.reduceLeDiff, Nat.reduceSub, Nat.reduceBEq, typs, hm] | refine kCond2_by (fun hc => ?_) (fun hc => ?_) <;> try simp only [hc] | refine kPick_by (fun hc => ?_) (fun hc => ?_) <;> try simp only [hc] | refine kWant_by (fun hc => ?_) (fun hc => ?_) <;> try simp only [hc])
  all_goals (clear hm; congr 1; (try simp_all); (try omega))
set_option maxHeartbeats 2000000 in
theorem callX (b : Bk) (f : Fl) (r off : Int) (h : Hp) : Meets kon 94 [.agg #[.int .i64 b.r1, .int .i64 b.r2, .int .i64 b.r3, .int .i64 b.g], .agg #[.bool f.r, .bool f.w, .bool f.e], .int .i64 r, .int .i64 off] h fun v h' =>
    v = .tuple #[.int .i64 (callE b f r off).1, .int .i64 (callE b f r off).2] ∧ h' = (((h.push (obB b)).push (obF f)).push (obB b)).push (obB b) := by
  have hm := fun h => (fineX b r h).call
  unfold obB at *
  unfold obF callE
  refine Meets.mk rfl (by kernel_rfl) Tryz.func94 rfl (congrArg Array.toList Tryz.results94) ?_
  cases hb : fineB b r <;> rw [hb] at hm <;> repeat' (first | simp only [evr, nextP_norm, evd, evq, beq_self_eq_true, cond_true, cond_false, reduceIte, Nat.reduceEqDiff, Nat.reduceAdd, Int.reduceBNe, Int.reduceBEq, Int.reduceLT, Int.reduceLE, Int.reduceEq, evh, evp, Nat.reduceLeDiff, Nat.reduceSub, Nat.reduceBEq, typs, hm] | refine kCond2_by (fun hc => ?_) (fun hc => ?_) <;> try simp only [hc] | refine kPick_by (fun hc => ?_) (fun hc => ?_) <;> try simp only [hc] | refine kWant_by (fun hc => ?_) (fun hc => ?_) <;> try simp only [hc])
  all_goals (clear hm; (try simp_all); (try omega); (try ((repeat' (first | rw [if_pos (by omega)] | rw [if_neg (by omega)])) <;> exact ⟨rfl, rfl⟩)))
set_option maxHeartbeats 2000000 in
theorem rCallX (b : Bk) (f : Fl) (r off : Int) (h : Hp) : Meets kon 67 [.agg #[.int .i64 b.r1, .int .i64 b.r2, .int .i64 b.r3, .int .i64 b.g], .agg #[.bool f.r, .bool f.w, .bool f.e], .int .i64 r, .int .i64 off] h fun v h' =>
    v = .tuple #[.int .i64 (callE b f r off).1, .int .i64 (callE b f r off).2] ∧ h' = ((h.push (obB b)).push (obF f)).push (obB b) := by
  have hm := fun h => (refRingMayX b h).call
  unfold obB at *
  unfold obF callE fineB
  refine Meets.mk rfl (by kernel_rfl) Tryz.func67 rfl (congrArg Array.toList Tryz.results67) ?_
  cases hb : bkMay b <;> rw [hb] at hm <;> repeat' (first | simp only [evr, nextP_norm, evd, evq, beq_self_eq_true, cond_true, cond_false, reduceIte, Nat.reduceEqDiff, Nat.reduceAdd, Int.reduceBNe, Int.reduceBEq, Int.reduceLT, Int.reduceLE, Int.reduceEq, evh, evp, Nat.reduceLeDiff, Nat.reduceSub, Nat.reduceBEq, typs, hm] | refine kCond2_by (fun hc => ?_) (fun hc => ?_) <;> try simp only [hc] | refine kPick_by (fun hc => ?_) (fun hc => ?_) <;> try simp only [hc] | refine kWant_by (fun hc => ?_) (fun hc => ?_) <;> try simp only [hc])
  all_goals (clear hm; (try simp_all); (try omega); (try ((repeat' (first | rw [if_pos (by omega)] | rw [if_neg (by omega)])) <;> exact ⟨rfl, rfl⟩)))
/-- What the reference says of an access. -/
def doE (k : Int) (b : Bk) (f : Fl) (r : Int) : Int := if k = 3 then writeE b f r else if k = 1 then execE b f r else readE b f r
set_option maxHeartbeats 2000000 in
theorem rDoX (k : Int) (b : Bk) (f : Fl) (r : Int) (h : Hp) : Meets kon 66 [.int .i64 k, .agg #[.int .i64 b.r1, .int .i64 b.r2, .int .i64 b.r3, .int .i64 b.g], .agg #[.bool f.r, .bool f.w, .bool f.e], .int .i64 r] h fun v h' =>
    v = .int .i64 (doE k b f r) ∧ h' = ((h.push (obB b)).push (obF f)).push (obB b) := by
  have hm := fun h => (refRingMayX b h).call
  unfold obB at *
  unfold obF doE
  refine Meets.mk rfl (by kernel_rfl) Tryz.func66 rfl (congrArg Array.toList Tryz.results66) ?_
  cases hb : bkMay b with
  | false =>
    have e1 : fineB b r = false := by unfold fineB; rw [hb]; rfl
    rw [hb] at hm
    repeat' (first | simp only [evr, nextP_norm, evd, evq, beq_self_eq_true, cond_true, cond_false, reduceIte, Nat.reduceEqDiff, Nat.reduceAdd, Int.reduceBNe, Int.reduceBEq, Int.reduceLT, Int.reduceLE, Int.reduceEq, evh, evp, Nat.reduceLeDiff, Nat.reduceSub, Nat.reduceBEq, typs, hm] | refine kCond2_by (fun hc => ?_) (fun hc => ?_) <;> try simp only [hc] | refine kPick_by (fun hc => ?_) (fun hc => ?_) <;> try simp only [hc] | refine kWant_by (fun hc => ?_) (fun hc => ?_) <;> try simp only [hc])
    all_goals (clear hm; unfold writeE execE readE; simp [e1])
  | true =>
    rw [hb] at hm
    by_cases h0 : r < 0
    · have e1 : fineB b r = false := by unfold fineB; simp; omega
      have e2 : decide (r < 0) = true := decide_eq_true h0
      repeat' (first | simp only [evr, nextP_norm, evd, evq, beq_self_eq_true, cond_true, cond_false, reduceIte, Nat.reduceEqDiff, Nat.reduceAdd, Int.reduceBNe, Int.reduceBEq, Int.reduceLT, Int.reduceLE, Int.reduceEq, evh, evp, Nat.reduceLeDiff, Nat.reduceSub, Nat.reduceBEq, typs, hm, e2] | refine kCond2_by (fun hc => ?_) (fun hc => ?_) <;> try simp only [hc] | refine kPick_by (fun hc => ?_) (fun hc => ?_) <;> try simp only [hc] | refine kWant_by (fun hc => ?_) (fun hc => ?_) <;> try simp only [hc])
      all_goals (clear hm; unfold writeE execE readE; simp [e1])
    · have e2 : decide (r < 0) = false := decide_eq_false h0
      by_cases h7 : 7 < r
      · have e1 : fineB b r = false := by unfold fineB; simp; omega
        have e3 : decide ((7 : Int) < r) = true := decide_eq_true h7
        repeat' (first | simp only [evr, nextP_norm, evd, evq, beq_self_eq_true, cond_true, cond_false, reduceIte, Nat.reduceEqDiff, Nat.reduceAdd, Int.reduceBNe, Int.reduceBEq, Int.reduceLT, Int.reduceLE, Int.reduceEq, evh, evp, Nat.reduceLeDiff, Nat.reduceSub, Nat.reduceBEq, typs, hm, e2, e3] | refine kCond2_by (fun hc => ?_) (fun hc => ?_) <;> try simp only [hc] | refine kPick_by (fun hc => ?_) (fun hc => ?_) <;> try simp only [hc] | refine kWant_by (fun hc => ?_) (fun hc => ?_) <;> try simp only [hc])
        all_goals (clear hm; unfold writeE execE readE; simp [e1])
      · have e1 : fineB b r = true := by unfold fineB; rw [hb]; simp; omega
        have e3 : decide ((7 : Int) < r) = false := decide_eq_false h7
        repeat' (first | simp only [evr, nextP_norm, evd, evq, beq_self_eq_true, cond_true, cond_false, reduceIte, Nat.reduceEqDiff, Nat.reduceAdd, Int.reduceBNe, Int.reduceBEq, Int.reduceLT, Int.reduceLE, Int.reduceEq, evh, evp, Nat.reduceLeDiff, Nat.reduceSub, Nat.reduceBEq, typs, hm, e2, e3] | refine kCond2_by (fun hc => ?_) (fun hc => ?_) <;> try simp only [hc] | refine kPick_by (fun hc => ?_) (fun hc => ?_) <;> try simp only [hc] | refine kWant_by (fun hc => ?_) (fun hc => ?_) <;> try simp only [hc])
        refine Eq.mpr (Wp_drawOrd (KR.mk (by kernel_rfl))) ?_
        by_cases k3 : k = 3
        · subst k3
          repeat' (first | simp only [evr, nextP_norm, evd, evq, beq_self_eq_true, cond_true, cond_false, reduceIte, Nat.reduceEqDiff, Nat.reduceAdd, Int.reduceBNe, Int.reduceBEq, Int.reduceLT, Int.reduceLE, Int.reduceEq, evh, evp, Nat.reduceLeDiff, Nat.reduceSub, Nat.reduceBEq, typs] | refine kCond2_by (fun hc => ?_) (fun hc => ?_) <;> try simp only [hc] | refine kPick_by (fun hc => ?_) (fun hc => ?_) <;> try simp only [hc] | refine kWant_by (fun hc => ?_) (fun hc => ?_) <;> try simp only [hc])
          refine Eq.mpr (Wp_drawOrd (KR.mk (by kernel_rfl))) ?_
          repeat' (first | simp only [evr, nextP_norm, evd, evq, beq_self_eq_true, cond_true, cond_false, reduceIte, Nat.reduceEqDiff, Nat.reduceAdd, Int.reduceBNe, Int.reduceBEq, Int.reduceLT, Int.reduceLE, Int.reduceEq, evh, evp, Nat.reduceLeDiff, Nat.reduceSub, Nat.reduceBEq, typs] | refine kCond2_by (fun hc => ?_) (fun hc => ?_) <;> try simp only [hc] | refine kPick_by (fun hc => ?_) (fun hc => ?_) <;> try simp only [hc] | refine kWant_by (fun hc => ?_) (fun hc => ?_) <;> try simp only [hc])
          all_goals (clear hm; unfold writeE; simp_all; try omega)
        · have f3 : (k == 3) = false := by simp [k3]
          by_cases k1 : k = 1
          · subst k1
            repeat' (first | simp only [evr, nextP_norm, evd, evq, beq_self_eq_true, cond_true, cond_false, reduceIte, Nat.reduceEqDiff, Nat.reduceAdd, Int.reduceBNe, Int.reduceBEq, Int.reduceLT, Int.reduceLE, Int.reduceEq, evh, evp, Nat.reduceLeDiff, Nat.reduceSub, Nat.reduceBEq, typs, f3] | refine kCond2_by (fun hc => ?_) (fun hc => ?_) <;> try simp only [hc] | refine kPick_by (fun hc => ?_) (fun hc => ?_) <;> try simp only [hc] | refine kWant_by (fun hc => ?_) (fun hc => ?_) <;> try simp only [hc])
            refine Eq.mpr (Wp_drawOrd (KR.mk (by kernel_rfl))) ?_
            repeat' (first | simp only [evr, nextP_norm, evd, evq, beq_self_eq_true, cond_true, cond_false, reduceIte, Nat.reduceEqDiff, Nat.reduceAdd, Int.reduceBNe, Int.reduceBEq, Int.reduceLT, Int.reduceLE, Int.reduceEq, evh, evp, Nat.reduceLeDiff, Nat.reduceSub, Nat.reduceBEq, typs] | refine kCond2_by (fun hc => ?_) (fun hc => ?_) <;> try simp only [hc] | refine kPick_by (fun hc => ?_) (fun hc => ?_) <;> try simp only [hc] | refine kWant_by (fun hc => ?_) (fun hc => ?_) <;> try simp only [hc])
            all_goals (clear hm; unfold execE; simp_all; try omega)
          · have f1 : (k == 1) = false := by simp [k1]
            repeat' (first | simp only [evr, nextP_norm, evd, evq, beq_self_eq_true, cond_true, cond_false, reduceIte, Nat.reduceEqDiff, Nat.reduceAdd, Int.reduceBNe, Int.reduceBEq, Int.reduceLT, Int.reduceLE, Int.reduceEq, evh, evp, Nat.reduceLeDiff, Nat.reduceSub, Nat.reduceBEq, typs, f3, f1] | refine kCond2_by (fun hc => ?_) (fun hc => ?_) <;> try simp only [hc] | refine kPick_by (fun hc => ?_) (fun hc => ?_) <;> try simp only [hc] | refine kWant_by (fun hc => ?_) (fun hc => ?_) <;> try simp only [hc])
            all_goals (clear hm; unfold readE; simp_all; try omega)
end Go.Proofs.YtncmgiddcefpcaaGreatDoor
