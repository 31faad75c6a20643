/- Texts joined: what the claim needs of them. No condition. -/
import Derived.Test.YtncmgiddcefpcaaGreatDoorBin11
import Derived.Test.YtncmgiddcefpcaaGreatDoorBin13
import Derived.Test.YtncmgiddcefpcaaGreatDoorRows
import Derived.JoinedOf
import Derived.SevenTiedAt
namespace Go.Proofs.YtncmgiddcefpcaaGreatDoor
open Go Go.Ev Go.RowKit Go.Con
set_option linter.unusedSimpArgs false
set_option linter.unusedVariables false
set_option maxRecDepth 1000000
set_option maxHeartbeats 8000000 in
theorem rulesFind_true {h : Hp} {vl vx va : Value} {l : List Dd} {x : List Rl} {ask : List ByteArray} (sl : DdSl h vl l) (sx : RlSl h vx x) (sa : StrSl h va ask) : Meets kon 9 [vl, vx, va] h fun v _ => v = .bool true := by
  have aw := fun h Q => awake_call (f := 38) rfl h Q
  have ll := sl.len
  have lx := RlSl.len sx
  have la := StrSl.len sa
  have sp := (small_spec sl).call
  refine Meets.mk rfl (by kernel_rfl) Tryz.func9 rfl (congrArg Array.toList Tryz.results9) ?_
  cases hs : small l with
  | false =>
    rw [hs] at sp
    repeat' (first | simp only [evr, nextP_norm, evd, evq, beq_self_eq_true, cond_true, cond_false, reduceIte, Nat.reduceEqDiff, Nat.reduceAdd, Int.reduceBNe, Int.reduceBEq, Int.reduceLT, Int.reduceLE, Int.reduceEq, evh, evp, Nat.reduceLeDiff, Nat.reduceSub, Nat.reduceBEq, typs, aw, sp] | refine kCond2_by (fun hc => ?_) (fun hc => ?_) <;> try simp only [hc] | refine kPick_by (fun hc => ?_) (fun hc => ?_) <;> try simp only [hc] | refine kWant_by (fun hc => ?_) (fun hc => ?_) <;> try simp only [hc])
  | true =>
    rw [hs] at sp
    by_cases hm : 40 < x.length
    · have f1 : decide ((40 : Int) < (x.length : Int)) = true := decide_eq_true (by omega)
      repeat' (first | simp only [evr, nextP_norm, evd, evq, beq_self_eq_true, cond_true, cond_false, reduceIte, Nat.reduceEqDiff, Nat.reduceAdd, Int.reduceBNe, Int.reduceBEq, Int.reduceLT, Int.reduceLE, Int.reduceEq, evh, evp, Nat.reduceLeDiff, Nat.reduceSub, Nat.reduceBEq, typs, aw, sp, lx, f1] | refine kCond2_by (fun hc => ?_) (fun hc => ?_) <;> try simp only [hc] | refine kPick_by (fun hc => ?_) (fun hc => ?_) <;> try simp only [hc] | refine kWant_by (fun hc => ?_) (fun hc => ?_) <;> try simp only [hc])
    have f1 : decide ((40 : Int) < (x.length : Int)) = false := decide_eq_false (by omega)
    by_cases hm1 : ask.length < 1
    · have f2 : decide ((ask.length : Int) < (1 : Int)) = true := decide_eq_true (by omega)
      repeat' (first | simp only [evr, nextP_norm, evd, evq, beq_self_eq_true, cond_true, cond_false, reduceIte, Nat.reduceEqDiff, Nat.reduceAdd, Int.reduceBNe, Int.reduceBEq, Int.reduceLT, Int.reduceLE, Int.reduceEq, evh, evp, Nat.reduceLeDiff, Nat.reduceSub, Nat.reduceBEq, typs, aw, sp, lx, f1, la, f2] | refine kCond2_by (fun hc => ?_) (fun hc => ?_) <;> try simp only [hc] | refine kPick_by (fun hc => ?_) (fun hc => ?_) <;> try simp only [hc] | refine kWant_by (fun hc => ?_) (fun hc => ?_) <;> try simp only [hc])
    have f2 : decide ((ask.length : Int) < (1 : Int)) = false := decide_eq_false (by omega)
    by_cases hm2 : 20 < ask.length
    · have f3 : decide ((20 : Int) < (ask.length : Int)) = true := decide_eq_true (by omega)
      repeat' (first | simp only [evr, nextP_norm, evd, evq, beq_self_eq_true, cond_true, cond_false, reduceIte, Nat.reduceEqDiff, Nat.reduceAdd, Int.reduceBNe, Int.reduceBEq, Int.reduceLT, Int.reduceLE, Int.reduceEq, evh, evp, Nat.reduceLeDiff, Nat.reduceSub, Nat.reduceBEq, typs, aw, sp, lx, f1, la, f2, f3] | refine kCond2_by (fun hc => ?_) (fun hc => ?_) <;> try simp only [hc] | refine kPick_by (fun hc => ?_) (fun hc => ?_) <;> try simp only [hc] | refine kWant_by (fun hc => ?_) (fun hc => ?_) <;> try simp only [hc])
    have f3 : decide ((20 : Int) < (ask.length : Int)) = false := decide_eq_false (by omega)
    repeat' (first | simp only [evr, nextP_norm, evd, evq, beq_self_eq_true, cond_true, cond_false, reduceIte, Nat.reduceEqDiff, Nat.reduceAdd, Int.reduceBNe, Int.reduceBEq, Int.reduceLT, Int.reduceLE, Int.reduceEq, evh, evp, Nat.reduceLeDiff, Nat.reduceSub, Nat.reduceBEq, typs, aw, sp, lx, f1, la, f2, f3] | refine kCond2_by (fun hc => ?_) (fun hc => ?_) <;> try simp only [hc] | refine kPick_by (fun hc => ?_) (fun hc => ?_) <;> try simp only [hc] | refine kWant_by (fun hc => ?_) (fun hc => ?_) <;> try simp only [hc])
    refine callP_meets (tNew_spec h) ?_
    rintro _ h1 ⟨F, bt, rfl, k1, t1, fF⟩
    unfold ptrV
    repeat' (first | simp only [evr, nextP_norm, evd, evq, beq_self_eq_true, cond_true, cond_false, reduceIte, Nat.reduceEqDiff, Nat.reduceAdd, Int.reduceBNe, Int.reduceBEq, Int.reduceLT, Int.reduceLE, Int.reduceEq, evh, evp, Nat.reduceLeDiff, Nat.reduceSub, Nat.reduceBEq, typs] | refine kCond2_by (fun hc => ?_) (fun hc => ?_) <;> try simp only [hc] | refine kPick_by (fun hc => ?_) (fun hc => ?_) <;> try simp only [hc] | refine kWant_by (fun hc => ?_) (fun hc => ?_) <;> try simp only [hc])
    refine callP_meets (rNew_spec h1) ?_
    rintro _ h2 ⟨G, br, rfl, k2, r2, fG⟩
    have b0 := both_start k1 t1 fF k2 r2 fG
    unfold ptrV
    have ep : ∀ n : Nat, (some (⟨n, 0, none⟩ : Addr) == none) = false := fun n => rfl
    repeat' (first | simp only [evr, nextP_norm, evd, evq, beq_self_eq_true, cond_true, cond_false, reduceIte, Nat.reduceEqDiff, Nat.reduceAdd, Int.reduceBNe, Int.reduceBEq, Int.reduceLT, Int.reduceLE, Int.reduceEq, evh, evp, Nat.reduceLeDiff, Nat.reduceSub, Nat.reduceBEq, typs, ep] | refine kCond2_by (fun hc => ?_) (fun hc => ?_) <;> try simp only [hc] | refine kPick_by (fun hc => ?_) (fun hc => ?_) <;> try simp only [hc] | refine kWant_by (fun hc => ?_) (fun hc => ?_) <;> try simp only [hc])
    obtain ⟨l121, lacl⟩ := small_len hs
    refine Wp_loop (fun k fr H => ∃ i : Nat, k = l.length - i ∧ i ≤ l.length ∧ Both h H (newHi.steps (l.take i)) bt br i ∧ fr.get 0 = some vl ∧ fr.get 1 = some vx ∧ fr.get 2 = some va ∧ fr.get 7 = some (.pointer (some ⟨bt, 0, none⟩)) ∧ fr.get 8 = some (.pointer (some ⟨br, 0, none⟩)) ∧ fr.get 9 = some (.int .i64 i)) l.length ⟨0, rfl, Nat.zero_le _, b0, ?_, ?_, ?_, ?_, ?_, ?_⟩ ?_
    · repeat' (first | simp only [evr, nextP_norm, evd, evq, beq_self_eq_true, cond_true, cond_false, reduceIte, Nat.reduceEqDiff, Nat.reduceAdd, Int.reduceBNe, Int.reduceBEq, Int.reduceLT, Int.reduceLE, Int.reduceEq, evh, evp, Nat.reduceLeDiff, Nat.reduceSub, Nat.reduceBEq, typs] | refine kCond2_by (fun hc => ?_) (fun hc => ?_) <;> try simp only [hc] | refine kPick_by (fun hc => ?_) (fun hc => ?_) <;> try simp only [hc] | refine kWant_by (fun hc => ?_) (fun hc => ?_) <;> try simp only [hc])
    · repeat' (first | simp only [evr, nextP_norm, evd, evq, beq_self_eq_true, cond_true, cond_false, reduceIte, Nat.reduceEqDiff, Nat.reduceAdd, Int.reduceBNe, Int.reduceBEq, Int.reduceLT, Int.reduceLE, Int.reduceEq, evh, evp, Nat.reduceLeDiff, Nat.reduceSub, Nat.reduceBEq, typs] | refine kCond2_by (fun hc => ?_) (fun hc => ?_) <;> try simp only [hc] | refine kPick_by (fun hc => ?_) (fun hc => ?_) <;> try simp only [hc] | refine kWant_by (fun hc => ?_) (fun hc => ?_) <;> try simp only [hc])
    · repeat' (first | simp only [evr, nextP_norm, evd, evq, beq_self_eq_true, cond_true, cond_false, reduceIte, Nat.reduceEqDiff, Nat.reduceAdd, Int.reduceBNe, Int.reduceBEq, Int.reduceLT, Int.reduceLE, Int.reduceEq, evh, evp, Nat.reduceLeDiff, Nat.reduceSub, Nat.reduceBEq, typs] | refine kCond2_by (fun hc => ?_) (fun hc => ?_) <;> try simp only [hc] | refine kPick_by (fun hc => ?_) (fun hc => ?_) <;> try simp only [hc] | refine kWant_by (fun hc => ?_) (fun hc => ?_) <;> try simp only [hc])
    · repeat' (first | simp only [evr, nextP_norm, evd, evq, beq_self_eq_true, cond_true, cond_false, reduceIte, Nat.reduceEqDiff, Nat.reduceAdd, Int.reduceBNe, Int.reduceBEq, Int.reduceLT, Int.reduceLE, Int.reduceEq, evh, evp, Nat.reduceLeDiff, Nat.reduceSub, Nat.reduceBEq, typs] | refine kCond2_by (fun hc => ?_) (fun hc => ?_) <;> try simp only [hc] | refine kPick_by (fun hc => ?_) (fun hc => ?_) <;> try simp only [hc] | refine kWant_by (fun hc => ?_) (fun hc => ?_) <;> try simp only [hc])
    · repeat' (first | simp only [evr, nextP_norm, evd, evq, beq_self_eq_true, cond_true, cond_false, reduceIte, Nat.reduceEqDiff, Nat.reduceAdd, Int.reduceBNe, Int.reduceBEq, Int.reduceLT, Int.reduceLE, Int.reduceEq, evh, evp, Nat.reduceLeDiff, Nat.reduceSub, Nat.reduceBEq, typs] | refine kCond2_by (fun hc => ?_) (fun hc => ?_) <;> try simp only [hc] | refine kPick_by (fun hc => ?_) (fun hc => ?_) <;> try simp only [hc] | refine kWant_by (fun hc => ?_) (fun hc => ?_) <;> try simp only [hc])
    · repeat' (first | simp only [evr, nextP_norm, evd, evq, beq_self_eq_true, cond_true, cond_false, reduceIte, Nat.reduceEqDiff, Nat.reduceAdd, Int.reduceBNe, Int.reduceBEq, Int.reduceLT, Int.reduceLE, Int.reduceEq, evh, evp, Nat.reduceLeDiff, Nat.reduceSub, Nat.reduceBEq, typs] | refine kCond2_by (fun hc => ?_) (fun hc => ?_) <;> try simp only [hc] | refine kPick_by (fun hc => ?_) (fun hc => ?_) <;> try simp only [hc] | refine kWant_by (fun hc => ?_) (fun hc => ?_) <;> try simp only [hc])
      rfl
    rintro k fr H ⟨i, rfl, hi, b, r0, r1, r2', r7, r8, r9⟩
    by_cases h3 : i < l.length
    · have e3 : decide ((i : Int) < (l.length : Int)) = true := decide_eq_true (by omega)
      obtain ⟨q, o, all, s', pa, hb, hr, hz, hc, hs'⟩ := sl.at (List.getElem?_eq_getElem h3)
      have wi : IntKind.i64.wrap ((i : Int) + 1) = ((i + 1 : Nat) : Int) := by rw [wrap64 (by omega) (by omega)]; omega
      have hrH : rowOf H q = some all := (b.k.row hb).trans hr
      have hz' : decide (o + 14 ≤ all.length) = true := decide_eq_true hz
      repeat' (first | simp only [evr, nextP_norm, evd, evq, beq_self_eq_true, cond_true, cond_false, reduceIte, Nat.reduceEqDiff, Nat.reduceAdd, Int.reduceBNe, Int.reduceBEq, Int.reduceLT, Int.reduceLE, Int.reduceEq, evh, evp, Nat.reduceLeDiff, Nat.reduceSub, Nat.reduceBEq, typs, r0, r1, r2', r7, r8, r9, ll, e3, pa, hrH, hz', hc] | refine kCond2_by (fun hc => ?_) (fun hc => ?_) <;> try simp only [hc] | refine kPick_by (fun hc => ?_) (fun hc => ?_) <;> try simp only [hc] | refine kWant_by (fun hc => ?_) (fun hc => ?_) <;> try simp only [hc])
      have := both_do b (by omega) l[i] hs' (lacl _ (List.getElem_mem h3))
      unfold ptrV at this
      refine callP_meets this ?_
      rintro _ H' ⟨rfl, b'⟩
      rw [← steps_take h3] at b'
      repeat' (first | simp only [evr, nextP_norm, evd, evq, beq_self_eq_true, cond_true, cond_false, reduceIte, Nat.reduceEqDiff, Nat.reduceAdd, Int.reduceBNe, Int.reduceBEq, Int.reduceLT, Int.reduceLE, Int.reduceEq, evh, evp, Nat.reduceLeDiff, Nat.reduceSub, Nat.reduceBEq, typs, r0, r1, r2', r7, r8, r9, wi] | refine kCond2_by (fun hc => ?_) (fun hc => ?_) <;> try simp only [hc] | refine kPick_by (fun hc => ?_) (fun hc => ?_) <;> try simp only [hc] | refine kWant_by (fun hc => ?_) (fun hc => ?_) <;> try simp only [hc])
      exact ⟨l.length - (i + 1), by omega, i + 1, rfl, by omega, b', rfl⟩
    · have e3 : decide ((i : Int) < (l.length : Int)) = false := decide_eq_false (by omega)
      repeat' (first | simp only [evr, nextP_norm, evd, evq, beq_self_eq_true, cond_true, cond_false, reduceIte, Nat.reduceEqDiff, Nat.reduceAdd, Int.reduceBNe, Int.reduceBEq, Int.reduceLT, Int.reduceLE, Int.reduceEq, evh, evp, Nat.reduceLeDiff, Nat.reduceSub, Nat.reduceBEq, typs, r0, r1, r2', r7, r8, r9, ll, e3] | refine kCond2_by (fun hc => ?_) (fun hc => ?_) <;> try simp only [hc] | refine kPick_by (fun hc => ?_) (fun hc => ?_) <;> try simp only [hc] | refine kWant_by (fun hc => ?_) (fun hc => ?_) <;> try simp only [hc])
      have b1 : Both h H (newHi.steps l) bt br i := by rw [List.take_of_length_le (by omega)] at b; exact b
      generalize newHi.steps l = T at b1
      clear b e3
      refine Wp_loop (fun k fr H' => ∃ (j : Nat), k = x.length - j ∧ j ≤ x.length ∧ H' = H ∧ fr.get 1 = some vx ∧ fr.get 2 = some va ∧ fr.get 7 = some (.pointer (some ⟨bt, 0, none⟩)) ∧ fr.get 8 = some (.pointer (some ⟨br, 0, none⟩)) ∧ fr.get 10 = some (.int .i64 j)) x.length ⟨0, rfl, Nat.zero_le _, rfl, ?_, ?_, ?_, ?_, ?_⟩ ?_
      · repeat' (first | simp only [evr, nextP_norm, evd, evq, beq_self_eq_true, cond_true, cond_false, reduceIte, Nat.reduceEqDiff, Nat.reduceAdd, Int.reduceBNe, Int.reduceBEq, Int.reduceLT, Int.reduceLE, Int.reduceEq, evh, evp, Nat.reduceLeDiff, Nat.reduceSub, Nat.reduceBEq, typs, r1] | refine kCond2_by (fun hc => ?_) (fun hc => ?_) <;> try simp only [hc] | refine kPick_by (fun hc => ?_) (fun hc => ?_) <;> try simp only [hc] | refine kWant_by (fun hc => ?_) (fun hc => ?_) <;> try simp only [hc])
      · repeat' (first | simp only [evr, nextP_norm, evd, evq, beq_self_eq_true, cond_true, cond_false, reduceIte, Nat.reduceEqDiff, Nat.reduceAdd, Int.reduceBNe, Int.reduceBEq, Int.reduceLT, Int.reduceLE, Int.reduceEq, evh, evp, Nat.reduceLeDiff, Nat.reduceSub, Nat.reduceBEq, typs, r2'] | refine kCond2_by (fun hc => ?_) (fun hc => ?_) <;> try simp only [hc] | refine kPick_by (fun hc => ?_) (fun hc => ?_) <;> try simp only [hc] | refine kWant_by (fun hc => ?_) (fun hc => ?_) <;> try simp only [hc])
      · repeat' (first | simp only [evr, nextP_norm, evd, evq, beq_self_eq_true, cond_true, cond_false, reduceIte, Nat.reduceEqDiff, Nat.reduceAdd, Int.reduceBNe, Int.reduceBEq, Int.reduceLT, Int.reduceLE, Int.reduceEq, evh, evp, Nat.reduceLeDiff, Nat.reduceSub, Nat.reduceBEq, typs, r7] | refine kCond2_by (fun hc => ?_) (fun hc => ?_) <;> try simp only [hc] | refine kPick_by (fun hc => ?_) (fun hc => ?_) <;> try simp only [hc] | refine kWant_by (fun hc => ?_) (fun hc => ?_) <;> try simp only [hc])
      · repeat' (first | simp only [evr, nextP_norm, evd, evq, beq_self_eq_true, cond_true, cond_false, reduceIte, Nat.reduceEqDiff, Nat.reduceAdd, Int.reduceBNe, Int.reduceBEq, Int.reduceLT, Int.reduceLE, Int.reduceEq, evh, evp, Nat.reduceLeDiff, Nat.reduceSub, Nat.reduceBEq, typs, r8] | refine kCond2_by (fun hc => ?_) (fun hc => ?_) <;> try simp only [hc] | refine kPick_by (fun hc => ?_) (fun hc => ?_) <;> try simp only [hc] | refine kWant_by (fun hc => ?_) (fun hc => ?_) <;> try simp only [hc])
      · repeat' (first | simp only [evr, nextP_norm, evd, evq, beq_self_eq_true, cond_true, cond_false, reduceIte, Nat.reduceEqDiff, Nat.reduceAdd, Int.reduceBNe, Int.reduceBEq, Int.reduceLT, Int.reduceLE, Int.reduceEq, evh, evp, Nat.reduceLeDiff, Nat.reduceSub, Nat.reduceBEq, typs] | refine kCond2_by (fun hc => ?_) (fun hc => ?_) <;> try simp only [hc] | refine kPick_by (fun hc => ?_) (fun hc => ?_) <;> try simp only [hc] | refine kWant_by (fun hc => ?_) (fun hc => ?_) <;> try simp only [hc])
        rfl
      clear r0 r1 r2' r7 r8 r9
      rintro k fr1 H0 ⟨j, rfl, hj, hH, r1, r2, r7, r8, r10⟩
      rw [hH]
      clear hH
      by_cases h5 : j < x.length
      · have e5 : decide ((j : Int) < (x.length : Int)) = true := decide_eq_true (by omega)
        have wj : IntKind.i64.wrap ((j : Int) + 1) = ((j + 1 : Nat) : Int) := by rw [wrap64 (by omega) (by omega)]; omega
        obtain ⟨pb, po, pall, pa, pz, pr, pd, pc, p0, p1⟩ := RlSl.at sx (List.getElem?_eq_getElem h5)
        have prH := (b1.k.row pz).trans pr
        by_cases h6 : 1000 < x[j].path.size
        · have f4 : decide ((1000 : Int) < (x[j].path.size : Int)) = true := decide_eq_true (by omega)
          repeat' (first | simp only [evr, nextP_norm, evd, evq, beq_self_eq_true, cond_true, cond_false, reduceIte, Nat.reduceEqDiff, Nat.reduceAdd, Int.reduceBNe, Int.reduceBEq, Int.reduceLT, Int.reduceLE, Int.reduceEq, evh, evp, Nat.reduceLeDiff, Nat.reduceSub, Nat.reduceBEq, typs, r1, r2, r7, r8, r10, lx, e5, pa, prH, p1, f4] | refine kCond2_by (fun hc => ?_) (fun hc => ?_) <;> try simp only [hc] | refine kPick_by (fun hc => ?_) (fun hc => ?_) <;> try simp only [hc] | refine kWant_by (fun hc => ?_) (fun hc => ?_) <;> try simp only [hc])
        · have f4 : decide ((1000 : Int) < (x[j].path.size : Int)) = false := decide_eq_false (by omega)
          repeat' (first | simp only [evr, nextP_norm, evd, evq, beq_self_eq_true, cond_true, cond_false, reduceIte, Nat.reduceEqDiff, Nat.reduceAdd, Int.reduceBNe, Int.reduceBEq, Int.reduceLT, Int.reduceLE, Int.reduceEq, evh, evp, Nat.reduceLeDiff, Nat.reduceSub, Nat.reduceBEq, typs, r1, r2, r7, r8, r10, lx, e5, pa, prH, p1, f4, wj] | refine kCond2_by (fun hc => ?_) (fun hc => ?_) <;> try simp only [hc] | refine kPick_by (fun hc => ?_) (fun hc => ?_) <;> try simp only [hc] | refine kWant_by (fun hc => ?_) (fun hc => ?_) <;> try simp only [hc])
          exact ⟨x.length - (j + 1), by omega, j + 1, rfl, by omega, rfl⟩
      have e5 : decide ((j : Int) < (x.length : Int)) = false := decide_eq_false (by omega)
      repeat' (first | simp only [evr, nextP_norm, evd, evq, beq_self_eq_true, cond_true, cond_false, reduceIte, Nat.reduceEqDiff, Nat.reduceAdd, Int.reduceBNe, Int.reduceBEq, Int.reduceLT, Int.reduceLE, Int.reduceEq, evh, evp, Nat.reduceLeDiff, Nat.reduceSub, Nat.reduceBEq, typs, r1, r2, r7, r8, r10, lx, e5] | refine kCond2_by (fun hc => ?_) (fun hc => ?_) <;> try simp only [hc] | refine kPick_by (fun hc => ?_) (fun hc => ?_) <;> try simp only [hc] | refine kWant_by (fun hc => ?_) (fun hc => ?_) <;> try simp only [hc])
      refine callP_meets (rulesMay_spec (SlAt.keep sx b1.k) (by omega)) ?_
      rintro _ H1 ⟨rfl, k1'⟩
      have b2 := b1.keeps k1'
      repeat' (first | simp only [evr, nextP_norm, evd, evq, beq_self_eq_true, cond_true, cond_false, reduceIte, Nat.reduceEqDiff, Nat.reduceAdd, Int.reduceBNe, Int.reduceBEq, Int.reduceLT, Int.reduceLE, Int.reduceEq, evh, evp, Nat.reduceLeDiff, Nat.reduceSub, Nat.reduceBEq, typs, r1, r2, r7, r8, r10] | refine kCond2_by (fun hc => ?_) (fun hc => ?_) <;> try simp only [hc] | refine kPick_by (fun hc => ?_) (fun hc => ?_) <;> try simp only [hc] | refine kWant_by (fun hc => ?_) (fun hc => ?_) <;> try simp only [hc])
      refine callP_meets (refRulesMay_spec (SlAt.keep sx b2.k) (by omega)) ?_
      rintro _ H2 ⟨rfl, k2'⟩
      have b3 := b2.keeps k2'
      have bo : ∀ (xo yo : Operand) (a b : Bool), evBin kon.P .neq 4 xo yo (.bool a) (.bool b) = some (.bool (a != b)) := fun xo yo a b => by cases a <;> cases b <;> kernel_rfl
      repeat' (first | simp only [evr, nextP_norm, evd, evq, beq_self_eq_true, cond_true, cond_false, reduceIte, Nat.reduceEqDiff, Nat.reduceAdd, Int.reduceBNe, Int.reduceBEq, Int.reduceLT, Int.reduceLE, Int.reduceEq, evh, evp, Nat.reduceLeDiff, Nat.reduceSub, Nat.reduceBEq, typs, r1, r2, r7, r8, r10, bo, bne_self_eq_false] | refine kCond2_by (fun hc => ?_) (fun hc => ?_) <;> try simp only [hc] | refine kPick_by (fun hc => ?_) (fun hc => ?_) <;> try simp only [hc] | refine kWant_by (fun hc => ?_) (fun hc => ?_) <;> try simp only [hc])
      clear b1 b2 k1' k2' e5
      refine Wp_loop (fun k fr H' => ∃ (j : Nat), k = ask.length - j ∧ 1 ≤ j ∧ j ≤ ask.length ∧ Both h H' T bt br i ∧ fr.get 1 = some vx ∧ fr.get 2 = some va ∧ fr.get 7 = some (.pointer (some ⟨bt, 0, none⟩)) ∧ fr.get 8 = some (.pointer (some ⟨br, 0, none⟩)) ∧ fr.get 11 = some (.int .i64 j)) (ask.length - 1) ⟨1, rfl, Nat.le_refl _, by omega, b3, ?_, ?_, ?_, ?_, ?_⟩ ?_
      · repeat' (first | simp only [evr, nextP_norm, evd, evq, beq_self_eq_true, cond_true, cond_false, reduceIte, Nat.reduceEqDiff, Nat.reduceAdd, Int.reduceBNe, Int.reduceBEq, Int.reduceLT, Int.reduceLE, Int.reduceEq, evh, evp, Nat.reduceLeDiff, Nat.reduceSub, Nat.reduceBEq, typs, r1] | refine kCond2_by (fun hc => ?_) (fun hc => ?_) <;> try simp only [hc] | refine kPick_by (fun hc => ?_) (fun hc => ?_) <;> try simp only [hc] | refine kWant_by (fun hc => ?_) (fun hc => ?_) <;> try simp only [hc])
      · repeat' (first | simp only [evr, nextP_norm, evd, evq, beq_self_eq_true, cond_true, cond_false, reduceIte, Nat.reduceEqDiff, Nat.reduceAdd, Int.reduceBNe, Int.reduceBEq, Int.reduceLT, Int.reduceLE, Int.reduceEq, evh, evp, Nat.reduceLeDiff, Nat.reduceSub, Nat.reduceBEq, typs, r2] | refine kCond2_by (fun hc => ?_) (fun hc => ?_) <;> try simp only [hc] | refine kPick_by (fun hc => ?_) (fun hc => ?_) <;> try simp only [hc] | refine kWant_by (fun hc => ?_) (fun hc => ?_) <;> try simp only [hc])
      · repeat' (first | simp only [evr, nextP_norm, evd, evq, beq_self_eq_true, cond_true, cond_false, reduceIte, Nat.reduceEqDiff, Nat.reduceAdd, Int.reduceBNe, Int.reduceBEq, Int.reduceLT, Int.reduceLE, Int.reduceEq, evh, evp, Nat.reduceLeDiff, Nat.reduceSub, Nat.reduceBEq, typs, r7] | refine kCond2_by (fun hc => ?_) (fun hc => ?_) <;> try simp only [hc] | refine kPick_by (fun hc => ?_) (fun hc => ?_) <;> try simp only [hc] | refine kWant_by (fun hc => ?_) (fun hc => ?_) <;> try simp only [hc])
      · repeat' (first | simp only [evr, nextP_norm, evd, evq, beq_self_eq_true, cond_true, cond_false, reduceIte, Nat.reduceEqDiff, Nat.reduceAdd, Int.reduceBNe, Int.reduceBEq, Int.reduceLT, Int.reduceLE, Int.reduceEq, evh, evp, Nat.reduceLeDiff, Nat.reduceSub, Nat.reduceBEq, typs, r8] | refine kCond2_by (fun hc => ?_) (fun hc => ?_) <;> try simp only [hc] | refine kPick_by (fun hc => ?_) (fun hc => ?_) <;> try simp only [hc] | refine kWant_by (fun hc => ?_) (fun hc => ?_) <;> try simp only [hc])
      · repeat' (first | simp only [evr, nextP_norm, evd, evq, beq_self_eq_true, cond_true, cond_false, reduceIte, Nat.reduceEqDiff, Nat.reduceAdd, Int.reduceBNe, Int.reduceBEq, Int.reduceLT, Int.reduceLE, Int.reduceEq, evh, evp, Nat.reduceLeDiff, Nat.reduceSub, Nat.reduceBEq, typs] | refine kCond2_by (fun hc => ?_) (fun hc => ?_) <;> try simp only [hc] | refine kPick_by (fun hc => ?_) (fun hc => ?_) <;> try simp only [hc] | refine kWant_by (fun hc => ?_) (fun hc => ?_) <;> try simp only [hc])
        rfl
      clear r1 r2 r7 r8 r10 b3
      rintro k fr2 H3 ⟨j', rfl, hj1, hj', b, r1, r2, r7, r8, r11⟩
      have ll := la
      by_cases h5 : ¬ j' < ask.length
      · have e5 : decide ((j' : Int) < (ask.length : Int)) = false := decide_eq_false (by omega)
        repeat' (first | simp only [evr, nextP_norm, evd, evq, beq_self_eq_true, cond_true, cond_false, reduceIte, Nat.reduceEqDiff, Nat.reduceAdd, Int.reduceBNe, Int.reduceBEq, Int.reduceLT, Int.reduceLE, Int.reduceEq, evh, evp, Nat.reduceLeDiff, Nat.reduceSub, Nat.reduceBEq, typs, r1, r2, r7, r8, r11, la, e5] | refine kCond2_by (fun hc => ?_) (fun hc => ?_) <;> try simp only [hc] | refine kPick_by (fun hc => ?_) (fun hc => ?_) <;> try simp only [hc] | refine kWant_by (fun hc => ?_) (fun hc => ?_) <;> try simp only [hc])
      have h5 := Decidable.not_not.1 h5
      have e5 : decide ((j' : Int) < (ask.length : Int)) = true := decide_eq_true (by omega)
      have wj : IntKind.i64.wrap ((j' : Int) + 1) = ((j' + 1 : Nat) : Int) := by rw [wrap64 (by omega) (by omega)]; omega
      obtain ⟨pb, po, pall, a1, pz, a2, a3⟩ := StrSl.at3 sa (List.getElem?_eq_getElem h5)
      obtain ⟨qb, qo, qall, c1, qz, c2, c3⟩ := StrSl.at3 sa (List.getElem?_eq_getElem (show 0 < ask.length by omega))
      have c1 : evIndexAddr kon.P 46 va (.int .i64 0) = some (.pointer (some ⟨qb, qo, none⟩)) := c1
      generalize ask[j'] = nm at *
      generalize ask[0] = wk at *
      have row : ∀ {H' : Hp}, Both h H' T bt br i → rowOf H' pb = some pall := fun y => (y.k.row pz).trans a2
      have rowq : ∀ {H' : Hp}, Both h H' T bt br i → rowOf H' qb = some qall := fun y => (y.k.row qz).trans c2
      by_cases h6 : 200 < nm.size
      · have f4 : decide ((200 : Int) < (nm.size : Int)) = true := decide_eq_true (by omega)
        repeat' (first | simp only [evr, nextP_norm, evd, evq, beq_self_eq_true, cond_true, cond_false, reduceIte, Nat.reduceEqDiff, Nat.reduceAdd, Int.reduceBNe, Int.reduceBEq, Int.reduceLT, Int.reduceLE, Int.reduceEq, evh, evp, Nat.reduceLeDiff, Nat.reduceSub, Nat.reduceBEq, typs, r1, r2, r7, r8, r11, la, e5, a1, row b, a3, f4] | refine kCond2_by (fun hc => ?_) (fun hc => ?_) <;> try simp only [hc] | refine kPick_by (fun hc => ?_) (fun hc => ?_) <;> try simp only [hc] | refine kWant_by (fun hc => ?_) (fun hc => ?_) <;> try simp only [hc])
      have f4 : decide ((200 : Int) < (nm.size : Int)) = false := decide_eq_false (by omega)
      by_cases h7 : 1000 < wk.size
      · have f5 : decide ((1000 : Int) < (wk.size : Int)) = true := decide_eq_true (by omega)
        repeat' (first | simp only [evr, nextP_norm, evd, evq, beq_self_eq_true, cond_true, cond_false, reduceIte, Nat.reduceEqDiff, Nat.reduceAdd, Int.reduceBNe, Int.reduceBEq, Int.reduceLT, Int.reduceLE, Int.reduceEq, evh, evp, Nat.reduceLeDiff, Nat.reduceSub, Nat.reduceBEq, typs, r1, r2, r7, r8, r11, la, e5, a1, row b, a3, f4, c1, rowq b, c3, f5] | refine kCond2_by (fun hc => ?_) (fun hc => ?_) <;> try simp only [hc] | refine kPick_by (fun hc => ?_) (fun hc => ?_) <;> try simp only [hc] | refine kWant_by (fun hc => ?_) (fun hc => ?_) <;> try simp only [hc])
      have f5 : decide ((1000 : Int) < (wk.size : Int)) = false := decide_eq_false (by omega)
      repeat' (first | simp only [evr, nextP_norm, evd, evq, beq_self_eq_true, cond_true, cond_false, reduceIte, Nat.reduceEqDiff, Nat.reduceAdd, Int.reduceBNe, Int.reduceBEq, Int.reduceLT, Int.reduceLE, Int.reduceEq, evh, evp, Nat.reduceLeDiff, Nat.reduceSub, Nat.reduceBEq, typs, r1, r2, r7, r8, r11, la, e5, a1, row b, a3, f4, c1, rowq b, c3, f5] | refine kCond2_by (fun hc => ?_) (fun hc => ?_) <;> try simp only [hc] | refine kPick_by (fun hc => ?_) (fun hc => ?_) <;> try simp only [hc] | refine kWant_by (fun hc => ?_) (fun hc => ?_) <;> try simp only [hc])
      refine Wp_loop (fun k fr H' => ∃ (q : Nat), k = 6 - q ∧ q ≤ 6 ∧ Both h H' T bt br i ∧ fr.get 1 = some vx ∧ fr.get 2 = some va ∧ fr.get 7 = some (.pointer (some ⟨bt, 0, none⟩)) ∧ fr.get 8 = some (.pointer (some ⟨br, 0, none⟩)) ∧ fr.get 11 = some (.int .i64 j') ∧ fr.get 12 = some (.int .i64 ((q : Int) - 2))) 6 ⟨0, rfl, by omega, b, ?_, ?_, ?_, ?_, ?_, ?_⟩ ?_
      · repeat' (first | simp only [evr, nextP_norm, evd, evq, beq_self_eq_true, cond_true, cond_false, reduceIte, Nat.reduceEqDiff, Nat.reduceAdd, Int.reduceBNe, Int.reduceBEq, Int.reduceLT, Int.reduceLE, Int.reduceEq, evh, evp, Nat.reduceLeDiff, Nat.reduceSub, Nat.reduceBEq, typs, r1] | refine kCond2_by (fun hc => ?_) (fun hc => ?_) <;> try simp only [hc] | refine kPick_by (fun hc => ?_) (fun hc => ?_) <;> try simp only [hc] | refine kWant_by (fun hc => ?_) (fun hc => ?_) <;> try simp only [hc])
      · repeat' (first | simp only [evr, nextP_norm, evd, evq, beq_self_eq_true, cond_true, cond_false, reduceIte, Nat.reduceEqDiff, Nat.reduceAdd, Int.reduceBNe, Int.reduceBEq, Int.reduceLT, Int.reduceLE, Int.reduceEq, evh, evp, Nat.reduceLeDiff, Nat.reduceSub, Nat.reduceBEq, typs, r2] | refine kCond2_by (fun hc => ?_) (fun hc => ?_) <;> try simp only [hc] | refine kPick_by (fun hc => ?_) (fun hc => ?_) <;> try simp only [hc] | refine kWant_by (fun hc => ?_) (fun hc => ?_) <;> try simp only [hc])
      · repeat' (first | simp only [evr, nextP_norm, evd, evq, beq_self_eq_true, cond_true, cond_false, reduceIte, Nat.reduceEqDiff, Nat.reduceAdd, Int.reduceBNe, Int.reduceBEq, Int.reduceLT, Int.reduceLE, Int.reduceEq, evh, evp, Nat.reduceLeDiff, Nat.reduceSub, Nat.reduceBEq, typs, r7] | refine kCond2_by (fun hc => ?_) (fun hc => ?_) <;> try simp only [hc] | refine kPick_by (fun hc => ?_) (fun hc => ?_) <;> try simp only [hc] | refine kWant_by (fun hc => ?_) (fun hc => ?_) <;> try simp only [hc])
      · repeat' (first | simp only [evr, nextP_norm, evd, evq, beq_self_eq_true, cond_true, cond_false, reduceIte, Nat.reduceEqDiff, Nat.reduceAdd, Int.reduceBNe, Int.reduceBEq, Int.reduceLT, Int.reduceLE, Int.reduceEq, evh, evp, Nat.reduceLeDiff, Nat.reduceSub, Nat.reduceBEq, typs, r8] | refine kCond2_by (fun hc => ?_) (fun hc => ?_) <;> try simp only [hc] | refine kPick_by (fun hc => ?_) (fun hc => ?_) <;> try simp only [hc] | refine kWant_by (fun hc => ?_) (fun hc => ?_) <;> try simp only [hc])
      · repeat' (first | simp only [evr, nextP_norm, evd, evq, beq_self_eq_true, cond_true, cond_false, reduceIte, Nat.reduceEqDiff, Nat.reduceAdd, Int.reduceBNe, Int.reduceBEq, Int.reduceLT, Int.reduceLE, Int.reduceEq, evh, evp, Nat.reduceLeDiff, Nat.reduceSub, Nat.reduceBEq, typs, r11] | refine kCond2_by (fun hc => ?_) (fun hc => ?_) <;> try simp only [hc] | refine kPick_by (fun hc => ?_) (fun hc => ?_) <;> try simp only [hc] | refine kWant_by (fun hc => ?_) (fun hc => ?_) <;> try simp only [hc])
      · repeat' (first | simp only [evr, nextP_norm, evd, evq, beq_self_eq_true, cond_true, cond_false, reduceIte, Nat.reduceEqDiff, Nat.reduceAdd, Int.reduceBNe, Int.reduceBEq, Int.reduceLT, Int.reduceLE, Int.reduceEq, evh, evp, Nat.reduceLeDiff, Nat.reduceSub, Nat.reduceBEq, typs] | refine kCond2_by (fun hc => ?_) (fun hc => ?_) <;> try simp only [hc] | refine kPick_by (fun hc => ?_) (fun hc => ?_) <;> try simp only [hc] | refine kWant_by (fun hc => ?_) (fun hc => ?_) <;> try simp only [hc])
        rfl
      clear r1 r2 r7 r8 r11 b
      rintro k fr3 H4 ⟨q, rfl, hq, b, r1, r2, r7, r8, r11, r12⟩
      by_cases h8 : ¬ q < 6
      · have e8 : decide ((q : Int) - 2 < 4) = false := decide_eq_false (by omega)
        repeat' (first | simp only [evr, nextP_norm, evd, evq, beq_self_eq_true, cond_true, cond_false, reduceIte, Nat.reduceEqDiff, Nat.reduceAdd, Int.reduceBNe, Int.reduceBEq, Int.reduceLT, Int.reduceLE, Int.reduceEq, evh, evp, Nat.reduceLeDiff, Nat.reduceSub, Nat.reduceBEq, typs, r1, r2, r7, r8, r11, r12, e8, wj] | refine kCond2_by (fun hc => ?_) (fun hc => ?_) <;> try simp only [hc] | refine kPick_by (fun hc => ?_) (fun hc => ?_) <;> try simp only [hc] | refine kWant_by (fun hc => ?_) (fun hc => ?_) <;> try simp only [hc])
        exact ⟨ask.length - (j' + 1), by omega, j' + 1, rfl, by omega, by omega, b, rfl⟩
      have e8 : decide ((q : Int) - 2 < 4) = true := decide_eq_true (by omega)
      have wq : IntKind.i64.wrap ((q : Int) - 2 + 1) = ((q + 1 : Nat) : Int) - 2 := by rw [wrap64 (by omega) (by omega)]; omega
      have hK := b.kinds
      have hL : T.L.length ≤ 1000000000 := by have := b.few.1; omega
      have lac := rulesFind_acl b.acl x wk ((q : Int) - 2) nm
      obtain ⟨F4, t4⟩ := b.t
      repeat' (first | simp only [evr, nextP_norm, evd, evq, beq_self_eq_true, cond_true, cond_false, reduceIte, Nat.reduceEqDiff, Nat.reduceAdd, Int.reduceBNe, Int.reduceBEq, Int.reduceLT, Int.reduceLE, Int.reduceEq, evh, evp, Nat.reduceLeDiff, Nat.reduceSub, Nat.reduceBEq, typs, r1, r2, r7, r8, r11, r12, e8] | refine kCond2_by (fun hc => ?_) (fun hc => ?_) <;> try simp only [hc] | refine kPick_by (fun hc => ?_) (fun hc => ?_) <;> try simp only [hc] | refine kWant_by (fun hc => ?_) (fun hc => ?_) <;> try simp only [hc])
      refine Wp_drawE [0, 0, 0, 0, 1, 0, 0, 0, 0, 1, 4, 0, 0, 0, 2, 4, 0] (KR.mk (by kernel_rfl)) ?_
      repeat' (first | simp only [evr, nextP_norm, evd, evq, beq_self_eq_true, cond_true, cond_false, reduceIte, Nat.reduceEqDiff, Nat.reduceAdd, Int.reduceBNe, Int.reduceBEq, Int.reduceLT, Int.reduceLE, Int.reduceEq, evh, evp, Nat.reduceLeDiff, Nat.reduceSub, Nat.reduceBEq, typs, r1, r2, r7, r8, r11, r12, a1, row b, a3, c1, rowq b, c3] | refine kCond2_by (fun hc => ?_) (fun hc => ?_) <;> try simp only [hc] | refine kPick_by (fun hc => ?_) (fun hc => ?_) <;> try simp only [hc] | refine kWant_by (fun hc => ?_) (fun hc => ?_) <;> try simp only [hc])
      refine callP_meets (rulesFind_spec t4 (SlAt.keep sx b.k) (by omega) wk ((q : Int) - 2) nm) ?_
      rintro _ H5 ⟨s5, rfl, ty5, k5⟩
      obtain ⟨d1, d2⟩ := TmTy.cell ty5
      have b5 := b.keeps k5
      have dne : (pb = H5.next) = False := eq_false (by have := b5.k.1; omega)
      have dne' : (qb = H5.next) = False := eq_false (by have := b5.k.1; omega)
      unfold bnC
      simp only [evr, evd, evq, beq_self_eq_true, cond_true, cond_false, reduceIte, Nat.reduceEqDiff, Nat.reduceAdd, Int.reduceBNe, Int.reduceBEq, Int.reduceLT, Int.reduceLE, Int.reduceEq, evh, evp, Nat.reduceLeDiff, Nat.reduceSub, Nat.reduceBEq, typs, r1, r2, r7, r8, r11, r12, d1, d2, a1, row b5, row b, rowq b, rowq b5, a3, c1, c3, dne, dne', if_false]
      rw [nextP_norm]
      generalize hh : Hp.set _ _ _ = H6
      have k6 : Keep H5 H6 := by rw [← hh]; exact (Keep.push _ _).set (Nat.le_refl _)
      have n6 : H6.next = H5.next + 1 := by rw [← hh]; rfl
      have g6 : H6.get H5.next = some (.row (bnC (rulesFind T x wk ((q : Int) - 2) nm).1 s5) 40 (.rw 0 [])) := by rw [← hh]; exact Hp.get_set_self _ _ _
      clear hh
      have b6 := b5.keeps k6
      obtain ⟨G6, r6'⟩ := b6.r
      repeat' (first | simp only [evr, nextP_norm, evd, evq, beq_self_eq_true, cond_true, cond_false, reduceIte, Nat.reduceEqDiff, Nat.reduceAdd, Int.reduceBNe, Int.reduceBEq, Int.reduceLT, Int.reduceLE, Int.reduceEq, evh, evp, Nat.reduceLeDiff, Nat.reduceSub, Nat.reduceBEq, typs, r1, r2, r7, r8, r11, r12] | refine kCond2_by (fun hc => ?_) (fun hc => ?_) <;> try simp only [hc] | refine kPick_by (fun hc => ?_) (fun hc => ?_) <;> try simp only [hc] | refine kWant_by (fun hc => ?_) (fun hc => ?_) <;> try simp only [hc])
      refine Wp_drawE [0, 0, 0, 0, 1, 0, 0, 0, 0, 1, 4, 0, 0, 0, 2, 4, 0] (KR.mk (by kernel_rfl)) ?_
      repeat' (first | simp only [evr, nextP_norm, evd, evq, beq_self_eq_true, cond_true, cond_false, reduceIte, Nat.reduceEqDiff, Nat.reduceAdd, Int.reduceBNe, Int.reduceBEq, Int.reduceLT, Int.reduceLE, Int.reduceEq, evh, evp, Nat.reduceLeDiff, Nat.reduceSub, Nat.reduceBEq, typs, r1, r2, r7, r8, r11, r12, a1, row b6, a3, c1, rowq b6, c3] | refine kCond2_by (fun hc => ?_) (fun hc => ?_) <;> try simp only [hc] | refine kPick_by (fun hc => ?_) (fun hc => ?_) <;> try simp only [hc] | refine kWant_by (fun hc => ?_) (fun hc => ?_) <;> try simp only [hc])
      refine callP_meets (rSearch_spec hK hL r6' (SlAt.keep sx b6.k) (by omega) wk ((q : Int) - 2) nm) ?_
      rintro _ H7 ⟨s7, rfl, ty7, k7⟩
      obtain ⟨x1, x2⟩ := TmTy.cell ty7
      have b7 := b6.keeps k7
      have n7 := k7.1
      have dne : (pb = H7.next) = False := eq_false (by have := b7.k.1; omega)
      have dne' : (qb = H7.next) = False := eq_false (by have := b7.k.1; omega)
      unfold bnC
      simp only [evr, evd, evq, beq_self_eq_true, cond_true, cond_false, reduceIte, Nat.reduceEqDiff, Nat.reduceAdd, Int.reduceBNe, Int.reduceBEq, Int.reduceLT, Int.reduceLE, Int.reduceEq, evh, evp, Nat.reduceLeDiff, Nat.reduceSub, Nat.reduceBEq, typs, r1, r2, r7, r8, r11, r12, x1, x2, a1, row b7, row b6, rowq b6, rowq b7, a3, c1, c3, dne, dne', if_false]
      rw [nextP_norm]
      generalize hh : Hp.set _ _ _ = H8
      have k8 : Keep H7 H8 := by rw [← hh]; exact (Keep.push _ _).set (Nat.le_refl _)
      have n8 : H8.next = H7.next + 1 := by rw [← hh]; rfl
      have g8 : H8.get H7.next = some (.row (bnC (rulesFind T x wk ((q : Int) - 2) nm).1 s7) 34 (.rw 0 [])) := by rw [← hh]; exact Hp.get_set_self _ _ _
      clear hh
      have b8 := b7.keeps k8
      have q6 := rowOf_rw ((k8.2 _ (by omega)).trans ((k7.2 _ (by omega)).trans g6))
      have q8 := rowOf_rw g8
      have ty5' := SlAt.keep (SlAt.keep (SlAt.keep ty5.slAt' k6) k7) k8
      have ty7' := SlAt.keep ty7.slAt' k8
      have tt : ∀ x : Bn, decide (x = x) = true := fun x => decide_eq_true rfl
      generalize rulesFind T x wk ((q : Int) - 2) nm = R at *
      repeat' (first | simp only [evr, nextP_norm, evd, evq, beq_self_eq_true, cond_true, cond_false, reduceIte, Nat.reduceEqDiff, Nat.reduceAdd, Int.reduceBNe, Int.reduceBEq, Int.reduceLT, Int.reduceLE, Int.reduceEq, evh, evp, Nat.reduceLeDiff, Nat.reduceSub, Nat.reduceBEq, typs, r1, r2, r7, r8, r11, r12] | refine kCond2_by (fun hc => ?_) (fun hc => ?_) <;> try simp only [hc] | refine kPick_by (fun hc => ?_) (fun hc => ?_) <;> try simp only [hc] | refine kWant_by (fun hc => ?_) (fun hc => ?_) <;> try simp only [hc])
      refine Wp_drawE [0, 0, 0, 0, 1, 3, 1, 4, 0, 0] (KR.mk (by kernel_rfl)) ?_
      unfold bnC at q6 q8
      repeat' (first | simp only [evr, nextP_norm, evd, evq, beq_self_eq_true, cond_true, cond_false, reduceIte, Nat.reduceEqDiff, Nat.reduceAdd, Int.reduceBNe, Int.reduceBEq, Int.reduceLT, Int.reduceLE, Int.reduceEq, evh, evp, Nat.reduceLeDiff, Nat.reduceSub, Nat.reduceBEq, typs, r1, r2, r7, r8, r11, r12, bne_self_eq_false, q6, q8] | refine kCond2_by (fun hc => ?_) (fun hc => ?_) <;> try simp only [hc] | refine kPick_by (fun hc => ?_) (fun hc => ?_) <;> try simp only [hc] | refine kWant_by (fun hc => ?_) (fun hc => ?_) <;> try simp only [hc])
      have m1 := model_spec (h := H8) (x := R.1) ty5'
      unfold bnC at m1
      refine callP_meets m1 ?_
      rintro _ H9 ⟨rfl, k9⟩
      have q6' := (k9.row (by omega)).trans q6
      have q8' := (k9.row (by omega)).trans q8
      repeat' (first | simp only [evr, nextP_norm, evd, evq, beq_self_eq_true, cond_true, cond_false, reduceIte, Nat.reduceEqDiff, Nat.reduceAdd, Int.reduceBNe, Int.reduceBEq, Int.reduceLT, Int.reduceLE, Int.reduceEq, evh, evp, Nat.reduceLeDiff, Nat.reduceSub, Nat.reduceBEq, typs, r1, r2, r7, r8, r11, r12, bne_self_eq_false, q6, q8, q6', q8'] | refine kCond2_by (fun hc => ?_) (fun hc => ?_) <;> try simp only [hc] | refine kPick_by (fun hc => ?_) (fun hc => ?_) <;> try simp only [hc] | refine kWant_by (fun hc => ?_) (fun hc => ?_) <;> try simp only [hc])
      have m2 := sameBranch_spec (SlAt.keep ty5' k9) (SlAt.keep ty7' k9) lac lac
      unfold bnC at m2
      refine callP_meets m2 ?_
      rintro _ H10 ⟨rfl, k10⟩
      have n9 := k9.1
      have q6x := (k10.row (by omega)).trans q6'
      have q8x := (k10.row (by omega)).trans q8'
      repeat' (first | simp only [evr, nextP_norm, evd, evq, beq_self_eq_true, cond_true, cond_false, reduceIte, Nat.reduceEqDiff, Nat.reduceAdd, Int.reduceBNe, Int.reduceBEq, Int.reduceLT, Int.reduceLE, Int.reduceEq, evh, evp, Nat.reduceLeDiff, Nat.reduceSub, Nat.reduceBEq, typs, r1, r2, r7, r8, r11, r12, bne_self_eq_false, q6, q8, q6', q8', q6x, q8x, tt, wq] | refine kCond2_by (fun hc => ?_) (fun hc => ?_) <;> try simp only [hc] | refine kPick_by (fun hc => ?_) (fun hc => ?_) <;> try simp only [hc] | refine kWant_by (fun hc => ?_) (fun hc => ?_) <;> try simp only [hc])
      exact ⟨6 - (q + 1), by omega, q + 1, rfl, by omega, (b8.keeps k9).keeps k10, rfl⟩
theorem rulesFind_law (W : World) (h : W.ShapedOpen Tryz.prog) {base : Nat} {v0 v1 v2 : Value} (o0 : Value.okWide Tryz.prog W .any base 22 v0) (r0 : RdT Tryz.prog W 22 v0.cells.toList)
    (o1 : Value.okWide Tryz.prog W .any base 81 v1) (r1 : RdT Tryz.prog W 81 v1.cells.toList) (o2 : Value.okWide Tryz.prog W .any base 46 v2) (r2 : RdT Tryz.prog W 46 v2.cells.toList) :
    Calls Tryz.prog 9 #[v0, v1, v2] W fun e w' => e = .returned (.bool true) ∧ Go.RowKit.Below W.heap.size W w' := by
  obtain ⟨a0, len0, cap0, rfl⟩ := Go.WideShapes.okWide_slice Tryz.underlying22 o0
  obtain ⟨u0, w0, l, hv0, _, ha0, hs0⟩ := dds_in h r0
  obtain rfl := slice_one hv0
  obtain ⟨a1, len1, cap1, rfl⟩ := Go.WideShapes.okWide_slice Tryz.underlying81 o1
  obtain ⟨u1, w1, x, hv1, _, ha1, hs1⟩ := rls_in h r1
  obtain rfl := slice_one hv1
  obtain ⟨a2, len2, cap2, rfl⟩ := Go.WideShapes.okWide_slice Tryz.underlying46 o2
  obtain ⟨u2, w2, ask, hv2, _, ha2, hs2⟩ := strs_in h r2
  obtain rfl := slice_one hv2
  exact open_call (kon_from h) kon_mix (args := [.slice a0 len0 cap0, .slice a1 len1 cap1, .slice a2 len2 cap2]) (abs := [w0, w1, w2]) (absA_cons (x := .slice a0 len0 cap0) ha0 (absA_cons (x := .slice a1 len1 cap1) ha1 (absA_cons (x := .slice a2 len2 cap2) ha2 rfl))) (rulesFind_true hs0 hs1 hs2)
end Go.Proofs.YtncmgiddcefpcaaGreatDoor
namespace Go.Proofs.YtncmgiddcefpcaaGreatDoor
open Go
set_option maxRecDepth 100000
theorem fact1 : (laidOutB Tryz.pinned.checked.prog) = true := by kernel_rfl
theorem fact2 : (mapsRowed Tryz.pinned.checked.prog) = true := by kernel_rfl
theorem fact6 : ((Tryz.pinned.checked.prog.stops == [])) = true := by kernel_rfl
theorem fact8 : ((Tryz.pinned.checked.prog.stopKnobs == [])) = true := by kernel_rfl
theorem fact22 : ((Rows.judgeNowRow.plainKeys == Tryz.pinned.checked.prog.plainKeys)) = true := by kernel_rfl
theorem fact24 : (Tryz.pinned.checked.prog.stopsHeard) = true := by kernel_rfl
theorem fact25 : (Tryz.pinned.checked.prog.mayEnter) = true := by kernel_rfl
theorem fact26 : ((Rows.judgeNowRow.lifted == Tryz.pinned.checked.prog.liftsFinal)) = true := by kernel_rfl
theorem fact27 : ((Tryz.pinned.checked.prog.make == some Rows.judgeNowRow.make)) = true := by kernel_rfl
theorem factLooks : false = Tryz.pinned.checked.prog.looks [] := by kernel_rfl
theorem factMain : Tryz.pinned.checked.prog.mainIs = some (true, "e273f5272d88c497d37e9d766c9a4909ddf1804e3d7dd54ce4e691371479e93c".toList) := by kernel_rfl
end Go.Proofs.YtncmgiddcefpcaaGreatDoor
