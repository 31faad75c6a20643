/- Texts joined: what the claim needs of them. No condition. -/
import Derived.Test.YtncmgiddcefpcaaGreatDoorBin11
import Derived.Test.YtncmgiddcefpcaaGreatDoorBin12
import Derived.Test.YtncmgiddcefpcaaGreatDoorRows
import Derived.JoinedOf
import Derived.SevenTiedAt
namespace Go.Proofs.YtncmgiddcefpcaaGreatDoor
open Go Go.Ev Go.RowKit Go.Con
set_option linter.unusedSimpArgs false
set_option linter.unusedVariables false
set_option maxRecDepth 1000000
set_option maxHeartbeats 8000000 in
theorem walkWalks_true {h : Hp} {vl vp : Value} {l : List Dd} {ps : List ByteArray} (sl : DdSl h vl l) (sp' : StrSl h vp ps) (dir : Int) : Meets kon 4 [vl, vp, .int .i64 dir] h fun v _ => v = .bool true := by
  have aw := fun h Q => awake_call (f := 11) rfl h Q
  have ll := sl.len
  have lp := StrSl.len sp'
  have sp := (small_spec sl).call
  refine Meets.mk rfl (by kernel_rfl) Tryz.func4 rfl (congrArg Array.toList Tryz.results4) ?_
  cases hs : small l with
  | false =>
    rw [hs] at sp
    repeat' (first | simp only [evr, nextP_norm, evd, evq, beq_self_eq_true, cond_true, cond_false, reduceIte, Nat.reduceEqDiff, Nat.reduceAdd, Int.reduceBNe, Int.reduceBEq, Int.reduceLT, Int.reduceLE, Int.reduceEq, evh, evp, Nat.reduceLeDiff, Nat.reduceSub, Nat.reduceBEq, typs, aw, sp] | refine kCond2_by (fun hc => ?_) (fun hc => ?_) <;> try simp only [hc] | refine kPick_by (fun hc => ?_) (fun hc => ?_) <;> try simp only [hc] | refine kWant_by (fun hc => ?_) (fun hc => ?_) <;> try simp only [hc])
  | true =>
    rw [hs] at sp
    by_cases hm : 60 < ps.length
    · have f1 : decide ((60 : Int) < (ps.length : Int)) = true := decide_eq_true (by omega)
      repeat' (first | simp only [evr, nextP_norm, evd, evq, beq_self_eq_true, cond_true, cond_false, reduceIte, Nat.reduceEqDiff, Nat.reduceAdd, Int.reduceBNe, Int.reduceBEq, Int.reduceLT, Int.reduceLE, Int.reduceEq, evh, evp, Nat.reduceLeDiff, Nat.reduceSub, Nat.reduceBEq, typs, aw, sp, lp, f1] | refine kCond2_by (fun hc => ?_) (fun hc => ?_) <;> try simp only [hc] | refine kPick_by (fun hc => ?_) (fun hc => ?_) <;> try simp only [hc] | refine kWant_by (fun hc => ?_) (fun hc => ?_) <;> try simp only [hc])
    have f1 : decide ((60 : Int) < (ps.length : Int)) = false := decide_eq_false (by omega)
    repeat' (first | simp only [evr, nextP_norm, evd, evq, beq_self_eq_true, cond_true, cond_false, reduceIte, Nat.reduceEqDiff, Nat.reduceAdd, Int.reduceBNe, Int.reduceBEq, Int.reduceLT, Int.reduceLE, Int.reduceEq, evh, evp, Nat.reduceLeDiff, Nat.reduceSub, Nat.reduceBEq, typs, aw, sp, lp, f1] | refine kCond2_by (fun hc => ?_) (fun hc => ?_) <;> try simp only [hc] | refine kPick_by (fun hc => ?_) (fun hc => ?_) <;> try simp only [hc] | refine kWant_by (fun hc => ?_) (fun hc => ?_) <;> try simp only [hc])
    refine callP_meets (tNew_spec h) ?_
    rintro _ h1 ⟨F, bt, rfl, k1, t1, fF⟩
    unfold ptrV
    repeat' (first | simp only [evr, nextP_norm, evd, evq, beq_self_eq_true, cond_true, cond_false, reduceIte, Nat.reduceEqDiff, Nat.reduceAdd, Int.reduceBNe, Int.reduceBEq, Int.reduceLT, Int.reduceLE, Int.reduceEq, evh, evp, Nat.reduceLeDiff, Nat.reduceSub, Nat.reduceBEq, typs] | refine kCond2_by (fun hc => ?_) (fun hc => ?_) <;> try simp only [hc] | refine kPick_by (fun hc => ?_) (fun hc => ?_) <;> try simp only [hc] | refine kWant_by (fun hc => ?_) (fun hc => ?_) <;> try simp only [hc])
    refine callP_meets (rNew_spec h1) ?_
    rintro _ h2 ⟨G, br, rfl, k2, r2, fG⟩
    have b0 := both_start k1 t1 fF k2 r2 fG
    unfold ptrV
    have ep : ∀ n : Nat, (some (⟨n, 0, none⟩ : Addr) == none) = false := fun n => rfl
    repeat' (first | simp only [evr, nextP_norm, evd, evq, beq_self_eq_true, cond_true, cond_false, reduceIte, Nat.reduceEqDiff, Nat.reduceAdd, Int.reduceBNe, Int.reduceBEq, Int.reduceLT, Int.reduceLE, Int.reduceEq, evh, evp, Nat.reduceLeDiff, Nat.reduceSub, Nat.reduceBEq, typs, ep] | refine kCond2_by (fun hc => ?_) (fun hc => ?_) <;> try simp only [hc] | refine kPick_by (fun hc => ?_) (fun hc => ?_) <;> try simp only [hc] | refine kWant_by (fun hc => ?_) (fun hc => ?_) <;> try simp only [hc])
    obtain ⟨l121, lacl⟩ := small_len hs
    refine Wp_loop (fun k fr H => ∃ i : Nat, k = l.length - i ∧ i ≤ l.length ∧ Both h H (newHi.steps (l.take i)) bt br i ∧ fr.get 0 = some vl ∧ fr.get 1 = some vp ∧ fr.get 2 = some (.int .i64 dir) ∧ fr.get 7 = some (.pointer (some ⟨bt, 0, none⟩)) ∧ fr.get 8 = some (.pointer (some ⟨br, 0, none⟩)) ∧ fr.get 9 = some (.int .i64 i)) l.length ⟨0, rfl, Nat.zero_le _, b0, ?_, ?_, ?_, ?_, ?_, ?_⟩ ?_
    · repeat' (first | simp only [evr, nextP_norm, evd, evq, beq_self_eq_true, cond_true, cond_false, reduceIte, Nat.reduceEqDiff, Nat.reduceAdd, Int.reduceBNe, Int.reduceBEq, Int.reduceLT, Int.reduceLE, Int.reduceEq, evh, evp, Nat.reduceLeDiff, Nat.reduceSub, Nat.reduceBEq, typs] | refine kCond2_by (fun hc => ?_) (fun hc => ?_) <;> try simp only [hc] | refine kPick_by (fun hc => ?_) (fun hc => ?_) <;> try simp only [hc] | refine kWant_by (fun hc => ?_) (fun hc => ?_) <;> try simp only [hc])
    · repeat' (first | simp only [evr, nextP_norm, evd, evq, beq_self_eq_true, cond_true, cond_false, reduceIte, Nat.reduceEqDiff, Nat.reduceAdd, Int.reduceBNe, Int.reduceBEq, Int.reduceLT, Int.reduceLE, Int.reduceEq, evh, evp, Nat.reduceLeDiff, Nat.reduceSub, Nat.reduceBEq, typs] | refine kCond2_by (fun hc => ?_) (fun hc => ?_) <;> try simp only [hc] | refine kPick_by (fun hc => ?_) (fun hc => ?_) <;> try simp only [hc] | refine kWant_by (fun hc => ?_) (fun hc => ?_) <;> try simp only [hc])
    · repeat' (first | simp only [evr, nextP_norm, evd, evq, beq_self_eq_true, cond_true, cond_false, reduceIte, Nat.reduceEqDiff, Nat.reduceAdd, Int.reduceBNe, Int.reduceBEq, Int.reduceLT, Int.reduceLE, Int.reduceEq, evh, evp, Nat.reduceLeDiff, Nat.reduceSub, Nat.reduceBEq, typs] | refine kCond2_by (fun hc => ?_) (fun hc => ?_) <;> try simp only [hc] | refine kPick_by (fun hc => ?_) (fun hc => ?_) <;> try simp only [hc] | refine kWant_by (fun hc => ?_) (fun hc => ?_) <;> try simp only [hc])
    · repeat' (first | simp only [evr, nextP_norm, evd, evq, beq_self_eq_true, cond_true, cond_false, reduceIte, Nat.reduceEqDiff, Nat.reduceAdd, Int.reduceBNe, Int.reduceBEq, Int.reduceLT, Int.reduceLE, Int.reduceEq, evh, evp, Nat.reduceLeDiff, Nat.reduceSub, Nat.reduceBEq, typs] | refine kCond2_by (fun hc => ?_) (fun hc => ?_) <;> try simp only [hc] | refine kPick_by (fun hc => ?_) (fun hc => ?_) <;> try simp only [hc] | refine kWant_by (fun hc => ?_) (fun hc => ?_) <;> try simp only [hc])
    · repeat' (first | simp only [evr, nextP_norm, evd, evq, beq_self_eq_true, cond_true, cond_false, reduceIte, Nat.reduceEqDiff, Nat.reduceAdd, Int.reduceBNe, Int.reduceBEq, Int.reduceLT, Int.reduceLE, Int.reduceEq, evh, evp, Nat.reduceLeDiff, Nat.reduceSub, Nat.reduceBEq, typs] | refine kCond2_by (fun hc => ?_) (fun hc => ?_) <;> try simp only [hc] | refine kPick_by (fun hc => ?_) (fun hc => ?_) <;> try simp only [hc] | refine kWant_by (fun hc => ?_) (fun hc => ?_) <;> try simp only [hc])
    · repeat' (first | simp only [evr, nextP_norm, evd, evq, beq_self_eq_true, cond_true, cond_false, reduceIte, Nat.reduceEqDiff, Nat.reduceAdd, Int.reduceBNe, Int.reduceBEq, Int.reduceLT, Int.reduceLE, Int.reduceEq, evh, evp, Nat.reduceLeDiff, Nat.reduceSub, Nat.reduceBEq, typs] | refine kCond2_by (fun hc => ?_) (fun hc => ?_) <;> try simp only [hc] | refine kPick_by (fun hc => ?_) (fun hc => ?_) <;> try simp only [hc] | refine kWant_by (fun hc => ?_) (fun hc => ?_) <;> try simp only [hc])
      rfl
    rintro k fr H ⟨i, rfl, hi, b, r0, r1, r2', r7, r8, r9⟩
    by_cases h3 : i < l.length
    · have e3 : decide ((i : Int) < (l.length : Int)) = true := decide_eq_true (by omega)
      obtain ⟨q, o, all, s', pa, hb, hr, hz, hc, hs'⟩ := sl.at (List.getElem?_eq_getElem h3)
      have wi : IntKind.i64.wrap ((i : Int) + 1) = ((i + 1 : Nat) : Int) := by rw [wrap64 (by omega) (by omega)]; omega
      have hrH : rowOf H q = some all := (b.k.row hb).trans hr
      have hz' : decide (o + 14 ≤ all.length) = true := decide_eq_true hz
      repeat' (first | simp only [evr, nextP_norm, evd, evq, beq_self_eq_true, cond_true, cond_false, reduceIte, Nat.reduceEqDiff, Nat.reduceAdd, Int.reduceBNe, Int.reduceBEq, Int.reduceLT, Int.reduceLE, Int.reduceEq, evh, evp, Nat.reduceLeDiff, Nat.reduceSub, Nat.reduceBEq, typs, r0, r1, r2', r7, r8, r9, ll, e3, pa, hrH, hz', hc] | refine kCond2_by (fun hc => ?_) (fun hc => ?_) <;> try simp only [hc] | refine kPick_by (fun hc => ?_) (fun hc => ?_) <;> try simp only [hc] | refine kWant_by (fun hc => ?_) (fun hc => ?_) <;> try simp only [hc])
      have := both_do b (by omega) l[i] hs' (lacl _ (List.getElem_mem h3))
      unfold ptrV at this
      refine callP_meets this ?_
      rintro _ H' ⟨rfl, b'⟩
      rw [← steps_take h3] at b'
      repeat' (first | simp only [evr, nextP_norm, evd, evq, beq_self_eq_true, cond_true, cond_false, reduceIte, Nat.reduceEqDiff, Nat.reduceAdd, Int.reduceBNe, Int.reduceBEq, Int.reduceLT, Int.reduceLE, Int.reduceEq, evh, evp, Nat.reduceLeDiff, Nat.reduceSub, Nat.reduceBEq, typs, r0, r1, r2', r7, r8, r9, wi] | refine kCond2_by (fun hc => ?_) (fun hc => ?_) <;> try simp only [hc] | refine kPick_by (fun hc => ?_) (fun hc => ?_) <;> try simp only [hc] | refine kWant_by (fun hc => ?_) (fun hc => ?_) <;> try simp only [hc])
      exact ⟨l.length - (i + 1), by omega, i + 1, rfl, by omega, b', rfl⟩
    · have e3 : decide ((i : Int) < (l.length : Int)) = false := decide_eq_false (by omega)
      repeat' (first | simp only [evr, nextP_norm, evd, evq, beq_self_eq_true, cond_true, cond_false, reduceIte, Nat.reduceEqDiff, Nat.reduceAdd, Int.reduceBNe, Int.reduceBEq, Int.reduceLT, Int.reduceLE, Int.reduceEq, evh, evp, Nat.reduceLeDiff, Nat.reduceSub, Nat.reduceBEq, typs, r0, r1, r2', r7, r8, r9, ll, e3] | refine kCond2_by (fun hc => ?_) (fun hc => ?_) <;> try simp only [hc] | refine kPick_by (fun hc => ?_) (fun hc => ?_) <;> try simp only [hc] | refine kWant_by (fun hc => ?_) (fun hc => ?_) <;> try simp only [hc])
      have b1 : Both h H (newHi.steps l) bt br i := by rw [List.take_of_length_le (by omega)] at b; exact b
      generalize newHi.steps l = T at b1
      clear b e3
      refine Wp_loop (fun k fr H' => ∃ (j : Nat), k = ps.length - j ∧ j ≤ ps.length ∧ Both h H' T bt br i ∧ fr.get 1 = some vp ∧ fr.get 2 = some (.int .i64 dir) ∧ fr.get 7 = some (.pointer (some ⟨bt, 0, none⟩)) ∧ fr.get 8 = some (.pointer (some ⟨br, 0, none⟩)) ∧ fr.get 10 = some (.int .i64 j)) ps.length ⟨0, rfl, Nat.zero_le _, b1, ?_, ?_, ?_, ?_, ?_⟩ ?_
      · repeat' (first | simp only [evr, nextP_norm, evd, evq, beq_self_eq_true, cond_true, cond_false, reduceIte, Nat.reduceEqDiff, Nat.reduceAdd, Int.reduceBNe, Int.reduceBEq, Int.reduceLT, Int.reduceLE, Int.reduceEq, evh, evp, Nat.reduceLeDiff, Nat.reduceSub, Nat.reduceBEq, typs, r1] | refine kCond2_by (fun hc => ?_) (fun hc => ?_) <;> try simp only [hc] | refine kPick_by (fun hc => ?_) (fun hc => ?_) <;> try simp only [hc] | refine kWant_by (fun hc => ?_) (fun hc => ?_) <;> try simp only [hc])
      · repeat' (first | simp only [evr, nextP_norm, evd, evq, beq_self_eq_true, cond_true, cond_false, reduceIte, Nat.reduceEqDiff, Nat.reduceAdd, Int.reduceBNe, Int.reduceBEq, Int.reduceLT, Int.reduceLE, Int.reduceEq, evh, evp, Nat.reduceLeDiff, Nat.reduceSub, Nat.reduceBEq, typs, r2'] | refine kCond2_by (fun hc => ?_) (fun hc => ?_) <;> try simp only [hc] | refine kPick_by (fun hc => ?_) (fun hc => ?_) <;> try simp only [hc] | refine kWant_by (fun hc => ?_) (fun hc => ?_) <;> try simp only [hc])
      · repeat' (first | simp only [evr, nextP_norm, evd, evq, beq_self_eq_true, cond_true, cond_false, reduceIte, Nat.reduceEqDiff, Nat.reduceAdd, Int.reduceBNe, Int.reduceBEq, Int.reduceLT, Int.reduceLE, Int.reduceEq, evh, evp, Nat.reduceLeDiff, Nat.reduceSub, Nat.reduceBEq, typs, r7] | refine kCond2_by (fun hc => ?_) (fun hc => ?_) <;> try simp only [hc] | refine kPick_by (fun hc => ?_) (fun hc => ?_) <;> try simp only [hc] | refine kWant_by (fun hc => ?_) (fun hc => ?_) <;> try simp only [hc])
      · repeat' (first | simp only [evr, nextP_norm, evd, evq, beq_self_eq_true, cond_true, cond_false, reduceIte, Nat.reduceEqDiff, Nat.reduceAdd, Int.reduceBNe, Int.reduceBEq, Int.reduceLT, Int.reduceLE, Int.reduceEq, evh, evp, Nat.reduceLeDiff, Nat.reduceSub, Nat.reduceBEq, typs, r8] | refine kCond2_by (fun hc => ?_) (fun hc => ?_) <;> try simp only [hc] | refine kPick_by (fun hc => ?_) (fun hc => ?_) <;> try simp only [hc] | refine kWant_by (fun hc => ?_) (fun hc => ?_) <;> try simp only [hc])
      · repeat' (first | simp only [evr, nextP_norm, evd, evq, beq_self_eq_true, cond_true, cond_false, reduceIte, Nat.reduceEqDiff, Nat.reduceAdd, Int.reduceBNe, Int.reduceBEq, Int.reduceLT, Int.reduceLE, Int.reduceEq, evh, evp, Nat.reduceLeDiff, Nat.reduceSub, Nat.reduceBEq, typs] | refine kCond2_by (fun hc => ?_) (fun hc => ?_) <;> try simp only [hc] | refine kPick_by (fun hc => ?_) (fun hc => ?_) <;> try simp only [hc] | refine kWant_by (fun hc => ?_) (fun hc => ?_) <;> try simp only [hc])
        rfl
      clear r0 r1 r2' r7 r8 r9 b1
      rintro k fr' H0 ⟨j, rfl, hj, b, r1, r2, r7, r8, r10⟩
      by_cases h5 : j < ps.length
      · have e5 : decide ((j : Int) < (ps.length : Int)) = true := decide_eq_true (by omega)
        have wj : IntKind.i64.wrap ((j : Int) + 1) = ((j + 1 : Nat) : Int) := by rw [wrap64 (by omega) (by omega)]; omega
        obtain ⟨pb, po, pall, a1, pz, a2, a3⟩ : ∃ b o all, evIndexAddr kon.P 46 vp (.int .i64 j) = some (.pointer (some ⟨b, o, none⟩)) ∧ b < h.next ∧ rowOf h b = some all ∧ all[o]? = some (.string ps[j]) := by
          obtain ⟨b', o', all', w1, w2, w3⟩ := StrSl.at2 sp' (List.getElem?_eq_getElem h5)
          rcases sp' with ⟨rfl, hl⟩ | ⟨b, o, k, c, all, rfl, g2, g3, g4, g5, g6⟩
          · have : (strs ps).length = 0 := by rw [hl]; rfl
            rw [strs_len] at this; omega
          · have hk : k = ps.length := by rw [strs_len] at g5; omega
            subst hk
            have := L_indexAddr (C := kon) (t := 46) (e := 9) (n := 1) (by kernel_rfl) (by kernel_rfl) b o ps.length c .i64 j (by omega) (by omega)
            rw [w1] at this
            simp only [Option.some.injEq, Value.pointer.injEq, Addr.mk.injEq] at this
            obtain ⟨rfl, _⟩ := this
            exact ⟨_, _, _, w1, g3, w2, w3⟩
        generalize ps[j] = p at *
        have row : ∀ {H' : Hp}, Both h H' T bt br i → rowOf H' pb = some pall := fun y => (y.k.row pz).trans a2
        have hK := b.kinds
        have hL : T.L.length ≤ 1000000000 := by have := b.few.1; omega
        by_cases h6 : 1000 < p.size
        · have f2 : decide ((1000 : Int) < (p.size : Int)) = true := decide_eq_true (by omega)
          repeat' (first | simp only [evr, nextP_norm, evd, evq, beq_self_eq_true, cond_true, cond_false, reduceIte, Nat.reduceEqDiff, Nat.reduceAdd, Int.reduceBNe, Int.reduceBEq, Int.reduceLT, Int.reduceLE, Int.reduceEq, evh, evp, Nat.reduceLeDiff, Nat.reduceSub, Nat.reduceBEq, typs, r1, r2, r7, r8, r10, lp, e5, a1, row b, a3, f2] | refine kCond2_by (fun hc => ?_) (fun hc => ?_) <;> try simp only [hc] | refine kPick_by (fun hc => ?_) (fun hc => ?_) <;> try simp only [hc] | refine kWant_by (fun hc => ?_) (fun hc => ?_) <;> try simp only [hc])
        have f2 : decide ((1000 : Int) < (p.size : Int)) = false := decide_eq_false (by omega)
        repeat' (first | simp only [evr, nextP_norm, evd, evq, beq_self_eq_true, cond_true, cond_false, reduceIte, Nat.reduceEqDiff, Nat.reduceAdd, Int.reduceBNe, Int.reduceBEq, Int.reduceLT, Int.reduceLE, Int.reduceEq, evh, evp, Nat.reduceLeDiff, Nat.reduceSub, Nat.reduceBEq, typs, r1, r2, r7, r8, r10, lp, e5, a1, row b, a3, f2] | refine kCond2_by (fun hc => ?_) (fun hc => ?_) <;> try simp only [hc] | refine kPick_by (fun hc => ?_) (fun hc => ?_) <;> try simp only [hc] | refine kWant_by (fun hc => ?_) (fun hc => ?_) <;> try simp only [hc])
        obtain ⟨F0, t0⟩ := b.t
        refine callP_meets (wDir_spec t0 p) ?_
        rintro _ H1 ⟨rfl, k1⟩
        have b1 := b.keeps k1
        obtain ⟨G1, r1'⟩ := b1.r
        repeat' (first | simp only [evr, nextP_norm, evd, evq, beq_self_eq_true, cond_true, cond_false, reduceIte, Nat.reduceEqDiff, Nat.reduceAdd, Int.reduceBNe, Int.reduceBEq, Int.reduceLT, Int.reduceLE, Int.reduceEq, evh, evp, Nat.reduceLeDiff, Nat.reduceSub, Nat.reduceBEq, typs, r1, r2, r7, r8, r10, a1, row b1, a3] | refine kCond2_by (fun hc => ?_) (fun hc => ?_) <;> try simp only [hc] | refine kPick_by (fun hc => ?_) (fun hc => ?_) <;> try simp only [hc] | refine kWant_by (fun hc => ?_) (fun hc => ?_) <;> try simp only [hc])
        refine callP_meets (rwDir_spec hK hL r1' p) ?_
        rintro _ H2 ⟨rfl, k2⟩
        have b2 := b1.keeps k2
        obtain ⟨F2, t2⟩ := b2.t
        repeat' (first | simp only [evr, nextP_norm, evd, evq, beq_self_eq_true, cond_true, cond_false, reduceIte, Nat.reduceEqDiff, Nat.reduceAdd, Int.reduceBNe, Int.reduceBEq, Int.reduceLT, Int.reduceLE, Int.reduceEq, evh, evp, Nat.reduceLeDiff, Nat.reduceSub, Nat.reduceBEq, typs, r1, r2, r7, r8, r10, a1, row b2, a3] | refine kCond2_by (fun hc => ?_) (fun hc => ?_) <;> try simp only [hc] | refine kPick_by (fun hc => ?_) (fun hc => ?_) <;> try simp only [hc] | refine kWant_by (fun hc => ?_) (fun hc => ?_) <;> try simp only [hc])
        refine callP_meets (wTo_spec t2 p) ?_
        rintro _ H3 ⟨rfl, k3⟩
        have b3 := b2.keeps k3
        obtain ⟨G3, r3'⟩ := b3.r
        repeat' (first | simp only [evr, nextP_norm, evd, evq, beq_self_eq_true, cond_true, cond_false, reduceIte, Nat.reduceEqDiff, Nat.reduceAdd, Int.reduceBNe, Int.reduceBEq, Int.reduceLT, Int.reduceLE, Int.reduceEq, evh, evp, Nat.reduceLeDiff, Nat.reduceSub, Nat.reduceBEq, typs, r1, r2, r7, r8, r10, a1, row b3, a3] | refine kCond2_by (fun hc => ?_) (fun hc => ?_) <;> try simp only [hc] | refine kPick_by (fun hc => ?_) (fun hc => ?_) <;> try simp only [hc] | refine kWant_by (fun hc => ?_) (fun hc => ?_) <;> try simp only [hc])
        refine callP_meets (rwTo_spec hK hL r3' p) ?_
        rintro _ H4 ⟨rfl, k4⟩
        have b4 := b3.keeps k4
        obtain ⟨F4, t4⟩ := b4.t
        repeat' (first | simp only [evr, nextP_norm, evd, evq, beq_self_eq_true, cond_true, cond_false, reduceIte, Nat.reduceEqDiff, Nat.reduceAdd, Int.reduceBNe, Int.reduceBEq, Int.reduceLT, Int.reduceLE, Int.reduceEq, evh, evp, Nat.reduceLeDiff, Nat.reduceSub, Nat.reduceBEq, typs, r1, r2, r7, r8, r10, a1, row b4, a3] | refine kCond2_by (fun hc => ?_) (fun hc => ?_) <;> try simp only [hc] | refine kPick_by (fun hc => ?_) (fun hc => ?_) <;> try simp only [hc] | refine kWant_by (fun hc => ?_) (fun hc => ?_) <;> try simp only [hc])
        refine callP_meets (wFind_spec t4 p) ?_
        rintro _ H5 ⟨s5, rfl, ty5, k5⟩
        obtain ⟨c1, c2⟩ := TmTy.cell ty5
        have b5 := b4.keeps k5
        have la := findK_acl b.acl 8 p
        unfold bnC
        simp only [evr, evd, evq, beq_self_eq_true, cond_true, cond_false, reduceIte, Nat.reduceEqDiff, Nat.reduceAdd, Int.reduceBNe, Int.reduceBEq, Int.reduceLT, Int.reduceLE, Int.reduceEq, evh, evp, Nat.reduceLeDiff, Nat.reduceSub, Nat.reduceBEq, typs, r1, r2, r7, r8, r10, c1, c2]
        rw [nextP_norm]
        generalize hh : Hp.set _ _ _ = H6
        have k6 : Keep H5 H6 := by rw [← hh]; exact (Keep.push _ _).set (Nat.le_refl _)
        have n6 : H6.next = H5.next + 1 := by rw [← hh]; rfl
        have g6 : H6.get H5.next = some (.row (bnC (findK T 8 p).1.1 s5) 40 (.rw 0 [])) := by rw [← hh]; exact Hp.get_set_self _ _ _
        clear hh
        have b6 := b5.keeps k6
        obtain ⟨G6, r6'⟩ := b6.r
        repeat' (first | simp only [evr, nextP_norm, evd, evq, beq_self_eq_true, cond_true, cond_false, reduceIte, Nat.reduceEqDiff, Nat.reduceAdd, Int.reduceBNe, Int.reduceBEq, Int.reduceLT, Int.reduceLE, Int.reduceEq, evh, evp, Nat.reduceLeDiff, Nat.reduceSub, Nat.reduceBEq, typs, r1, r2, r7, r8, r10, a1, row b6, a3] | refine kCond2_by (fun hc => ?_) (fun hc => ?_) <;> try simp only [hc] | refine kPick_by (fun hc => ?_) (fun hc => ?_) <;> try simp only [hc] | refine kWant_by (fun hc => ?_) (fun hc => ?_) <;> try simp only [hc])
        refine callP_meets (rwFind_spec hK hL r6' p) ?_
        rintro _ H7 ⟨s7, rfl, ty7, k7⟩
        obtain ⟨d1, d2⟩ := TmTy.cell ty7
        have b7 := b6.keeps k7
        have n7 := k7.1
        unfold bnC
        simp only [evr, evd, evq, beq_self_eq_true, cond_true, cond_false, reduceIte, Nat.reduceEqDiff, Nat.reduceAdd, Int.reduceBNe, Int.reduceBEq, Int.reduceLT, Int.reduceLE, Int.reduceEq, evh, evp, Nat.reduceLeDiff, Nat.reduceSub, Nat.reduceBEq, typs, r1, r2, r7, r8, r10, d1, d2]
        rw [nextP_norm]
        generalize hh : Hp.set _ _ _ = H8
        have k8 : Keep H7 H8 := by rw [← hh]; exact (Keep.push _ _).set (Nat.le_refl _)
        have n8 : H8.next = H7.next + 1 := by rw [← hh]; rfl
        have g8 : H8.get H7.next = some (.row (bnC (findK T 8 p).1.1 s7) 34 (.rw 0 [])) := by rw [← hh]; exact Hp.get_set_self _ _ _
        clear hh
        have b8 := b7.keeps k8
        have q6 := rowOf_rw ((k8.2 _ (by omega)).trans ((k7.2 _ (by omega)).trans g6))
        have q8 := rowOf_rw g8
        have ty5' := SlAt.keep (SlAt.keep (SlAt.keep ty5.slAt' k6) k7) k8
        have ty7' := SlAt.keep ty7.slAt' k8
        have ds : ∀ s : ByteArray, (!decide (s = s)) = false := fun s => by simp
        have tt : ∀ x : Bn, decide (x = x) = true := fun x => decide_eq_true rfl
        generalize (toK T 8 p).1 = K at *
        generalize dirK T p = D at *
        generalize (findK T 8 p).1 = R at *
        repeat' (first | simp only [evr, nextP_norm, evd, evq, beq_self_eq_true, cond_true, cond_false, reduceIte, Nat.reduceEqDiff, Nat.reduceAdd, Int.reduceBNe, Int.reduceBEq, Int.reduceLT, Int.reduceLE, Int.reduceEq, evh, evp, Nat.reduceLeDiff, Nat.reduceSub, Nat.reduceBEq, typs, r1, r2, r7, r8, r10] | refine kCond2_by (fun hc => ?_) (fun hc => ?_) <;> try simp only [hc] | refine kPick_by (fun hc => ?_) (fun hc => ?_) <;> try simp only [hc] | refine kWant_by (fun hc => ?_) (fun hc => ?_) <;> try simp only [hc])
        refine Wp_drawE [0, 0, 0, 0, 0, 0, 0, 0, 0, 0, 0, 0, 0, 0, 0, 0, 0, 0, 0, 0, 0, 0, 0, 0, 0, 0, 0, 0, 0, 1, 3, 1, 4, 0, 0] (KR.mk (by kernel_rfl)) ?_
        unfold bnC at q6 q8
        repeat' (first | simp only [evr, nextP_norm, evd, evq, beq_self_eq_true, cond_true, cond_false, reduceIte, Nat.reduceEqDiff, Nat.reduceAdd, Int.reduceBNe, Int.reduceBEq, Int.reduceLT, Int.reduceLE, Int.reduceEq, evh, evp, Nat.reduceLeDiff, Nat.reduceSub, Nat.reduceBEq, typs, r1, r2, r7, r8, r10, bne_self_eq_false, ds, q6, q8] | refine kCond2_by (fun hc => ?_) (fun hc => ?_) <;> try simp only [hc] | refine kPick_by (fun hc => ?_) (fun hc => ?_) <;> try simp only [hc] | refine kWant_by (fun hc => ?_) (fun hc => ?_) <;> try simp only [hc])
        have m1 := model_spec (h := H8) (x := R.1) ty5'
        unfold bnC at m1
        refine callP_meets m1 ?_
        rintro _ H9 ⟨rfl, k9⟩
        have q6' := (k9.row (by omega)).trans q6
        have q8' := (k9.row (by omega)).trans q8
        repeat' (first | simp only [evr, nextP_norm, evd, evq, beq_self_eq_true, cond_true, cond_false, reduceIte, Nat.reduceEqDiff, Nat.reduceAdd, Int.reduceBNe, Int.reduceBEq, Int.reduceLT, Int.reduceLE, Int.reduceEq, evh, evp, Nat.reduceLeDiff, Nat.reduceSub, Nat.reduceBEq, typs, r1, r2, r7, r8, r10, bne_self_eq_false, ds, q6, q8, q6', q8'] | refine kCond2_by (fun hc => ?_) (fun hc => ?_) <;> try simp only [hc] | refine kPick_by (fun hc => ?_) (fun hc => ?_) <;> try simp only [hc] | refine kWant_by (fun hc => ?_) (fun hc => ?_) <;> try simp only [hc])
        have m2 := sameBranch_spec (SlAt.keep ty5' k9) (SlAt.keep ty7' k9) la la
        unfold bnC at m2
        refine callP_meets m2 ?_
        rintro _ H10 ⟨rfl, k10⟩
        have n9 := k9.1
        have q6x := (k10.row (by omega)).trans q6'
        have q8x := (k10.row (by omega)).trans q8'
        have b10 := (b8.keeps k9).keeps k10
        repeat' (first | simp only [evr, nextP_norm, evd, evq, beq_self_eq_true, cond_true, cond_false, reduceIte, Nat.reduceEqDiff, Nat.reduceAdd, Int.reduceBNe, Int.reduceBEq, Int.reduceLT, Int.reduceLE, Int.reduceEq, evh, evp, Nat.reduceLeDiff, Nat.reduceSub, Nat.reduceBEq, typs, r1, r2, r7, r8, r10, bne_self_eq_false, ds, q6, q8, q6', q8', q6x, q8x, tt] | refine kCond2_by (fun hc => ?_) (fun hc => ?_) <;> try simp only [hc] | refine kPick_by (fun hc => ?_) (fun hc => ?_) <;> try simp only [hc] | refine kWant_by (fun hc => ?_) (fun hc => ?_) <;> try simp only [hc])
        obtain ⟨F10, t10⟩ := b10.t
        refine callP_meets (wIn_spec t10 dir K.2.1) ?_
        rintro _ Ha ⟨sa, rfl, tya, ka⟩
        obtain ⟨x1, x2⟩ := TmTy.cell tya
        have ba := b10.keeps ka
        have lb := walkK_acl b.acl 8 dir [K.2.1]
        unfold bnC
        simp only [evr, evd, evq, beq_self_eq_true, cond_true, cond_false, reduceIte, Nat.reduceEqDiff, Nat.reduceAdd, Int.reduceBNe, Int.reduceBEq, Int.reduceLT, Int.reduceLE, Int.reduceEq, evh, evp, Nat.reduceLeDiff, Nat.reduceSub, Nat.reduceBEq, typs, r1, r2, r7, r8, r10, x1, x2]
        rw [nextP_norm]
        generalize hh : Hp.set _ _ _ = Hb
        have kb : Keep Ha Hb := by rw [← hh]; exact (Keep.push _ _).set (Nat.le_refl _)
        have nb : Hb.next = Ha.next + 1 := by rw [← hh]; rfl
        have gb : Hb.get Ha.next = some (.row (bnC (walkK T 8 dir [K.2.1]).1.1 sa) 40 (.rw 0 [])) := by rw [← hh]; exact Hp.get_set_self _ _ _
        clear hh
        have bb := ba.keeps kb
        obtain ⟨Gb, rb'⟩ := bb.r
        repeat' (first | simp only [evr, nextP_norm, evd, evq, beq_self_eq_true, cond_true, cond_false, reduceIte, Nat.reduceEqDiff, Nat.reduceAdd, Int.reduceBNe, Int.reduceBEq, Int.reduceLT, Int.reduceLE, Int.reduceEq, evh, evp, Nat.reduceLeDiff, Nat.reduceSub, Nat.reduceBEq, typs, r1, r2, r7, r8, r10] | refine kCond2_by (fun hc => ?_) (fun hc => ?_) <;> try simp only [hc] | refine kPick_by (fun hc => ?_) (fun hc => ?_) <;> try simp only [hc] | refine kWant_by (fun hc => ?_) (fun hc => ?_) <;> try simp only [hc])
        refine callP_meets (rwIn_spec hK hL rb' dir K.2.1) ?_
        rintro _ Hc ⟨sc, rfl, tyc, kc⟩
        obtain ⟨y1, y2⟩ := TmTy.cell tyc
        have bc := bb.keeps kc
        have nc := kc.1
        unfold bnC
        simp only [evr, evd, evq, beq_self_eq_true, cond_true, cond_false, reduceIte, Nat.reduceEqDiff, Nat.reduceAdd, Int.reduceBNe, Int.reduceBEq, Int.reduceLT, Int.reduceLE, Int.reduceEq, evh, evp, Nat.reduceLeDiff, Nat.reduceSub, Nat.reduceBEq, typs, r1, r2, r7, r8, r10, y1, y2]
        rw [nextP_norm]
        generalize hh : Hp.set _ _ _ = Hd
        have kd : Keep Hc Hd := by rw [← hh]; exact (Keep.push _ _).set (Nat.le_refl _)
        have nd : Hd.next = Hc.next + 1 := by rw [← hh]; rfl
        have gd : Hd.get Hc.next = some (.row (bnC (walkK T 8 dir [K.2.1]).1.1 sc) 34 (.rw 0 [])) := by rw [← hh]; exact Hp.get_set_self _ _ _
        clear hh
        have bd := bc.keeps kd
        have qb := rowOf_rw ((kd.2 _ (by omega)).trans ((kc.2 _ (by omega)).trans gb))
        have qd := rowOf_rw gd
        have tya' := SlAt.keep (SlAt.keep (SlAt.keep tya.slAt' kb) kc) kd
        have tyc' := SlAt.keep tyc.slAt' kd
        generalize (walkK T 8 dir [K.2.1]).1 = V at *
        repeat' (first | simp only [evr, nextP_norm, evd, evq, beq_self_eq_true, cond_true, cond_false, reduceIte, Nat.reduceEqDiff, Nat.reduceAdd, Int.reduceBNe, Int.reduceBEq, Int.reduceLT, Int.reduceLE, Int.reduceEq, evh, evp, Nat.reduceLeDiff, Nat.reduceSub, Nat.reduceBEq, typs, r1, r2, r7, r8, r10] | refine kCond2_by (fun hc => ?_) (fun hc => ?_) <;> try simp only [hc] | refine kPick_by (fun hc => ?_) (fun hc => ?_) <;> try simp only [hc] | refine kWant_by (fun hc => ?_) (fun hc => ?_) <;> try simp only [hc])
        refine Wp_drawE [0, 0, 0, 0, 1, 3, 1, 4, 0, 0] (KR.mk (by kernel_rfl)) ?_
        unfold bnC at qb qd
        repeat' (first | simp only [evr, nextP_norm, evd, evq, beq_self_eq_true, cond_true, cond_false, reduceIte, Nat.reduceEqDiff, Nat.reduceAdd, Int.reduceBNe, Int.reduceBEq, Int.reduceLT, Int.reduceLE, Int.reduceEq, evh, evp, Nat.reduceLeDiff, Nat.reduceSub, Nat.reduceBEq, typs, r1, r2, r7, r8, r10, bne_self_eq_false, qb, qd] | refine kCond2_by (fun hc => ?_) (fun hc => ?_) <;> try simp only [hc] | refine kPick_by (fun hc => ?_) (fun hc => ?_) <;> try simp only [hc] | refine kWant_by (fun hc => ?_) (fun hc => ?_) <;> try simp only [hc])
        have m3 := model_spec (h := Hd) (x := V.1) tya'
        unfold bnC at m3
        refine callP_meets m3 ?_
        rintro _ He ⟨rfl, ke⟩
        have qb' := (ke.row (by omega)).trans qb
        have qd' := (ke.row (by omega)).trans qd
        repeat' (first | simp only [evr, nextP_norm, evd, evq, beq_self_eq_true, cond_true, cond_false, reduceIte, Nat.reduceEqDiff, Nat.reduceAdd, Int.reduceBNe, Int.reduceBEq, Int.reduceLT, Int.reduceLE, Int.reduceEq, evh, evp, Nat.reduceLeDiff, Nat.reduceSub, Nat.reduceBEq, typs, r1, r2, r7, r8, r10, bne_self_eq_false, qb, qd, qb', qd'] | refine kCond2_by (fun hc => ?_) (fun hc => ?_) <;> try simp only [hc] | refine kPick_by (fun hc => ?_) (fun hc => ?_) <;> try simp only [hc] | refine kWant_by (fun hc => ?_) (fun hc => ?_) <;> try simp only [hc])
        have m4 := sameBranch_spec (SlAt.keep tya' ke) (SlAt.keep tyc' ke) lb lb
        unfold bnC at m4
        refine callP_meets m4 ?_
        rintro _ Hf ⟨rfl, kf⟩
        have ne := ke.1
        have qbx := (kf.row (by omega)).trans qb'
        have qdx := (kf.row (by omega)).trans qd'
        repeat' (first | simp only [evr, nextP_norm, evd, evq, beq_self_eq_true, cond_true, cond_false, reduceIte, Nat.reduceEqDiff, Nat.reduceAdd, Int.reduceBNe, Int.reduceBEq, Int.reduceLT, Int.reduceLE, Int.reduceEq, evh, evp, Nat.reduceLeDiff, Nat.reduceSub, Nat.reduceBEq, typs, r1, r2, r7, r8, r10, bne_self_eq_false, qb, qd, qb', qd', qbx, qdx, tt, wj] | refine kCond2_by (fun hc => ?_) (fun hc => ?_) <;> try simp only [hc] | refine kPick_by (fun hc => ?_) (fun hc => ?_) <;> try simp only [hc] | refine kWant_by (fun hc => ?_) (fun hc => ?_) <;> try simp only [hc])
        exact ⟨ps.length - (j + 1), by omega, j + 1, rfl, by omega, (bd.keeps ke).keeps kf, rfl⟩
      · have e5 : decide ((j : Int) < (ps.length : Int)) = false := decide_eq_false (by omega)
        repeat' (first | simp only [evr, nextP_norm, evd, evq, beq_self_eq_true, cond_true, cond_false, reduceIte, Nat.reduceEqDiff, Nat.reduceAdd, Int.reduceBNe, Int.reduceBEq, Int.reduceLT, Int.reduceLE, Int.reduceEq, evh, evp, Nat.reduceLeDiff, Nat.reduceSub, Nat.reduceBEq, typs, r1, r2, r7, r8, r10, lp, e5] | refine kCond2_by (fun hc => ?_) (fun hc => ?_) <;> try simp only [hc] | refine kPick_by (fun hc => ?_) (fun hc => ?_) <;> try simp only [hc] | refine kWant_by (fun hc => ?_) (fun hc => ?_) <;> try simp only [hc])
theorem rdInt {W : World} {v : Value} {base : Nat} (o : Value.okWide Tryz.prog W .any base 3 v) : ∃ n : Int, v = .int .i64 n := okInt Tryz.underlying3 o
theorem walkWalks_law (W : World) (h : W.ShapedOpen Tryz.prog) {base : Nat} {v0 v1 v2 : Value} (o0 : Value.okWide Tryz.prog W .any base 22 v0) (r0 : RdT Tryz.prog W 22 v0.cells.toList)
    (o1 : Value.okWide Tryz.prog W .any base 46 v1) (r1 : RdT Tryz.prog W 46 v1.cells.toList) (o2 : Value.okWide Tryz.prog W .any base 3 v2) (r2 : RdT Tryz.prog W 3 v2.cells.toList) :
    Calls Tryz.prog 4 #[v0, v1, v2] W fun e w' => e = .returned (.bool true) ∧ Go.RowKit.Below W.heap.size W w' := by
  obtain ⟨a0, len0, cap0, rfl⟩ := Go.WideShapes.okWide_slice Tryz.underlying22 o0
  obtain ⟨u0, w0, l, hv0, _, ha0, hs0⟩ := dds_in h r0
  obtain rfl := slice_one hv0
  obtain ⟨a1, len1, cap1, rfl⟩ := Go.WideShapes.okWide_slice Tryz.underlying46 o1
  obtain ⟨u1, w1, ps, hv1, _, ha1, hs1⟩ := strs_in h r1
  obtain rfl := slice_one hv1
  obtain ⟨n, rfl⟩ := rdInt o2
  exact open_call (kon_from h) kon_mix (args := [.slice a0 len0 cap0, .slice a1 len1 cap1, .int .i64 n]) (abs := [w0, w1, .int .i64 n]) (absA_cons (x := .slice a0 len0 cap0) ha0 (absA_cons (x := .slice a1 len1 cap1) ha1 (absA_cons (x := .int .i64 n) rfl rfl))) (walkWalks_true hs0 hs1 n)
end Go.Proofs.YtncmgiddcefpcaaGreatDoor
namespace Go.Proofs.YtncmgiddcefpcaaGreatDoor
open Go
set_option maxRecDepth 100000
theorem fact1 : (laidOutB Tryz.pinned.checked.prog) = true := by kernel_rfl
theorem fact2 : (mapsRowed Tryz.pinned.checked.prog) = true := by kernel_rfl
theorem fact6 : ((Tryz.pinned.checked.prog.stops == [])) = true := by kernel_rfl
theorem fact8 : ((Tryz.pinned.checked.prog.stopKnobs == [])) = true := by kernel_rfl
theorem fact22 : ((Rows.judgeNowRow.plainKeys == Tryz.pinned.checked.prog.plainKeys)) = true := by kernel_rfl
theorem fact24 : (Tryz.pinned.checked.prog.stopsHeard) = true := by kernel_rfl
theorem fact25 : (Tryz.pinned.checked.prog.mayEnter) = true := by kernel_rfl
theorem fact26 : ((Rows.judgeNowRow.lifted == Tryz.pinned.checked.prog.liftsFinal)) = true := by kernel_rfl
theorem fact27 : ((Tryz.pinned.checked.prog.make == some Rows.judgeNowRow.make)) = true := by kernel_rfl
theorem factLooks : false = Tryz.pinned.checked.prog.looks [] := by kernel_rfl
theorem factMain : Tryz.pinned.checked.prog.mainIs = some (true, "e273f5272d88c497d37e9d766c9a4909ddf1804e3d7dd54ce4e691371479e93c".toList) := by kernel_rfl
end Go.Proofs.YtncmgiddcefpcaaGreatDoor
