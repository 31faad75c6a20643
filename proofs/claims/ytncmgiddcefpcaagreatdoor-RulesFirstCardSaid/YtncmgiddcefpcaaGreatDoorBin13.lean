/- Texts joined: what the claim needs of them. No condition. -/
import Derived.Test.YtncmgiddcefpcaaGreatDoorBin11
import Derived.Test.YtncmgiddcefpcaaGreatDoorBin12
import Derived.Test.YtncmgiddcefpcaaGreatDoorRows
import Derived.JoinedOf
import Derived.SevenTiedAt
namespace Go.Proofs.YtncmgiddcefpcaaGreatDoor
open Go Go.Ev Go.RowKit Go.Con
set_option linter.unusedSimpArgs false
set_option linter.unusedVariables false
set_option maxRecDepth 1000000
theorem rules_one {T : Hi} {r : Rl} (hr : ruleOne r = true) {work : ByteArray} {from_ : Int} {name : ByteArray} : rulesFind T [r] work from_ name = if mayN name = false then ((noBn, 3) : Bn × Int) else match ruleHit T work from_ name r with
    | some b => (b, 0)
    | none => (noBn, 4) := by
  unfold rulesFind
  have hm : rulesMay [r] = true := by unfold rulesMay; simp [hr]
  rw [if_neg (by simp [hm])]
  split
  · rfl
  · rw [List.findSome?_cons]
    cases ruleHit T work from_ name r <;> rfl
theorem Both.under {h h0 H : Hp} {T : Hi} {bt br n : Nat} (b : Both h0 H T bt br n) (k : Keep h h0) : Both h H T bt br n := by
  obtain ⟨a, f, kn, F, G, w⟩ := b
  exact ⟨k.trans a, f, kn, F, G, w.t, w.r, w.dj, fun j hj => w.p j (Nat.lt_of_lt_of_le hj k.1)⟩
theorem RlSl.one {h : Hp} {v : Value} {l : List Rl} (s : RlSl h v l) {i : Nat} (hi : i < l.length) : ∃ u, evSlice kon.P 81 v (some (.int .i64 i)) (some (.int .i64 ((i + 1 : Nat) : Int))) none = some u ∧ RlSl h u [l[i]] := by
  have fl := flat_len rlC (n := 2) (fun _ => rfl) l
  obtain ⟨b', o', all', w1, w2, w3, w4, w5, _⟩ := RlSl.at s (List.getElem?_eq_getElem hi)
  rcases s with ⟨rfl, hl⟩ | ⟨b, o, k, c, all, rfl, h2, h3, h4, h5, h6⟩
  · rw [hl] at fl; simp at fl; omega
  · have hk : k = l.length := by omega
    subst hk
    have := L_indexAddr (C := kon) (t := 81) (e := 83) (n := 2) (by kernel_rfl) (by kernel_rfl) b o l.length c .i64 i (by omega) (by omega)
    rw [w1] at this
    simp only [Option.some.injEq, Value.pointer.injEq, Addr.mk.injEq] at this
    obtain ⟨rfl, rfl, _⟩ := this
    rw [h4] at w3
    obtain rfl := Option.some.inj w3
    refine ⟨_, (L_sliceSl (C := kon) (t := 81) (e := 83) (n := 2) (by kernel_rfl) (by kernel_rfl)).2.1 b' o l.length c .i64 i .i64 ((i + 1 : Nat) : Int) (by omega) (by omega) (by omega) h2, .inr ⟨b', o + i * 2, 1, capTail c i, all, ?_, by unfold capTail; omega, h3, h4, rfl, ?_⟩⟩
    · rw [Int.toNat_natCast, Int.toNat_natCast]; congr 1; omega
    · simp only [Int.toNat_natCast, Nat.one_mul] at w5 ⊢
      rw [w5]; rfl
set_option maxHeartbeats 8000000 in
theorem rulesFirst_true {h : Hp} {vl vx va : Value} {l : List Dd} {x : List Rl} {ask : List ByteArray} (sl : DdSl h vl l) (sx : RlSl h vx x) (sa : StrSl h va ask) : Meets kon 10 [vl, vx, va] h fun v _ => v = .bool true := by
  have aw := fun h Q => awake_call (f := 38) rfl h Q
  have ll := sl.len
  have lx := RlSl.len sx
  have la := StrSl.len sa
  have sp := (small_spec sl).call
  refine Meets.mk rfl (by kernel_rfl) Tryz.func10 rfl (congrArg Array.toList Tryz.results10) ?_
  cases hs : small l with
  | false =>
    rw [hs] at sp
    repeat' (first | simp only [evr, nextP_norm, evd, evq, beq_self_eq_true, cond_true, cond_false, reduceIte, Nat.reduceEqDiff, Nat.reduceAdd, Int.reduceBNe, Int.reduceBEq, Int.reduceLT, Int.reduceLE, Int.reduceEq, evh, evp, Nat.reduceLeDiff, Nat.reduceSub, Nat.reduceBEq, typs, aw, sp] | refine kCond2_by (fun hc => ?_) (fun hc => ?_) <;> try simp only [hc] | refine kPick_by (fun hc => ?_) (fun hc => ?_) <;> try simp only [hc] | refine kWant_by (fun hc => ?_) (fun hc => ?_) <;> try simp only [hc])
  | true =>
    rw [hs] at sp
    by_cases hm : 8 < x.length
    · have f1 : decide ((8 : Int) < (x.length : Int)) = true := decide_eq_true (by omega)
      repeat' (first | simp only [evr, nextP_norm, evd, evq, beq_self_eq_true, cond_true, cond_false, reduceIte, Nat.reduceEqDiff, Nat.reduceAdd, Int.reduceBNe, Int.reduceBEq, Int.reduceLT, Int.reduceLE, Int.reduceEq, evh, evp, Nat.reduceLeDiff, Nat.reduceSub, Nat.reduceBEq, typs, aw, sp, lx, f1] | refine kCond2_by (fun hc => ?_) (fun hc => ?_) <;> try simp only [hc] | refine kPick_by (fun hc => ?_) (fun hc => ?_) <;> try simp only [hc] | refine kWant_by (fun hc => ?_) (fun hc => ?_) <;> try simp only [hc])
    have f1 : decide ((8 : Int) < (x.length : Int)) = false := decide_eq_false (by omega)
    by_cases hm1 : ¬ ask.length = 2
    · have f2 : ((ask.length : Int) != 2) = true := by simp; omega
      repeat' (first | simp only [evr, nextP_norm, evd, evq, beq_self_eq_true, cond_true, cond_false, reduceIte, Nat.reduceEqDiff, Nat.reduceAdd, Int.reduceBNe, Int.reduceBEq, Int.reduceLT, Int.reduceLE, Int.reduceEq, evh, evp, Nat.reduceLeDiff, Nat.reduceSub, Nat.reduceBEq, typs, aw, sp, lx, f1, la, f2] | refine kCond2_by (fun hc => ?_) (fun hc => ?_) <;> try simp only [hc] | refine kPick_by (fun hc => ?_) (fun hc => ?_) <;> try simp only [hc] | refine kWant_by (fun hc => ?_) (fun hc => ?_) <;> try simp only [hc])
    have hm1 := Decidable.not_not.1 hm1
    have f2 : ((ask.length : Int) != 2) = false := by simp; omega
    obtain ⟨pb, po, pall, a1, pz, a2, a3⟩ := StrSl.at3 sa (List.getElem?_eq_getElem (show 1 < ask.length by omega))
    obtain ⟨qb, qo, qall, c1, qz, c2, c3⟩ := StrSl.at3 sa (List.getElem?_eq_getElem (show 0 < ask.length by omega))
    have c1 : evIndexAddr kon.P 46 va (.int .i64 0) = some (.pointer (some ⟨qb, qo, none⟩)) := c1
    have a1 : evIndexAddr kon.P 46 va (.int .i64 1) = some (.pointer (some ⟨pb, po, none⟩)) := a1
    generalize ask[1] = nm at *
    generalize ask[0] = wk at *
    by_cases hm2 : 400 < wk.size
    · have f3 : decide ((400 : Int) < (wk.size : Int)) = true := decide_eq_true (by omega)
      repeat' (first | simp only [evr, nextP_norm, evd, evq, beq_self_eq_true, cond_true, cond_false, reduceIte, Nat.reduceEqDiff, Nat.reduceAdd, Int.reduceBNe, Int.reduceBEq, Int.reduceLT, Int.reduceLE, Int.reduceEq, evh, evp, Nat.reduceLeDiff, Nat.reduceSub, Nat.reduceBEq, typs, aw, sp, lx, f1, la, f2, c1, c2, c3, f3] | refine kCond2_by (fun hc => ?_) (fun hc => ?_) <;> try simp only [hc] | refine kPick_by (fun hc => ?_) (fun hc => ?_) <;> try simp only [hc] | refine kWant_by (fun hc => ?_) (fun hc => ?_) <;> try simp only [hc])
    have f3 : decide ((400 : Int) < (wk.size : Int)) = false := decide_eq_false (by omega)
    by_cases hm3 : 200 < nm.size
    · have f4 : decide ((200 : Int) < (nm.size : Int)) = true := decide_eq_true (by omega)
      repeat' (first | simp only [evr, nextP_norm, evd, evq, beq_self_eq_true, cond_true, cond_false, reduceIte, Nat.reduceEqDiff, Nat.reduceAdd, Int.reduceBNe, Int.reduceBEq, Int.reduceLT, Int.reduceLE, Int.reduceEq, evh, evp, Nat.reduceLeDiff, Nat.reduceSub, Nat.reduceBEq, typs, aw, sp, lx, f1, la, f2, c1, c2, c3, f3, a1, a2, a3, f4] | refine kCond2_by (fun hc => ?_) (fun hc => ?_) <;> try simp only [hc] | refine kPick_by (fun hc => ?_) (fun hc => ?_) <;> try simp only [hc] | refine kWant_by (fun hc => ?_) (fun hc => ?_) <;> try simp only [hc])
    have f4 : decide ((200 : Int) < (nm.size : Int)) = false := decide_eq_false (by omega)
    repeat' (first | simp only [evr, nextP_norm, evd, evq, beq_self_eq_true, cond_true, cond_false, reduceIte, Nat.reduceEqDiff, Nat.reduceAdd, Int.reduceBNe, Int.reduceBEq, Int.reduceLT, Int.reduceLE, Int.reduceEq, evh, evp, Nat.reduceLeDiff, Nat.reduceSub, Nat.reduceBEq, typs, aw, sp, lx, f1, la, f2, c1, c2, c3, f3, a1, a2, a3, f4] | refine kCond2_by (fun hc => ?_) (fun hc => ?_) <;> try simp only [hc] | refine kPick_by (fun hc => ?_) (fun hc => ?_) <;> try simp only [hc] | refine kWant_by (fun hc => ?_) (fun hc => ?_) <;> try simp only [hc])
    refine callP_meets (refRulesMay_spec sx (by omega)) ?_
    rintro _ hm0 ⟨rfl, km0⟩
    cases hrm : rulesMay x with
    | false =>
      repeat' (first | simp only [evr, nextP_norm, evd, evq, beq_self_eq_true, cond_true, cond_false, reduceIte, Nat.reduceEqDiff, Nat.reduceAdd, Int.reduceBNe, Int.reduceBEq, Int.reduceLT, Int.reduceLE, Int.reduceEq, evh, evp, Nat.reduceLeDiff, Nat.reduceSub, Nat.reduceBEq, typs] | refine kCond2_by (fun hc => ?_) (fun hc => ?_) <;> try simp only [hc] | refine kPick_by (fun hc => ?_) (fun hc => ?_) <;> try simp only [hc] | refine kWant_by (fun hc => ?_) (fun hc => ?_) <;> try simp only [hc])
    | true =>
    repeat' (first | simp only [evr, nextP_norm, evd, evq, beq_self_eq_true, cond_true, cond_false, reduceIte, Nat.reduceEqDiff, Nat.reduceAdd, Int.reduceBNe, Int.reduceBEq, Int.reduceLT, Int.reduceLE, Int.reduceEq, evh, evp, Nat.reduceLeDiff, Nat.reduceSub, Nat.reduceBEq, typs] | refine kCond2_by (fun hc => ?_) (fun hc => ?_) <;> try simp only [hc] | refine kPick_by (fun hc => ?_) (fun hc => ?_) <;> try simp only [hc] | refine kWant_by (fun hc => ?_) (fun hc => ?_) <;> try simp only [hc])
    refine callP_meets (tNew_spec hm0) ?_
    rintro _ h1 ⟨F, bt, rfl, k1, t1, fF⟩
    unfold ptrV
    repeat' (first | simp only [evr, nextP_norm, evd, evq, beq_self_eq_true, cond_true, cond_false, reduceIte, Nat.reduceEqDiff, Nat.reduceAdd, Int.reduceBNe, Int.reduceBEq, Int.reduceLT, Int.reduceLE, Int.reduceEq, evh, evp, Nat.reduceLeDiff, Nat.reduceSub, Nat.reduceBEq, typs] | refine kCond2_by (fun hc => ?_) (fun hc => ?_) <;> try simp only [hc] | refine kPick_by (fun hc => ?_) (fun hc => ?_) <;> try simp only [hc] | refine kWant_by (fun hc => ?_) (fun hc => ?_) <;> try simp only [hc])
    refine callP_meets (rNew_spec h1) ?_
    rintro _ h2 ⟨G, br, rfl, k2, r2, fG⟩
    have b0 : Both h h2 newHi bt br 0 := (both_start k1 t1 fF k2 r2 fG).under km0
    unfold ptrV
    have ep : ∀ n : Nat, (some (⟨n, 0, none⟩ : Addr) == none) = false := fun n => rfl
    repeat' (first | simp only [evr, nextP_norm, evd, evq, beq_self_eq_true, cond_true, cond_false, reduceIte, Nat.reduceEqDiff, Nat.reduceAdd, Int.reduceBNe, Int.reduceBEq, Int.reduceLT, Int.reduceLE, Int.reduceEq, evh, evp, Nat.reduceLeDiff, Nat.reduceSub, Nat.reduceBEq, typs, ep] | refine kCond2_by (fun hc => ?_) (fun hc => ?_) <;> try simp only [hc] | refine kPick_by (fun hc => ?_) (fun hc => ?_) <;> try simp only [hc] | refine kWant_by (fun hc => ?_) (fun hc => ?_) <;> try simp only [hc])
    obtain ⟨l121, lacl⟩ := small_len hs
    refine Wp_loop (fun k fr H => ∃ i : Nat, k = l.length - i ∧ i ≤ l.length ∧ Both h H (newHi.steps (l.take i)) bt br i ∧ fr.get 0 = some vl ∧ fr.get 1 = some vx ∧ fr.get 2 = some va ∧ fr.get 7 = some (.pointer (some ⟨bt, 0, none⟩)) ∧ fr.get 8 = some (.pointer (some ⟨br, 0, none⟩)) ∧ fr.get 9 = some (.int .i64 i)) l.length ⟨0, rfl, Nat.zero_le _, b0, ?_, ?_, ?_, ?_, ?_, ?_⟩ ?_
    · repeat' (first | simp only [evr, nextP_norm, evd, evq, beq_self_eq_true, cond_true, cond_false, reduceIte, Nat.reduceEqDiff, Nat.reduceAdd, Int.reduceBNe, Int.reduceBEq, Int.reduceLT, Int.reduceLE, Int.reduceEq, evh, evp, Nat.reduceLeDiff, Nat.reduceSub, Nat.reduceBEq, typs] | refine kCond2_by (fun hc => ?_) (fun hc => ?_) <;> try simp only [hc] | refine kPick_by (fun hc => ?_) (fun hc => ?_) <;> try simp only [hc] | refine kWant_by (fun hc => ?_) (fun hc => ?_) <;> try simp only [hc])
    · repeat' (first | simp only [evr, nextP_norm, evd, evq, beq_self_eq_true, cond_true, cond_false, reduceIte, Nat.reduceEqDiff, Nat.reduceAdd, Int.reduceBNe, Int.reduceBEq, Int.reduceLT, Int.reduceLE, Int.reduceEq, evh, evp, Nat.reduceLeDiff, Nat.reduceSub, Nat.reduceBEq, typs] | refine kCond2_by (fun hc => ?_) (fun hc => ?_) <;> try simp only [hc] | refine kPick_by (fun hc => ?_) (fun hc => ?_) <;> try simp only [hc] | refine kWant_by (fun hc => ?_) (fun hc => ?_) <;> try simp only [hc])
    · repeat' (first | simp only [evr, nextP_norm, evd, evq, beq_self_eq_true, cond_true, cond_false, reduceIte, Nat.reduceEqDiff, Nat.reduceAdd, Int.reduceBNe, Int.reduceBEq, Int.reduceLT, Int.reduceLE, Int.reduceEq, evh, evp, Nat.reduceLeDiff, Nat.reduceSub, Nat.reduceBEq, typs] | refine kCond2_by (fun hc => ?_) (fun hc => ?_) <;> try simp only [hc] | refine kPick_by (fun hc => ?_) (fun hc => ?_) <;> try simp only [hc] | refine kWant_by (fun hc => ?_) (fun hc => ?_) <;> try simp only [hc])
    · repeat' (first | simp only [evr, nextP_norm, evd, evq, beq_self_eq_true, cond_true, cond_false, reduceIte, Nat.reduceEqDiff, Nat.reduceAdd, Int.reduceBNe, Int.reduceBEq, Int.reduceLT, Int.reduceLE, Int.reduceEq, evh, evp, Nat.reduceLeDiff, Nat.reduceSub, Nat.reduceBEq, typs] | refine kCond2_by (fun hc => ?_) (fun hc => ?_) <;> try simp only [hc] | refine kPick_by (fun hc => ?_) (fun hc => ?_) <;> try simp only [hc] | refine kWant_by (fun hc => ?_) (fun hc => ?_) <;> try simp only [hc])
    · repeat' (first | simp only [evr, nextP_norm, evd, evq, beq_self_eq_true, cond_true, cond_false, reduceIte, Nat.reduceEqDiff, Nat.reduceAdd, Int.reduceBNe, Int.reduceBEq, Int.reduceLT, Int.reduceLE, Int.reduceEq, evh, evp, Nat.reduceLeDiff, Nat.reduceSub, Nat.reduceBEq, typs] | refine kCond2_by (fun hc => ?_) (fun hc => ?_) <;> try simp only [hc] | refine kPick_by (fun hc => ?_) (fun hc => ?_) <;> try simp only [hc] | refine kWant_by (fun hc => ?_) (fun hc => ?_) <;> try simp only [hc])
    · repeat' (first | simp only [evr, nextP_norm, evd, evq, beq_self_eq_true, cond_true, cond_false, reduceIte, Nat.reduceEqDiff, Nat.reduceAdd, Int.reduceBNe, Int.reduceBEq, Int.reduceLT, Int.reduceLE, Int.reduceEq, evh, evp, Nat.reduceLeDiff, Nat.reduceSub, Nat.reduceBEq, typs] | refine kCond2_by (fun hc => ?_) (fun hc => ?_) <;> try simp only [hc] | refine kPick_by (fun hc => ?_) (fun hc => ?_) <;> try simp only [hc] | refine kWant_by (fun hc => ?_) (fun hc => ?_) <;> try simp only [hc])
      rfl
    rintro k fr H ⟨i, rfl, hi, b, r0, r1, r2', r7, r8, r9⟩
    by_cases h3 : i < l.length
    · have e3 : decide ((i : Int) < (l.length : Int)) = true := decide_eq_true (by omega)
      obtain ⟨q, o, all, s', pa, hb, hr, hz, hc, hs'⟩ := sl.at (List.getElem?_eq_getElem h3)
      have wi : IntKind.i64.wrap ((i : Int) + 1) = ((i + 1 : Nat) : Int) := by rw [wrap64 (by omega) (by omega)]; omega
      have hrH : rowOf H q = some all := (b.k.row hb).trans hr
      have hz' : decide (o + 14 ≤ all.length) = true := decide_eq_true hz
      repeat' (first | simp only [evr, nextP_norm, evd, evq, beq_self_eq_true, cond_true, cond_false, reduceIte, Nat.reduceEqDiff, Nat.reduceAdd, Int.reduceBNe, Int.reduceBEq, Int.reduceLT, Int.reduceLE, Int.reduceEq, evh, evp, Nat.reduceLeDiff, Nat.reduceSub, Nat.reduceBEq, typs, r0, r1, r2', r7, r8, r9, ll, e3, pa, hrH, hz', hc] | refine kCond2_by (fun hc => ?_) (fun hc => ?_) <;> try simp only [hc] | refine kPick_by (fun hc => ?_) (fun hc => ?_) <;> try simp only [hc] | refine kWant_by (fun hc => ?_) (fun hc => ?_) <;> try simp only [hc])
      have := both_do b (by omega) l[i] hs' (lacl _ (List.getElem_mem h3))
      unfold ptrV at this
      refine callP_meets this ?_
      rintro _ H' ⟨rfl, b'⟩
      rw [← steps_take h3] at b'
      repeat' (first | simp only [evr, nextP_norm, evd, evq, beq_self_eq_true, cond_true, cond_false, reduceIte, Nat.reduceEqDiff, Nat.reduceAdd, Int.reduceBNe, Int.reduceBEq, Int.reduceLT, Int.reduceLE, Int.reduceEq, evh, evp, Nat.reduceLeDiff, Nat.reduceSub, Nat.reduceBEq, typs, r0, r1, r2', r7, r8, r9, wi] | refine kCond2_by (fun hc => ?_) (fun hc => ?_) <;> try simp only [hc] | refine kPick_by (fun hc => ?_) (fun hc => ?_) <;> try simp only [hc] | refine kWant_by (fun hc => ?_) (fun hc => ?_) <;> try simp only [hc])
      exact ⟨l.length - (i + 1), by omega, i + 1, rfl, by omega, b', rfl⟩
    · have e3 : decide ((i : Int) < (l.length : Int)) = false := decide_eq_false (by omega)
      repeat' (first | simp only [evr, nextP_norm, evd, evq, beq_self_eq_true, cond_true, cond_false, reduceIte, Nat.reduceEqDiff, Nat.reduceAdd, Int.reduceBNe, Int.reduceBEq, Int.reduceLT, Int.reduceLE, Int.reduceEq, evh, evp, Nat.reduceLeDiff, Nat.reduceSub, Nat.reduceBEq, typs, r0, r1, r2', r7, r8, r9, ll, e3] | refine kCond2_by (fun hc => ?_) (fun hc => ?_) <;> try simp only [hc] | refine kPick_by (fun hc => ?_) (fun hc => ?_) <;> try simp only [hc] | refine kWant_by (fun hc => ?_) (fun hc => ?_) <;> try simp only [hc])
      have b1 : Both h H (newHi.steps l) bt br i := by rw [List.take_of_length_le (by omega)] at b; exact b
      generalize newHi.steps l = T at b1
      clear b e3
      obtain ⟨F1, t1'⟩ := b1.t
      have row : ∀ {H' : Hp}, Both h H' T bt br i → rowOf H' pb = some pall := fun y => (y.k.row pz).trans a2
      have rowq : ∀ {H' : Hp}, Both h H' T bt br i → rowOf H' qb = some qall := fun y => (y.k.row qz).trans c2
      refine Wp_drawE [0, 0, 0, 0, 1, 0, 0, 1, 4, 0, 0, 0, 2, 4, 0] (KR.mk (by kernel_rfl)) ?_
      repeat' (first | simp only [evr, nextP_norm, evd, evq, beq_self_eq_true, cond_true, cond_false, reduceIte, Nat.reduceEqDiff, Nat.reduceAdd, Int.reduceBNe, Int.reduceBEq, Int.reduceLT, Int.reduceLE, Int.reduceEq, evh, evp, Nat.reduceLeDiff, Nat.reduceSub, Nat.reduceBEq, typs, r0, r1, r2', r7, r8, r9, a1, row b1, a3, c1, rowq b1, c3] | refine kCond2_by (fun hc => ?_) (fun hc => ?_) <;> try simp only [hc] | refine kPick_by (fun hc => ?_) (fun hc => ?_) <;> try simp only [hc] | refine kWant_by (fun hc => ?_) (fun hc => ?_) <;> try simp only [hc])
      refine callP_meets (rulesFind_spec t1' (SlAt.keep sx b1.k) (by omega) wk 0 nm) ?_
      rintro _ H1 ⟨sA, rfl, tyA, k1'⟩
      obtain ⟨d1, d2⟩ := TmTy.cell tyA
      have b2 := b1.keeps k1'
      have dne : (pb = H1.next) = False := eq_false (by have := b2.k.1; omega)
      have dne' : (qb = H1.next) = False := eq_false (by have := b2.k.1; omega)
      have lac := rulesFind_acl b1.acl x wk 0 nm
      have hone : ∀ r ∈ x, ruleOne r = true := by
        unfold rulesMay at hrm
        rw [Bool.and_eq_true, List.all_eq_true] at hrm
        exact hrm.1
      have hfirst : ∀ j, (hj : j < x.length) → (mayN nm = true → ∀ r ∈ x.take j, ruleHit T wk 0 nm r = none) → (rulesFind T [x[j]] wk 0 nm).2 = 0 → rulesFind T [x[j]] wk 0 nm = rulesFind T x wk 0 nm := fun j hj hp h0 => by
        rw [rules_one (hone _ (List.getElem_mem hj))] at h0 ⊢
        cases hn : mayN nm with
        | false => rw [if_pos hn] at h0; exact absurd h0 (by decide)
        | true =>
          rw [if_neg (by simp [hn])] at h0 ⊢
          cases hh : ruleHit T wk 0 nm x[j] with
          | none => rw [hh] at h0; exact absurd h0 (by decide)
          | some b => rw [rulesFind_hit hrm hn hj (hp hn) hh]
      have hmore : ∀ j, (hj : j < x.length) → (mayN nm = true → ∀ r ∈ x.take j, ruleHit T wk 0 nm r = none) → (rulesFind T [x[j]] wk 0 nm).2 ≠ 0 → (mayN nm = true → ∀ r ∈ x.take (j + 1), ruleHit T wk 0 nm r = none) := fun j hj hp h0 hn r hr' => by
        rw [List.take_add_one, List.getElem?_eq_getElem hj, List.mem_append] at hr'
        rcases hr' with hr' | hr'
        · exact hp hn r hr'
        · simp at hr'
          rw [hr']
          rw [rules_one (hone _ (List.getElem_mem hj)), if_neg (by simp [hn])] at h0
          cases hh : ruleHit T wk 0 nm x[j] with
          | none => rfl
          | some b => rw [hh] at h0; exact absurd rfl h0
      have hend : (mayN nm = true → ∀ r ∈ x, ruleHit T wk 0 nm r = none) → (rulesFind T x wk 0 nm).2 ≠ 0 ∧ (rulesFind T x wk 0 nm).1.kind = 0 := fun hp => by
        cases hn : mayN nm with
        | false =>
          have : rulesFind T x wk 0 nm = (noBn, 3) := by unfold rulesFind; rw [if_neg (by simp [hrm]), if_pos hn]
          rw [this]; exact ⟨by decide, rfl⟩
        | true => rw [rulesFind_none hrm hn (hp hn)]; exact ⟨by decide, rfl⟩
      generalize rulesFind T x wk 0 nm = A at *
      unfold bnC
      simp only [evr, evd, evq, beq_self_eq_true, cond_true, cond_false, reduceIte, Nat.reduceEqDiff, Nat.reduceAdd, Int.reduceBNe, Int.reduceBEq, Int.reduceLT, Int.reduceLE, Int.reduceEq, evh, evp, Nat.reduceLeDiff, Nat.reduceSub, Nat.reduceBEq, typs, r0, r1, r2', r7, r8, r9, d1, d2, a1, row b2, row b1, rowq b1, rowq b2, a3, c1, c3, dne, dne', if_false]
      rw [nextP_norm]
      generalize hh : Hp.set _ _ _ = H2
      have k2' : Keep H1 H2 := by rw [← hh]; exact (Keep.push _ _).set (Nat.le_refl _)
      have n2 : H2.next = H1.next + 1 := by rw [← hh]; rfl
      have g2 : H2.get H1.next = some (.row (bnC A.1 sA) 40 (.rw 0 [])) := by rw [← hh]; exact Hp.get_set_self _ _ _
      clear hh
      have b3 := b2.keeps k2'
      have tyA2 := SlAt.keep tyA.slAt' k2'
      clear b1 b2 t1'
      repeat' (first | simp only [evr, nextP_norm, evd, evq, beq_self_eq_true, cond_true, cond_false, reduceIte, Nat.reduceEqDiff, Nat.reduceAdd, Int.reduceBNe, Int.reduceBEq, Int.reduceLT, Int.reduceLE, Int.reduceEq, evh, evp, Nat.reduceLeDiff, Nat.reduceSub, Nat.reduceBEq, typs, r0, r1, r2', r7, r8, r9] | refine kCond2_by (fun hc => ?_) (fun hc => ?_) <;> try simp only [hc] | refine kPick_by (fun hc => ?_) (fun hc => ?_) <;> try simp only [hc] | refine kWant_by (fun hc => ?_) (fun hc => ?_) <;> try simp only [hc])
      refine Wp_loop (fun k fr H' => ∃ (j : Nat), k = x.length - j ∧ j ≤ x.length ∧ Both h H' T bt br i ∧ Keep H2 H' ∧ fr.get 1 = some vx ∧ fr.get 2 = some va ∧ fr.get 7 = some (.pointer (some ⟨bt, 0, none⟩)) ∧ fr.get 10 = some (.pointer (some ⟨H1.next, 0, none⟩)) ∧ fr.get 11 = some (.int .i64 A.2) ∧ fr.get 12 = some (.int .i64 j) ∧ (mayN nm = true → ∀ r ∈ x.take j, ruleHit T wk 0 nm r = none)) x.length ⟨0, rfl, Nat.zero_le _, b3, Keep.refl _, ?_, ?_, ?_, ?_, ?_, ?_, by simp⟩ ?_
      · repeat' (first | simp only [evr, nextP_norm, evd, evq, beq_self_eq_true, cond_true, cond_false, reduceIte, Nat.reduceEqDiff, Nat.reduceAdd, Int.reduceBNe, Int.reduceBEq, Int.reduceLT, Int.reduceLE, Int.reduceEq, evh, evp, Nat.reduceLeDiff, Nat.reduceSub, Nat.reduceBEq, typs, r1] | refine kCond2_by (fun hc => ?_) (fun hc => ?_) <;> try simp only [hc] | refine kPick_by (fun hc => ?_) (fun hc => ?_) <;> try simp only [hc] | refine kWant_by (fun hc => ?_) (fun hc => ?_) <;> try simp only [hc])
      · repeat' (first | simp only [evr, nextP_norm, evd, evq, beq_self_eq_true, cond_true, cond_false, reduceIte, Nat.reduceEqDiff, Nat.reduceAdd, Int.reduceBNe, Int.reduceBEq, Int.reduceLT, Int.reduceLE, Int.reduceEq, evh, evp, Nat.reduceLeDiff, Nat.reduceSub, Nat.reduceBEq, typs, r2'] | refine kCond2_by (fun hc => ?_) (fun hc => ?_) <;> try simp only [hc] | refine kPick_by (fun hc => ?_) (fun hc => ?_) <;> try simp only [hc] | refine kWant_by (fun hc => ?_) (fun hc => ?_) <;> try simp only [hc])
      · repeat' (first | simp only [evr, nextP_norm, evd, evq, beq_self_eq_true, cond_true, cond_false, reduceIte, Nat.reduceEqDiff, Nat.reduceAdd, Int.reduceBNe, Int.reduceBEq, Int.reduceLT, Int.reduceLE, Int.reduceEq, evh, evp, Nat.reduceLeDiff, Nat.reduceSub, Nat.reduceBEq, typs, r7] | refine kCond2_by (fun hc => ?_) (fun hc => ?_) <;> try simp only [hc] | refine kPick_by (fun hc => ?_) (fun hc => ?_) <;> try simp only [hc] | refine kWant_by (fun hc => ?_) (fun hc => ?_) <;> try simp only [hc])
      · repeat' (first | simp only [evr, nextP_norm, evd, evq, beq_self_eq_true, cond_true, cond_false, reduceIte, Nat.reduceEqDiff, Nat.reduceAdd, Int.reduceBNe, Int.reduceBEq, Int.reduceLT, Int.reduceLE, Int.reduceEq, evh, evp, Nat.reduceLeDiff, Nat.reduceSub, Nat.reduceBEq, typs] | refine kCond2_by (fun hc => ?_) (fun hc => ?_) <;> try simp only [hc] | refine kPick_by (fun hc => ?_) (fun hc => ?_) <;> try simp only [hc] | refine kWant_by (fun hc => ?_) (fun hc => ?_) <;> try simp only [hc])
      · repeat' (first | simp only [evr, nextP_norm, evd, evq, beq_self_eq_true, cond_true, cond_false, reduceIte, Nat.reduceEqDiff, Nat.reduceAdd, Int.reduceBNe, Int.reduceBEq, Int.reduceLT, Int.reduceLE, Int.reduceEq, evh, evp, Nat.reduceLeDiff, Nat.reduceSub, Nat.reduceBEq, typs] | refine kCond2_by (fun hc => ?_) (fun hc => ?_) <;> try simp only [hc] | refine kPick_by (fun hc => ?_) (fun hc => ?_) <;> try simp only [hc] | refine kWant_by (fun hc => ?_) (fun hc => ?_) <;> try simp only [hc])
      · repeat' (first | simp only [evr, nextP_norm, evd, evq, beq_self_eq_true, cond_true, cond_false, reduceIte, Nat.reduceEqDiff, Nat.reduceAdd, Int.reduceBNe, Int.reduceBEq, Int.reduceLT, Int.reduceLE, Int.reduceEq, evh, evp, Nat.reduceLeDiff, Nat.reduceSub, Nat.reduceBEq, typs] | refine kCond2_by (fun hc => ?_) (fun hc => ?_) <;> try simp only [hc] | refine kPick_by (fun hc => ?_) (fun hc => ?_) <;> try simp only [hc] | refine kWant_by (fun hc => ?_) (fun hc => ?_) <;> try simp only [hc])
        rfl
      clear r0 r1 r2' r7 r8 r9
      rintro k fr1 H3 ⟨j, rfl, hj, b, K, r1, r2, r7, r10, r11, r12, hp⟩
      have qA := rowOf_rw ((K.2 _ (by omega)).trans g2)
      unfold bnC at qA
      by_cases h5 : ¬ j < x.length
      · have e5 : decide ((j : Int) < (x.length : Int)) = false := decide_eq_false (by omega)
        obtain ⟨q1, q2⟩ := hend (fun hn r hr => hp hn r (by rw [List.take_of_length_le (by omega)]; exact hr))
        have f5 : (A.2 != 0) = true := by simp [q1]
        have f6 : (A.1.kind == 0) = true := by simp [q2]
        repeat' (first | simp only [evr, nextP_norm, evd, evq, beq_self_eq_true, cond_true, cond_false, reduceIte, Nat.reduceEqDiff, Nat.reduceAdd, Int.reduceBNe, Int.reduceBEq, Int.reduceLT, Int.reduceLE, Int.reduceEq, evh, evp, Nat.reduceLeDiff, Nat.reduceSub, Nat.reduceBEq, typs, r1, r2, r7, r10, r11, r12, lx, e5, qA, f5, f6] | refine kCond2_by (fun hc => ?_) (fun hc => ?_) <;> try simp only [hc] | refine kPick_by (fun hc => ?_) (fun hc => ?_) <;> try simp only [hc] | refine kWant_by (fun hc => ?_) (fun hc => ?_) <;> try simp only [hc])
      have h5 := Decidable.not_not.1 h5
      have e5 : decide ((j : Int) < (x.length : Int)) = true := decide_eq_true (by omega)
      have wj : IntKind.i64.wrap ((j : Int) + 1) = ((j + 1 : Nat) : Int) := by rw [wrap64 (by omega) (by omega)]; omega
      obtain ⟨u, eu, su⟩ := RlSl.one sx h5
      obtain ⟨F3, t3⟩ := b.t
      repeat' (first | simp only [evr, nextP_norm, evd, evq, beq_self_eq_true, cond_true, cond_false, reduceIte, Nat.reduceEqDiff, Nat.reduceAdd, Int.reduceBNe, Int.reduceBEq, Int.reduceLT, Int.reduceLE, Int.reduceEq, evh, evp, Nat.reduceLeDiff, Nat.reduceSub, Nat.reduceBEq, typs, r1, r2, r7, r10, r11, r12, lx, e5] | refine kCond2_by (fun hc => ?_) (fun hc => ?_) <;> try simp only [hc] | refine kPick_by (fun hc => ?_) (fun hc => ?_) <;> try simp only [hc] | refine kWant_by (fun hc => ?_) (fun hc => ?_) <;> try simp only [hc])
      refine Wp_drawE [0, 0, 0, 0, 0, 0, 0, 0, 1, 0, 0, 1, 4, 0, 0, 0, 2, 4, 0] (KR.mk (by kernel_rfl)) ?_
      repeat' (first | simp only [evr, nextP_norm, evd, evq, beq_self_eq_true, cond_true, cond_false, reduceIte, Nat.reduceEqDiff, Nat.reduceAdd, Int.reduceBNe, Int.reduceBEq, Int.reduceLT, Int.reduceLE, Int.reduceEq, evh, evp, Nat.reduceLeDiff, Nat.reduceSub, Nat.reduceBEq, typs, r1, r2, r7, r10, r11, r12, wj, eu, a1, row b, a3, c1, rowq b, c3] | refine kCond2_by (fun hc => ?_) (fun hc => ?_) <;> try simp only [hc] | refine kPick_by (fun hc => ?_) (fun hc => ?_) <;> try simp only [hc] | refine kWant_by (fun hc => ?_) (fun hc => ?_) <;> try simp only [hc])
      refine callP_meets (rulesFind_spec t3 (SlAt.keep su b.k) (by simp) wk 0 nm) ?_
      have first := hfirst j h5 hp
      have more := hmore j h5 hp
      clear hfirst hmore
      generalize rulesFind T [x[j]] wk 0 nm = R at *
      rintro _ H4 ⟨s4, rfl, ty4, k4⟩
      obtain ⟨x1, x2⟩ := TmTy.cell ty4
      have b4 := b.keeps k4
      have dne : (pb = H4.next) = False := eq_false (by have := b4.k.1; omega)
      have dne' : (qb = H4.next) = False := eq_false (by have := b4.k.1; omega)
      unfold bnC
      simp only [evr, evd, evq, beq_self_eq_true, cond_true, cond_false, reduceIte, Nat.reduceEqDiff, Nat.reduceAdd, Int.reduceBNe, Int.reduceBEq, Int.reduceLT, Int.reduceLE, Int.reduceEq, evh, evp, Nat.reduceLeDiff, Nat.reduceSub, Nat.reduceBEq, typs, r1, r2, r7, r10, r11, r12, wj, x1, x2, a1, row b4, row b, rowq b, rowq b4, a3, c1, c3, dne, dne', if_false]
      rw [nextP_norm]
      generalize hh : Hp.set _ _ _ = H5
      have k5 : Keep H4 H5 := by rw [← hh]; exact (Keep.push _ _).set (Nat.le_refl _)
      have n5 : H5.next = H4.next + 1 := by rw [← hh]; rfl
      have g5 : H5.get H4.next = some (.row (bnC R.1 s4) 40 (.rw 0 [])) := by rw [← hh]; exact Hp.get_set_self _ _ _
      clear hh
      have b5 := b4.keeps k5
      by_cases h0 : ¬ R.2 = 0
      · have f5 : (R.2 != 0) = true := by simp [h0]
        repeat' (first | simp only [evr, nextP_norm, evd, evq, beq_self_eq_true, cond_true, cond_false, reduceIte, Nat.reduceEqDiff, Nat.reduceAdd, Int.reduceBNe, Int.reduceBEq, Int.reduceLT, Int.reduceLE, Int.reduceEq, evh, evp, Nat.reduceLeDiff, Nat.reduceSub, Nat.reduceBEq, typs, r1, r2, r7, r10, r11, r12, f5, wj] | refine kCond2_by (fun hc => ?_) (fun hc => ?_) <;> try simp only [hc] | refine kPick_by (fun hc => ?_) (fun hc => ?_) <;> try simp only [hc] | refine kWant_by (fun hc => ?_) (fun hc => ?_) <;> try simp only [hc])
        exact ⟨x.length - (j + 1), by omega, j + 1, rfl, by omega, b5, (K.trans k4).trans k5, rfl, more h0⟩
      have h0 := Decidable.not_not.1 h0
      have f5 : (R.2 != 0) = false := by simp [h0]
      obtain rfl := first h0
      have f6 : (R.2 == 0) = true := by simp [h0]
      have n3 := K.1
      have n4 := k4.1
      have qA5 := ((k4.trans k5).row (by omega)).trans qA
      have q5 := rowOf_rw g5
      unfold bnC at q5
      have tyA5 := SlAt.keep tyA2 ((K.trans k4).trans k5)
      have ty5 := SlAt.keep ty4.slAt' k5
      repeat' (first | simp only [evr, nextP_norm, evd, evq, beq_self_eq_true, cond_true, cond_false, reduceIte, Nat.reduceEqDiff, Nat.reduceAdd, Int.reduceBNe, Int.reduceBEq, Int.reduceLT, Int.reduceLE, Int.reduceEq, evh, evp, Nat.reduceLeDiff, Nat.reduceSub, Nat.reduceBEq, typs, r1, r2, r7, r10, r11, r12, f5] | refine kCond2_by (fun hc => ?_) (fun hc => ?_) <;> try simp only [hc] | refine kPick_by (fun hc => ?_) (fun hc => ?_) <;> try simp only [hc] | refine kWant_by (fun hc => ?_) (fun hc => ?_) <;> try simp only [hc])
      refine Wp_drawE [0, 0, 0, 1, 3, 1, 4, 4, 0, 0] (KR.mk (by kernel_rfl)) ?_
      repeat' (first | simp only [evr, nextP_norm, evd, evq, beq_self_eq_true, cond_true, cond_false, reduceIte, Nat.reduceEqDiff, Nat.reduceAdd, Int.reduceBNe, Int.reduceBEq, Int.reduceLT, Int.reduceLE, Int.reduceEq, evh, evp, Nat.reduceLeDiff, Nat.reduceSub, Nat.reduceBEq, typs, r1, r2, r7, r10, r11, r12, f6, qA5, q5] | refine kCond2_by (fun hc => ?_) (fun hc => ?_) <;> try simp only [hc] | refine kPick_by (fun hc => ?_) (fun hc => ?_) <;> try simp only [hc] | refine kWant_by (fun hc => ?_) (fun hc => ?_) <;> try simp only [hc])
      have m1 := model_spec (h := H5) (x := R.1) ty5
      unfold bnC at m1
      refine callP_meets m1 ?_
      rintro _ H6 ⟨rfl, k6⟩
      have qA6 := (k6.row (by omega)).trans qA5
      have q6 := (k6.row (by omega)).trans q5
      repeat' (first | simp only [evr, nextP_norm, evd, evq, beq_self_eq_true, cond_true, cond_false, reduceIte, Nat.reduceEqDiff, Nat.reduceAdd, Int.reduceBNe, Int.reduceBEq, Int.reduceLT, Int.reduceLE, Int.reduceEq, evh, evp, Nat.reduceLeDiff, Nat.reduceSub, Nat.reduceBEq, typs, r1, r2, r7, r10, r11, r12, f6, qA5, q5, qA6, q6] | refine kCond2_by (fun hc => ?_) (fun hc => ?_) <;> try simp only [hc] | refine kPick_by (fun hc => ?_) (fun hc => ?_) <;> try simp only [hc] | refine kWant_by (fun hc => ?_) (fun hc => ?_) <;> try simp only [hc])
      have m2 := model_spec (h := H6) (x := R.1) (SlAt.keep tyA5 k6)
      unfold bnC at m2
      refine callP_meets m2 ?_
      rintro _ H7 ⟨rfl, k7⟩
      have n6 := k6.1
      have qA7 := (k7.row (by omega)).trans qA6
      have q7 := (k7.row (by omega)).trans q6
      repeat' (first | simp only [evr, nextP_norm, evd, evq, beq_self_eq_true, cond_true, cond_false, reduceIte, Nat.reduceEqDiff, Nat.reduceAdd, Int.reduceBNe, Int.reduceBEq, Int.reduceLT, Int.reduceLE, Int.reduceEq, evh, evp, Nat.reduceLeDiff, Nat.reduceSub, Nat.reduceBEq, typs, r1, r2, r7, r10, r11, r12, f6, qA5, q5, qA6, q6, qA7, q7] | refine kCond2_by (fun hc => ?_) (fun hc => ?_) <;> try simp only [hc] | refine kPick_by (fun hc => ?_) (fun hc => ?_) <;> try simp only [hc] | refine kWant_by (fun hc => ?_) (fun hc => ?_) <;> try simp only [hc])
      have m3 := sameBranch_spec (SlAt.keep (SlAt.keep ty5 k6) k7) (SlAt.keep (SlAt.keep tyA5 k6) k7) lac lac
      unfold bnC at m3
      refine callP_meets m3 ?_
      rintro _ H8 ⟨rfl, k8⟩
      have n7 := k7.1
      have qA8 := (k8.row (by omega)).trans qA7
      have q8 := (k8.row (by omega)).trans q7
      have tt : decide (R.1 = R.1) = true := decide_eq_true rfl
      repeat' (first | simp only [evr, nextP_norm, evd, evq, beq_self_eq_true, cond_true, cond_false, reduceIte, Nat.reduceEqDiff, Nat.reduceAdd, Int.reduceBNe, Int.reduceBEq, Int.reduceLT, Int.reduceLE, Int.reduceEq, evh, evp, Nat.reduceLeDiff, Nat.reduceSub, Nat.reduceBEq, typs, r1, r2, r7, r10, r11, r12, f6, qA5, q5, qA6, q6, qA7, q7, qA8, q8, tt] | refine kCond2_by (fun hc => ?_) (fun hc => ?_) <;> try simp only [hc] | refine kPick_by (fun hc => ?_) (fun hc => ?_) <;> try simp only [hc] | refine kWant_by (fun hc => ?_) (fun hc => ?_) <;> try simp only [hc])
theorem rulesFirst_law (W : World) (h : W.ShapedOpen Tryz.prog) {base : Nat} {v0 v1 v2 : Value} (o0 : Value.okWide Tryz.prog W .any base 22 v0) (r0 : RdT Tryz.prog W 22 v0.cells.toList)
    (o1 : Value.okWide Tryz.prog W .any base 81 v1) (r1 : RdT Tryz.prog W 81 v1.cells.toList) (o2 : Value.okWide Tryz.prog W .any base 46 v2) (r2 : RdT Tryz.prog W 46 v2.cells.toList) :
    Calls Tryz.prog 10 #[v0, v1, v2] W fun e w' => e = .returned (.bool true) ∧ Go.RowKit.Below W.heap.size W w' := by
  obtain ⟨a0, len0, cap0, rfl⟩ := Go.WideShapes.okWide_slice Tryz.underlying22 o0
  obtain ⟨u0, w0, l, hv0, _, ha0, hs0⟩ := dds_in h r0
  obtain rfl := slice_one hv0
  obtain ⟨a1, len1, cap1, rfl⟩ := Go.WideShapes.okWide_slice Tryz.underlying81 o1
  obtain ⟨u1, w1, x, hv1, _, ha1, hs1⟩ := rls_in h r1
  obtain rfl := slice_one hv1
  obtain ⟨a2, len2, cap2, rfl⟩ := Go.WideShapes.okWide_slice Tryz.underlying46 o2
  obtain ⟨u2, w2, ask, hv2, _, ha2, hs2⟩ := strs_in h r2
  obtain rfl := slice_one hv2
  exact open_call (kon_from h) kon_mix (args := [.slice a0 len0 cap0, .slice a1 len1 cap1, .slice a2 len2 cap2]) (abs := [w0, w1, w2]) (absA_cons (x := .slice a0 len0 cap0) ha0 (absA_cons (x := .slice a1 len1 cap1) ha1 (absA_cons (x := .slice a2 len2 cap2) ha2 rfl))) (rulesFirst_true hs0 hs1 hs2)
end Go.Proofs.YtncmgiddcefpcaaGreatDoor
namespace Go.Proofs.YtncmgiddcefpcaaGreatDoor
open Go
set_option maxRecDepth 100000
theorem fact1 : (laidOutB Tryz.pinned.checked.prog) = true := by kernel_rfl
theorem fact2 : (mapsRowed Tryz.pinned.checked.prog) = true := by kernel_rfl
theorem fact6 : ((Tryz.pinned.checked.prog.stops == [])) = true := by kernel_rfl
theorem fact8 : ((Tryz.pinned.checked.prog.stopKnobs == [])) = true := by kernel_rfl
theorem fact22 : ((Rows.judgeNowRow.plainKeys == Tryz.pinned.checked.prog.plainKeys)) = true := by kernel_rfl
theorem fact24 : (Tryz.pinned.checked.prog.stopsHeard) = true := by kernel_rfl
theorem fact25 : (Tryz.pinned.checked.prog.mayEnter) = true := by kernel_rfl
theorem fact26 : ((Rows.judgeNowRow.lifted == Tryz.pinned.checked.prog.liftsFinal)) = true := by kernel_rfl
theorem fact27 : ((Tryz.pinned.checked.prog.make == some Rows.judgeNowRow.make)) = true := by kernel_rfl
theorem factLooks : false = Tryz.pinned.checked.prog.looks [] := by kernel_rfl
theorem factMain : Tryz.pinned.checked.prog.mainIs = some (true, "e273f5272d88c497d37e9d766c9a4909ddf1804e3d7dd54ce4e691371479e93c".toList) := by kernel_rfl
end Go.Proofs.YtncmgiddcefpcaaGreatDoor
