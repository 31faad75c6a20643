/- The descriptor of a segment: sdw.Of. -/
import Derived.Test.YtncmgiddcefpcaaDoorConFe
namespace Go.Proofs.YtncmgiddcefpcaaDoor
open Go Go.Ev Go.Con
set_option linter.unusedSimpArgs false
set_option linter.unusedVariables false
set_option maxRecDepth 100000
section
variable {h : Hp} {F G : Nat → Prop} {T : Hi} {S : Sto} {bt bs : Nat}
theorem TreeAt.acl_le (t : TreeAt h F T bt) {u : Int} {b : Bn} (hb : T.byUID u = some b) : b.acl.length ≤ 1000000000 := by
  obtain ⟨bl, bd, bu, nb, t⟩ := t
  unfold Hi.byUID at hb
  cases hs : T.seg u with
  | none => rw [hs] at hb; cases hb
  | some i => rw [hs] at hb; cases hb; exact t.acl i
set_option maxHeartbeats 2000000 in
theorem sdOf_spec (t : TreeAt h F T bt) (s : StoAt h G S bs) (u : Int) (user : ByteArray) : Meets kon 56 [ptrV bt, ptrV bs, .int .i64 u, .string user] h fun v h' =>
    v = .tuple #[sdV (sdwOf T S u user).1, .int .i64 (sdwOf T S u user).2] ∧ Keep h h' := by
  unfold sdV
  refine Meets.mk rfl (by kernel_rfl) Tryd.func56 rfl (congrArg Array.toList Tryd.results56) ?_
  have ep : ∀ b, ptrV b = .pointer (some ⟨b, 0, none⟩) := fun _ => rfl
  repeat' (first | simp only [evr, nextP_norm, evd, evq, beq_self_eq_true, cond_true, cond_false, reduceIte, Nat.reduceEqDiff, Nat.reduceAdd, Int.reduceBNe, Int.reduceBEq, Int.reduceLT, Int.reduceLE, Int.reduceEq, evh, evp, Nat.reduceLeDiff, Nat.reduceSub, Nat.reduceBEq, typs, ep bt, ep bs] | refine kCond2_by (fun hc => ?_) (fun hc => ?_) <;> try simp only [hc] | refine kPick_by (fun hc => ?_) (fun hc => ?_) <;> try simp only [hc] | refine kWant_by (fun hc => ?_) (fun hc => ?_) <;> try simp only [hc])
  generalize hh : h.push _ = h1
  have z1 : h1.get h.next = some (.row [.int .i64 0, .int .i64 0, .bool false, .bool false, .bool false, .int .i64 0, .int .i64 0, .int .i64 0, .int .i64 0] 86 (.rw 0 [])) := by rw [← hh]; exact Hp.get_push_self _ _
  have k1 : Keep h h1 := by rw [← hh]; exact Keep.push _ _
  have n1 : h1.next = h.next + 1 := by rw [← hh]; rfl
  clear hh
  refine callP_meets (tByUID_spec (t.keeps k1) u) ?_
  rintro v h2 ⟨k2, hv⟩
  have n2 := k2.1
  cases hb : T.byUID u with
  | none =>
    rw [hb] at hv
    have hv : v = noneV := hv
    subst hv
    unfold noneV
    repeat' (first | simp only [evr, nextP_norm, evd, evq, beq_self_eq_true, cond_true, cond_false, reduceIte, Nat.reduceEqDiff, Nat.reduceAdd, Int.reduceBNe, Int.reduceBEq, Int.reduceLT, Int.reduceLE, Int.reduceEq, evh, evp, Nat.reduceLeDiff, Nat.reduceSub, Nat.reduceBEq, typs] | refine kCond2_by (fun hc => ?_) (fun hc => ?_) <;> try simp only [hc] | refine kPick_by (fun hc => ?_) (fun hc => ?_) <;> try simp only [hc] | refine kWant_by (fun hc => ?_) (fun hc => ?_) <;> try simp only [hc])
    generalize hh : Hp.set _ h2.next _ = h3
    have k3 : Keep h h3 := by rw [← hh]; exact ((k1.trans k2).pushed).set (by omega)
    have z3 : h3.get h.next = some (.row [.int .i64 0, .int .i64 0, .bool false, .bool false, .bool false, .int .i64 0, .int .i64 0, .int .i64 0, .int .i64 0] 86 (.rw 0 [])) := by rw [← hh, Hp.get_set_ne (by omega), Hp.get_push_lt (by omega), k2.2 _ (by omega)]; exact z1
    clear hh
    have hs := (sSize_spec (s.keeps k3) u).call
    unfold ptrV at hs
    repeat' (first | simp only [evr, nextP_norm, evd, evq, beq_self_eq_true, cond_true, cond_false, reduceIte, Nat.reduceEqDiff, Nat.reduceAdd, Int.reduceBNe, Int.reduceBEq, Int.reduceLT, Int.reduceLE, Int.reduceEq, evh, evp, Nat.reduceLeDiff, Nat.reduceSub, Nat.reduceBEq, typs, hs, z3] | refine kCond2_by (fun hc => ?_) (fun hc => ?_) <;> try simp only [hc] | refine kPick_by (fun hc => ?_) (fun hc => ?_) <;> try simp only [hc] | refine kWant_by (fun hc => ?_) (fun hc => ?_) <;> try simp only [hc])
    have : sdwOf T S u user = (noSd, 4) := by unfold sdwOf; rw [hb]
    rw [this]
    exact ⟨rfl, k3.set (Nat.le_refl _)⟩
  | some b =>
    rw [hb] at hv
    obtain ⟨sl, hv, hsl⟩ := hv
    subst hv
    have hsc := hsl.isCell
    have hcv := hsl.cellsV
    unfold outV bnC
    repeat' (first | simp only [evr, nextP_norm, evd, evq, beq_self_eq_true, cond_true, cond_false, reduceIte, Nat.reduceEqDiff, Nat.reduceAdd, Int.reduceBNe, Int.reduceBEq, Int.reduceLT, Int.reduceLE, Int.reduceEq, evh, evp, Nat.reduceLeDiff, Nat.reduceSub, Nat.reduceBEq, typs, hsc, hcv] | refine kCond2_by (fun hc => ?_) (fun hc => ?_) <;> try simp only [hc] | refine kPick_by (fun hc => ?_) (fun hc => ?_) <;> try simp only [hc] | refine kWant_by (fun hc => ?_) (fun hc => ?_) <;> try simp only [hc])
    generalize hh : Hp.set _ h2.next _ = h3
    have k3 : Keep h h3 := by rw [← hh]; exact ((k1.trans k2).pushed).set (by omega)
    have k23 : Keep h2 h3 := by rw [← hh]; exact (Keep.push _ _).set (Nat.le_refl _)
    have z3 : h3.get h.next = some (.row [.int .i64 0, .int .i64 0, .bool false, .bool false, .bool false, .int .i64 0, .int .i64 0, .int .i64 0, .int .i64 0] 86 (.rw 0 [])) := by rw [← hh, Hp.get_set_ne (by omega), Hp.get_push_lt (by omega), k2.2 _ (by omega)]; exact z1
    have b3 : h3.get h2.next = some (.row (bnC b sl) 45 (.rw 0 [])) := by rw [← hh]; exact Hp.get_set_self _ _ _
    have n3 : h3.next = h2.next + 1 := by rw [← hh]; rfl
    clear hh
    have hs := (sSize_spec (s.keeps k3) u).call
    unfold ptrV at hs
    cases hr : S.room u with
    | none =>
      have e1 : S.size u = (0, 4) := by unfold Sto.size; rw [hr]
      rw [e1] at hs
      repeat' (first | simp only [evr, nextP_norm, evd, evq, beq_self_eq_true, cond_true, cond_false, reduceIte, Nat.reduceEqDiff, Nat.reduceAdd, Int.reduceBNe, Int.reduceBEq, Int.reduceLT, Int.reduceLE, Int.reduceEq, evh, evp, Nat.reduceLeDiff, Nat.reduceSub, Nat.reduceBEq, typs, hs, z3] | refine kCond2_by (fun hc => ?_) (fun hc => ?_) <;> try simp only [hc] | refine kPick_by (fun hc => ?_) (fun hc => ?_) <;> try simp only [hc] | refine kWant_by (fun hc => ?_) (fun hc => ?_) <;> try simp only [hc])
      have : sdwOf T S u user = (noSd, 4) := by unfold sdwOf; rw [hb, hr]
      rw [this]
      exact ⟨rfl, k3.set (Nat.le_refl _)⟩
    | some w =>
      have e1 : S.size u = ((w.length : Int), 0) := by unfold Sto.size; rw [hr]
      rw [e1] at hs
      repeat' (first | simp only [evr, nextP_norm, evd, evq, beq_self_eq_true, cond_true, cond_false, reduceIte, Nat.reduceEqDiff, Nat.reduceAdd, Int.reduceBNe, Int.reduceBEq, Int.reduceLT, Int.reduceLE, Int.reduceEq, evh, evp, Nat.reduceLeDiff, Nat.reduceSub, Nat.reduceBEq, typs, hs] | refine kCond2_by (fun hc => ?_) (fun hc => ?_) <;> try simp only [hc] | refine kPick_by (fun hc => ?_) (fun hc => ?_) <;> try simp only [hc] | refine kWant_by (fun hc => ?_) (fun hc => ?_) <;> try simp only [hc])
      refine Wp_drawE [0, 0, 0, 1, 0, 3, 0, 1, 0, 2, 4] (KR.mk (by kernel_rfl)) ?_
      have y3 := rowOf_rw b3
      unfold bnC at y3
      repeat' (first | simp only [evr, nextP_norm, evd, evq, beq_self_eq_true, cond_true, cond_false, reduceIte, Nat.reduceEqDiff, Nat.reduceAdd, Int.reduceBNe, Int.reduceBEq, Int.reduceLT, Int.reduceLE, Int.reduceEq, evh, evp, Nat.reduceLeDiff, Nat.reduceSub, Nat.reduceBEq, typs, y3] | refine kCond2_by (fun hc => ?_) (fun hc => ?_) <;> try simp only [hc] | refine kPick_by (fun hc => ?_) (fun hc => ?_) <;> try simp only [hc] | refine kWant_by (fun hc => ?_) (fun hc => ?_) <;> try simp only [hc])
      refine callP_meets (aFind_spec (hsl.slAt.keep k23) (t.acl_le hb) user) ?_
      rintro _ h4 ⟨rfl, k4⟩
      have n4 := k4.1
      have z4 := (k4.2 _ (by omega)).trans z3
      have b4 := (k4.2 _ (by omega)).trans b3
      have y4 := rowOf_rw b4
      unfold bnC at y4
      unfold flV
      have hd : sdwOf T S u user = (⟨u, w.length, if b.object then noW (findF b.acl user) else findF b.acl user, b.b⟩, 0) := by unfold sdwOf; rw [hb, hr]
      rw [hd]
      have e8 : (h2.next = h4.next) = False := eq_false (by omega)
      have e9 : (h.next = h4.next) = False := eq_false (by omega)
      cases ho : b.object with
      | true =>
        rw [ho] at y3 y4
        repeat' (first | simp only [evr, nextP_norm, evd, evq, beq_self_eq_true, cond_true, cond_false, reduceIte, Nat.reduceEqDiff, Nat.reduceAdd, Int.reduceBNe, Int.reduceBEq, Int.reduceLT, Int.reduceLE, Int.reduceEq, evh, evp, Nat.reduceLeDiff, Nat.reduceSub, Nat.reduceBEq, typs, y3, y4, z4, e8, e9, if_false] | refine kCond2_by (fun hc => ?_) (fun hc => ?_) <;> try simp only [hc] | refine kPick_by (fun hc => ?_) (fun hc => ?_) <;> try simp only [hc] | refine kWant_by (fun hc => ?_) (fun hc => ?_) <;> try simp only [hc])
        refine ⟨rfl, ?_⟩
        have k := k3.trans k4
        exact ((((k.pushed).set (by omega)).set (by omega)).set (Nat.le_refl _))
      | false =>
        rw [ho] at y3 y4
        repeat' (first | simp only [evr, nextP_norm, evd, evq, beq_self_eq_true, cond_true, cond_false, reduceIte, Nat.reduceEqDiff, Nat.reduceAdd, Int.reduceBNe, Int.reduceBEq, Int.reduceLT, Int.reduceLE, Int.reduceEq, evh, evp, Nat.reduceLeDiff, Nat.reduceSub, Nat.reduceBEq, typs, y3, y4, z4, e8, e9, if_false] | refine kCond2_by (fun hc => ?_) (fun hc => ?_) <;> try simp only [hc] | refine kPick_by (fun hc => ?_) (fun hc => ?_) <;> try simp only [hc] | refine kWant_by (fun hc => ?_) (fun hc => ?_) <;> try simp only [hc])
        refine ⟨rfl, ?_⟩
        have k := k3.trans k4
        exact (((k.pushed).set (by omega)).set (Nat.le_refl _))
end
end Go.Proofs.YtncmgiddcefpcaaDoor
