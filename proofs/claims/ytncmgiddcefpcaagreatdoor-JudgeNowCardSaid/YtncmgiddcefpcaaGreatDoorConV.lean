/- The tree: New, clean, Add, Name. -/
import Derived.Test.YtncmgiddcefpcaaGreatDoorConU
namespace Go.Proofs.YtncmgiddcefpcaaGreatDoor
open Go Go.Ev Go.Con
set_option linter.unusedSimpArgs false
set_option linter.unusedVariables false
set_option maxRecDepth 100000

theorem new_spec (h : Hp) : Meets kon 13 [] h fun v h' => v = ptrV (h.next + 3) ∧ Keep h h' ∧ h'.next = h.next + 4 ∧ CoreAt h' (h.next + 3) h.next (h.next + 1) (h.next + 2) (fun _ => none) (upd (fun _ => none) 0 (some 0)) (fun _ => none) 0 := by
  have m0 : MapIs keyK ptrV (h.push (.map [] 0)) h.next (fun _ => none) := MapIs.new h keyK ptrV
  have m1 : MapIs keyI intV ((h.push (.map [] 0)).push (.map [] 0)) (h.next + 1) (fun _ => none) := MapIs.new (h.push (.map [] 0)) keyI intV
  obtain ⟨h2, e1, m2, n2, s2⟩ := m1.put (t := 89) (kt := 3) (et := 3) (P := kon.P) (by kernel_rfl) (keyI_ok Tryz.underlying3) 0 0
  have n2' : h2.next = h.next + 2 := n2
  have g0 : MapIs keyK ptrV h2 h.next (fun _ => none) := (m0.eq (Hp.get_push_lt (Nat.lt_succ_self _))).eq (s2 h.next (by omega))
  have k2 : Keep h h2 := ⟨by omega, fun k hk => by rw [s2 k (by omega), Hp.get_push_lt (show k < h.next + 1 by omega), Hp.get_push_lt hk]⟩
  unfold keyI intV at e1
  refine Meets.mk rfl (by kernel_rfl) Tryz.func13 rfl (congrArg Array.toList Tryz.results13) ?_
  repeat' (first | simp only [evr, nextP_norm, evd, evq, beq_self_eq_true, cond_true, cond_false, reduceIte, Nat.reduceEqDiff, Nat.reduceAdd, Int.reduceBNe, Int.reduceBEq, Int.reduceLT, Int.reduceLE, Int.reduceEq, evh, evp, Nat.reduceLeDiff, Nat.reduceSub, Nat.reduceBEq, typs, P_insert, e1, n2'] | refine kCond2_by (fun hc => ?_) (fun hc => ?_) <;> try simp only [hc] | refine kPick_by (fun hc => ?_) (fun hc => ?_) <;> try simp only [hc] | refine kWant_by (fun hc => ?_) (fun hc => ?_) <;> try simp only [hc])
  have x1 : (h2.push (.map [] 0)).next = h.next + 3 := by rw [Hp.next_push, n2']
  have z : ∀ k, k < h.next + 2 → ∀ o, ((h2.push (.map [] 0)).push o).get k = h2.get k := fun k hk o => by rw [Hp.get_push_lt (by omega), Hp.get_push_lt (by omega)]
  refine ⟨rfl, (k2.pushed).pushed, ⟨?_, g0.eq (z _ (by omega) _), ?_, ?_, by omega, by omega, by omega⟩⟩
  · have := Hp.get_push_self (h2.push (.map [] 0)) (.row [.map (some h.next), .map (some (h.next + 1)), .map (some (h.next + 2)), .int .i64 0] 92 (.rw 0 []))
    rw [x1] at this; exact this
  · exact m2.eq (z _ (by omega) _)
  · have h3 := MapIs.new h2 keyI ptrV
    rw [n2'] at h3
    exact h3.eq (Hp.get_push_lt (by omega))
section
variable {h : Hp} {bt bl bd bu : Nat} {fL : Int × ByteArray → Option Nat} {fD : Int → Option Int} {fU : Int → Option Nat} {nx : Int}
/-- A branch with the fields of its kind alone; or why not. -/
def cleanR (fU : Int → Option Nat) (nx : Int) (b : Bn) : Bn × Int :=
  if b.kind = 1 then (if b.uid < 1 ∨ listMay b.acl = false ∨ bkMay b.b = false then (noBn, 1) else if (fU b.uid).isSome then (noBn, 5) else (⟨1, b.uid, 0, ByteArray.empty, b.object, b.acl, b.b⟩, 0))
  else if b.kind = 2 then (⟨2, 0, nx + 1, ByteArray.empty, false, [], noBk⟩, 0)
  else if b.kind = 3 then (if (split b.link).isSome then (⟨3, 0, 0, b.link, false, [], noBk⟩, 0) else (noBn, 3))
  else (noBn, 15)
theorem build_seg {h : Hp} {F : Nat → Prop} {sl : Value} {l : List Tm} (s : TmTy h F sl l) (u : Int) (o : Bool) (x1 x2 x3 g : Int) :
    evBuild kon.P 40 [(0, .int .i64 1), (1, .int .i64 u), (4, .bool o), (5, sl), (6, .agg #[.int .i64 x1, .int .i64 x2, .int .i64 x3, .int .i64 g])] =
      some (.agg #[.int .i64 1, .int .i64 u, .int .i64 0, .string ByteArray.empty, .bool o, sl, .int .i64 x1, .int .i64 x2, .int .i64 x3, .int .i64 g]) := by
  rcases id s with ⟨rfl, _⟩ | ⟨b, o, k, c, all, st, rfl, _⟩ <;> kernel_rfl
theorem clean_spec (c : CoreAt h bt bl bd bu fL fD fU nx) (lt : bt < h.next ∧ bl < h.next ∧ bd < h.next ∧ bu < h.next) (n1 : -4000000000000000000 ≤ nx) (n2 : nx ≤ 4000000000000000000) {b : Bn} {sl : Value} (hs : TmSl h sl b.acl) (hl : b.acl.length ≤ 1000000000) :
    Meets kon 53 [ptrV bt, .agg (bnC b sl).toArray] h fun v h' => Keep h h' ∧ ∃ sl', v = .tuple #[.agg (bnC (cleanR fU nx b).1 sl').toArray, .int .i64 (cleanR fU nx b).2] ∧ TmTy h' (fun k => h.next ≤ k) sl' (cleanR fU nx b).1.acl := by
  have hsc : isCell sl = true := by rcases hs with ⟨rfl, _⟩ | ⟨b, o, k, c, all, rfl, _⟩ <;> rfl
  have hcv : sl.cells = #[sl] := by rcases hs with ⟨rfl, _⟩ | ⟨b, o, k, c, all, rfl, _⟩ <;> rfl
  unfold bnC
  refine Meets.mk rfl (by kernel_rfl) Tryz.func53 rfl (congrArg Array.toList Tryz.results53) ?_
  by_cases k1 : b.kind = 1
  · have f1 : (b.kind == 1) = true := by simp [k1]
    by_cases hu : b.uid < 1
    · have f2 : decide (b.uid < 1) = true := decide_eq_true hu
      have cl : cleanR fU nx b = (noBn, 1) := by unfold cleanR; rw [if_pos k1, if_pos (.inl hu)]
      repeat' (first | simp only [evr, nextP_norm, evd, evq, beq_self_eq_true, cond_true, cond_false, reduceIte, Nat.reduceEqDiff, Nat.reduceAdd, Int.reduceBNe, Int.reduceBEq, Int.reduceLT, Int.reduceLE, Int.reduceEq, evh, evp, Nat.reduceLeDiff, Nat.reduceSub, Nat.reduceBEq, typs, hsc, hcv, f1, f2] | refine kCond2_by (fun hc => ?_) (fun hc => ?_) <;> try simp only [hc] | refine kPick_by (fun hc => ?_) (fun hc => ?_) <;> try simp only [hc] | refine kWant_by (fun hc => ?_) (fun hc => ?_) <;> try simp only [hc])
      rw [cl]
      exact ⟨((Keep.push _ _).pushed).set (Nat.le_succ _), _, rfl, .inl ⟨rfl, rfl⟩⟩
    · have f2 : decide (b.uid < 1) = false := decide_eq_false hu
      repeat' (first | simp only [evr, nextP_norm, evd, evq, beq_self_eq_true, cond_true, cond_false, reduceIte, Nat.reduceEqDiff, Nat.reduceAdd, Int.reduceBNe, Int.reduceBEq, Int.reduceLT, Int.reduceLE, Int.reduceEq, evh, evp, Nat.reduceLeDiff, Nat.reduceSub, Nat.reduceBEq, typs, hsc, hcv, f1, f2] | refine kCond2_by (fun hc => ?_) (fun hc => ?_) <;> try simp only [hc] | refine kPick_by (fun hc => ?_) (fun hc => ?_) <;> try simp only [hc] | refine kWant_by (fun hc => ?_) (fun hc => ?_) <;> try simp only [hc])
      generalize hh : Hp.push (Hp.push h _) _ = H
      have g3 : H.get h.next = some (.row [.int .i64 b.kind, .int .i64 b.uid, .int .i64 b.dir, .string b.link, .bool b.object, sl, .int .i64 b.b.r1, .int .i64 b.b.r2, .int .i64 b.b.r3, .int .i64 b.b.g] 40 (.rw 0 [])) := by rw [← hh, Hp.get_push_lt (Nat.lt_succ_self _)]; exact Hp.get_push_self _ _
      have g4 : H.get (h.next + 1) = some (.row [.int .i64 0, .int .i64 0, .int .i64 0, .string ByteArray.empty, .bool false, .slice none 0 0, .int .i64 0, .int .i64 0, .int .i64 0, .int .i64 0] 40 (.rw 0 [])) := by rw [← hh]; exact Hp.get_push_self _ _
      have hk : Keep h H := by rw [← hh]; exact (Keep.push _ _).pushed
      have hx : H.next = h.next + 2 := by rw [← hh]; rfl
      clear hh
      refine callP_meets (aMay_spec (SlAt.keep hs hk) hl) ?_
      rintro _ h1 ⟨rfl, k1'⟩
      have g3' := (k1'.2 _ (by omega)).trans g3
      have g4' := (k1'.2 _ (by omega)).trans g4
      have q3 := rowOf_rw g3'
      have q4 := rowOf_rw g4'
      cases hm : listMay b.acl with
      | false =>
        have cl : cleanR fU nx b = (noBn, 1) := by unfold cleanR; rw [if_pos k1, if_pos (.inr (.inl hm))]
        repeat' (first | simp only [evr, nextP_norm, evd, evq, beq_self_eq_true, cond_true, cond_false, reduceIte, Nat.reduceEqDiff, Nat.reduceAdd, Int.reduceBNe, Int.reduceBEq, Int.reduceLT, Int.reduceLE, Int.reduceEq, evh, evp, Nat.reduceLeDiff, Nat.reduceSub, Nat.reduceBEq, typs, q3, q4, g3', g4'] | refine kCond2_by (fun hc => ?_) (fun hc => ?_) <;> try simp only [hc] | refine kPick_by (fun hc => ?_) (fun hc => ?_) <;> try simp only [hc] | refine kWant_by (fun hc => ?_) (fun hc => ?_) <;> try simp only [hc])
        rw [cl]
        exact ⟨(hk.trans k1').set (Nat.le_succ _), _, rfl, .inl ⟨rfl, rfl⟩⟩
      | true =>
        repeat' (first | simp only [evr, nextP_norm, evd, evq, beq_self_eq_true, cond_true, cond_false, reduceIte, Nat.reduceEqDiff, Nat.reduceAdd, Int.reduceBNe, Int.reduceBEq, Int.reduceLT, Int.reduceLE, Int.reduceEq, evh, evp, Nat.reduceLeDiff, Nat.reduceSub, Nat.reduceBEq, typs, q3, q4, g3', g4'] | refine kCond2_by (fun hc => ?_) (fun hc => ?_) <;> try simp only [hc] | refine kPick_by (fun hc => ?_) (fun hc => ?_) <;> try simp only [hc] | refine kWant_by (fun hc => ?_) (fun hc => ?_) <;> try simp only [hc])
        refine callP_meets (ringMay_spec b.b _) ?_
        rintro _ h2 ⟨rfl, k2'⟩
        have hx1 := k1'.1
        have hx2 := k2'.1
        have g3'' := (k2'.2 _ (by omega)).trans g3'
        have g4'' := (k2'.2 _ (by omega)).trans g4'
        have q3 := rowOf_rw g3''
        have q4 := rowOf_rw g4''
        cases hb : bkMay b.b with
        | false =>
          have cl : cleanR fU nx b = (noBn, 1) := by unfold cleanR; rw [if_pos k1, if_pos (.inr (.inr hb))]
          repeat' (first | simp only [evr, nextP_norm, evd, evq, beq_self_eq_true, cond_true, cond_false, reduceIte, Nat.reduceEqDiff, Nat.reduceAdd, Int.reduceBNe, Int.reduceBEq, Int.reduceLT, Int.reduceLE, Int.reduceEq, evh, evp, Nat.reduceLeDiff, Nat.reduceSub, Nat.reduceBEq, typs, q3, q4, g3'', g4''] | refine kCond2_by (fun hc => ?_) (fun hc => ?_) <;> try simp only [hc] | refine kPick_by (fun hc => ?_) (fun hc => ?_) <;> try simp only [hc] | refine kWant_by (fun hc => ?_) (fun hc => ?_) <;> try simp only [hc])
          rw [cl]
          exact ⟨((hk.trans k1').trans k2').set (Nat.le_succ _), _, rfl, .inl ⟨rfl, rfl⟩⟩
        | true =>
          have K2 := (hk.trans k1').trans k2'
          have c2 := c.keep K2 lt
          have r0 := rowOf_rw c2.row
          have lu := c2.lookU b.uid
          repeat' (first | simp only [evr, nextP_norm, evd, evq, beq_self_eq_true, cond_true, cond_false, reduceIte, Nat.reduceEqDiff, Nat.reduceAdd, Int.reduceBNe, Int.reduceBEq, Int.reduceLT, Int.reduceLE, Int.reduceEq, evh, evp, Nat.reduceLeDiff, Nat.reduceSub, Nat.reduceBEq, typs, q3, q4, g3'', g4''] | refine kCond2_by (fun hc => ?_) (fun hc => ?_) <;> try simp only [hc] | refine kPick_by (fun hc => ?_) (fun hc => ?_) <;> try simp only [hc] | refine kWant_by (fun hc => ?_) (fun hc => ?_) <;> try simp only [hc])
          unfold ptrV
          refine Eq.mpr (Wp_drawOrd (KR.mk (by kernel_rfl))) ?_
          cases hf : fU b.uid with
          | some n =>
            have cl : cleanR fU nx b = (noBn, 5) := by unfold cleanR; rw [if_pos k1, if_neg (by rw [hm, hb]; simp; omega), hf]; rfl
            rw [hf] at lu
            unfold optP ptrV at lu
            repeat' (first | simp only [evr, nextP_norm, evd, evq, beq_self_eq_true, cond_true, cond_false, reduceIte, Nat.reduceEqDiff, Nat.reduceAdd, Int.reduceBNe, Int.reduceBEq, Int.reduceLT, Int.reduceLE, Int.reduceEq, evh, evp, Nat.reduceLeDiff, Nat.reduceSub, Nat.reduceBEq, typs, q3, q4, g3'', g4'', r0, lu] | refine kCond2_by (fun hc => ?_) (fun hc => ?_) <;> try simp only [hc] | refine kPick_by (fun hc => ?_) (fun hc => ?_) <;> try simp only [hc] | refine kWant_by (fun hc => ?_) (fun hc => ?_) <;> try simp only [hc])
            rw [cl]
            exact ⟨K2.set (Nat.le_succ _), _, rfl, .inl ⟨rfl, rfl⟩⟩
          | none =>
            have cl : cleanR fU nx b = (⟨1, b.uid, 0, ByteArray.empty, b.object, b.acl, b.b⟩, 0) := by unfold cleanR; rw [if_pos k1, if_neg (by rw [hm, hb]; simp; omega), hf]; rfl
            rw [hf] at lu
            unfold optP at lu
            repeat' (first | simp only [evr, nextP_norm, evd, evq, beq_self_eq_true, cond_true, cond_false, reduceIte, Nat.reduceEqDiff, Nat.reduceAdd, Int.reduceBNe, Int.reduceBEq, Int.reduceLT, Int.reduceLE, Int.reduceEq, evh, evp, Nat.reduceLeDiff, Nat.reduceSub, Nat.reduceBEq, typs, q3, q4, g3'', g4'', r0, lu] | refine kCond2_by (fun hc => ?_) (fun hc => ?_) <;> try simp only [hc] | refine kPick_by (fun hc => ?_) (fun hc => ?_) <;> try simp only [hc] | refine kWant_by (fun hc => ?_) (fun hc => ?_) <;> try simp only [hc])
            refine Wp_drawE [0, 1, 0, 1, 0, 1, 3, 0, 1, 0, 4, 0] (KR.mk (by kernel_rfl)) ?_
            repeat' (first | simp only [evr, nextP_norm, evd, evq, beq_self_eq_true, cond_true, cond_false, reduceIte, Nat.reduceEqDiff, Nat.reduceAdd, Int.reduceBNe, Int.reduceBEq, Int.reduceLT, Int.reduceLE, Int.reduceEq, evh, evp, Nat.reduceLeDiff, Nat.reduceSub, Nat.reduceBEq, typs, q3, q4, g3'', g4'', hcv, hsc] | refine kCond2_by (fun hc => ?_) (fun hc => ?_) <;> try simp only [hc] | refine kPick_by (fun hc => ?_) (fun hc => ?_) <;> try simp only [hc] | refine kWant_by (fun hc => ?_) (fun hc => ?_) <;> try simp only [hc])
            refine callP_meets (clone_spec (SlAt.keep hs K2) hl) ?_
            rintro sl' h3 ⟨k3', hs3⟩
            have g3x := (k3'.2 _ (by omega)).trans g3''
            have g4x := (k3'.2 _ (by omega)).trans g4''
            have p3 := rowOf_rw g3x
            have p4 := rowOf_rw g4x
            have hsc3 := hs3.isCell
            have hcv3 := hs3.cellsV
            repeat' (first | simp only [evr, nextP_norm, evd, evq, beq_self_eq_true, cond_true, cond_false, reduceIte, Nat.reduceEqDiff, Nat.reduceAdd, Int.reduceBNe, Int.reduceBEq, Int.reduceLT, Int.reduceLE, Int.reduceEq, evh, evp, Nat.reduceLeDiff, Nat.reduceSub, Nat.reduceBEq, typs, q3, q4, g3'', g4'', p3, p4, g3x, g4x, hsc3, hcv3, build_seg hs3] | refine kCond2_by (fun hc => ?_) (fun hc => ?_) <;> try simp only [hc] | refine kPick_by (fun hc => ?_) (fun hc => ?_) <;> try simp only [hc] | refine kWant_by (fun hc => ?_) (fun hc => ?_) <;> try simp only [hc])
            rw [cl]
            refine ⟨(K2.trans k3').set (Nat.le_succ _), sl', rfl, ?_⟩
            refine hs3.same (Same.set ?_) (fun k hk => Nat.le_trans K2.1 hk)
            rw [g4x]; exact (by decide : 40 ≠ 65)
  · have f1 : (b.kind == 1) = false := by simp [k1]
    by_cases k2 : b.kind = 2
    · have f2 : (b.kind == 2) = true := by simp [k2]
      have r0 := rowOf_rw c.row
      have e0 : (bt = h.next) = False := eq_false (by omega)
      have e1 : (bt = h.next + 1) = False := eq_false (by omega)
      have cl : cleanR fU nx b = (⟨2, 0, nx + 1, ByteArray.empty, false, [], noBk⟩, 0) := by unfold cleanR; rw [if_neg k1, if_pos k2]
      unfold ptrV
      repeat' (first | simp only [evr, nextP_norm, evd, evq, beq_self_eq_true, cond_true, cond_false, reduceIte, Nat.reduceEqDiff, Nat.reduceAdd, Int.reduceBNe, Int.reduceBEq, Int.reduceLT, Int.reduceLE, Int.reduceEq, evh, evp, Nat.reduceLeDiff, Nat.reduceSub, Nat.reduceBEq, typs, hsc, hcv, f1, f2, r0, e0, e1, if_false, wrap64 (x := nx + 1) (by omega) (by omega)] | refine kCond2_by (fun hc => ?_) (fun hc => ?_) <;> try simp only [hc] | refine kPick_by (fun hc => ?_) (fun hc => ?_) <;> try simp only [hc] | refine kWant_by (fun hc => ?_) (fun hc => ?_) <;> try simp only [hc])
      rw [cl]
      exact ⟨((Keep.push _ _).pushed).set (Nat.le_succ _), _, rfl, .inl ⟨rfl, rfl⟩⟩
    · have f2 : (b.kind == 2) = false := by simp [k2]
      by_cases k3 : b.kind = 3
      · have f3 : (b.kind == 3) = true := by simp [k3]
        repeat' (first | simp only [evr, nextP_norm, evd, evq, beq_self_eq_true, cond_true, cond_false, reduceIte, Nat.reduceEqDiff, Nat.reduceAdd, Int.reduceBNe, Int.reduceBEq, Int.reduceLT, Int.reduceLE, Int.reduceEq, evh, evp, Nat.reduceLeDiff, Nat.reduceSub, Nat.reduceBEq, typs, hsc, hcv, f1, f2, f3] | refine kCond2_by (fun hc => ?_) (fun hc => ?_) <;> try simp only [hc] | refine kPick_by (fun hc => ?_) (fun hc => ?_) <;> try simp only [hc] | refine kWant_by (fun hc => ?_) (fun hc => ?_) <;> try simp only [hc])
        generalize hh : Hp.push (Hp.push h _) _ = H
        have g3 : H.get h.next = some (.row [.int .i64 b.kind, .int .i64 b.uid, .int .i64 b.dir, .string b.link, .bool b.object, sl, .int .i64 b.b.r1, .int .i64 b.b.r2, .int .i64 b.b.r3, .int .i64 b.b.g] 40 (.rw 0 [])) := by rw [← hh, Hp.get_push_lt (Nat.lt_succ_self _)]; exact Hp.get_push_self _ _
        have g4 : H.get (h.next + 1) = some (.row [.int .i64 0, .int .i64 0, .int .i64 0, .string ByteArray.empty, .bool false, .slice none 0 0, .int .i64 0, .int .i64 0, .int .i64 0, .int .i64 0] 40 (.rw 0 [])) := by rw [← hh]; exact Hp.get_push_self _ _
        have hk : Keep h H := by rw [← hh]; exact (Keep.push _ _).pushed
        have hx : H.next = h.next + 2 := by rw [← hh]; rfl
        clear hh
        refine callP_meets (split_spec b.link H) ?_
        rintro v h1 hv
        obtain ⟨k1', hv⟩ := hv
        have g3' := (k1'.2 _ (by omega)).trans g3
        have g4' := (k1'.2 _ (by omega)).trans g4
        have q3 := rowOf_rw g3'
        have q4 := rowOf_rw g4'
        cases hsp : split b.link with
        | none =>
          have cl : cleanR fU nx b = (noBn, 3) := by unfold cleanR; rw [if_neg k1, if_neg k2, if_pos k3, hsp]; rfl
          rw [hsp] at hv
          have hv : v = .tuple #[.slice none 0 0, .int .i64 3] := hv
          subst hv
          repeat' (first | simp only [evr, nextP_norm, evd, evq, beq_self_eq_true, cond_true, cond_false, reduceIte, Nat.reduceEqDiff, Nat.reduceAdd, Int.reduceBNe, Int.reduceBEq, Int.reduceLT, Int.reduceLE, Int.reduceEq, evh, evp, Nat.reduceLeDiff, Nat.reduceSub, Nat.reduceBEq, typs, q3, q4, g3', g4'] | refine kCond2_by (fun hc => ?_) (fun hc => ?_) <;> try simp only [hc] | refine kPick_by (fun hc => ?_) (fun hc => ?_) <;> try simp only [hc] | refine kWant_by (fun hc => ?_) (fun hc => ?_) <;> try simp only [hc])
          rw [cl]
          exact ⟨(hk.trans k1').set (Nat.le_succ _), _, rfl, .inl ⟨rfl, rfl⟩⟩
        | some ps =>
          have cl : cleanR fU nx b = (⟨3, 0, 0, b.link, false, [], noBk⟩, 0) := by unfold cleanR; rw [if_neg k1, if_neg k2, if_pos k3, hsp]; rfl
          rw [hsp] at hv
          obtain ⟨sl1, rfl, -⟩ := hv
          repeat' (first | simp only [evr, nextP_norm, evd, evq, beq_self_eq_true, cond_true, cond_false, reduceIte, Nat.reduceEqDiff, Nat.reduceAdd, Int.reduceBNe, Int.reduceBEq, Int.reduceLT, Int.reduceLE, Int.reduceEq, evh, evp, Nat.reduceLeDiff, Nat.reduceSub, Nat.reduceBEq, typs, q3, q4, g3', g4'] | refine kCond2_by (fun hc => ?_) (fun hc => ?_) <;> try simp only [hc] | refine kPick_by (fun hc => ?_) (fun hc => ?_) <;> try simp only [hc] | refine kWant_by (fun hc => ?_) (fun hc => ?_) <;> try simp only [hc])
          rw [cl]
          exact ⟨(hk.trans k1').set (Nat.le_succ _), _, rfl, .inl ⟨rfl, rfl⟩⟩
      · have f3 : (b.kind == 3) = false := by simp [k3]
        have cl : cleanR fU nx b = (noBn, 15) := by unfold cleanR; rw [if_neg k1, if_neg k2, if_neg k3]
        repeat' (first | simp only [evr, nextP_norm, evd, evq, beq_self_eq_true, cond_true, cond_false, reduceIte, Nat.reduceEqDiff, Nat.reduceAdd, Int.reduceBNe, Int.reduceBEq, Int.reduceLT, Int.reduceLE, Int.reduceEq, evh, evp, Nat.reduceLeDiff, Nat.reduceSub, Nat.reduceBEq, typs, hsc, hcv, f1, f2, f3] | refine kCond2_by (fun hc => ?_) (fun hc => ?_) <;> try simp only [hc] | refine kPick_by (fun hc => ?_) (fun hc => ?_) <;> try simp only [hc] | refine kWant_by (fun hc => ?_) (fun hc => ?_) <;> try simp only [hc])
        rw [cl]
        exact ⟨((Keep.push _ _).pushed).set (Nat.le_succ _), _, rfl, .inl ⟨rfl, rfl⟩⟩
/-- Why a branch may not be added; 0: it may. -/
def addE (fL : Int × ByteArray → Option Nat) (fD : Int → Option Int) (fU : Int → Option Nat) (nx : Int) (d : Int) (s : ByteArray) (b : Bn) : Int :=
  if (fD d).isNone then 4 else if mayN s = false then 3 else if (fL (d, s)).isSome then 5 else (cleanR fU nx b).2
structure AddQ (h : Hp) (bt bl bd bu : Nat) (fL : Int × ByteArray → Option Nat) (fD : Int → Option Int) (fU : Int → Option Nat) (nx : Int) (d : Int) (s : ByteArray) (b : Bn) (h' : Hp) (n : Nat) : Prop where
  new : h.next ≤ n
  core : CoreAt h' bt bl bd bu (upd fL (d, s) (some n)) (if b.kind = 2 then upd (upd fD d (some ((fD d).getD 0 + 1))) (nx + 1) (some 0) else upd fD d (some ((fD d).getD 0 + 1)))
    (if b.kind = 1 then upd fU b.uid (some n) else fU) (if b.kind = 2 then nx + 1 else nx)
  node : NodeAt h' (fun k => h.next ≤ k) n ⟨b, d, 1⟩
  next : h.next ≤ h'.next
  same : ∀ k, k < h.next → k ≠ bt → k ≠ bl → k ≠ bd → k ≠ bu → h'.get k = h.get k
def AddP (h : Hp) (bt bl bd bu : Nat) (fL : Int × ByteArray → Option Nat) (fD : Int → Option Int) (fU : Int → Option Nat) (nx : Int) (d : Int) (s : ByteArray) (b : Bn) (v : Value) (h' : Hp) : Prop :=
  (addE fL fD fU nx d s b ≠ 0 ∧ v = .tuple #[.int .i64 0, .int .i64 (addE fL fD fU nx d s b)] ∧ Keep h h') ∨
  (addE fL fD fU nx d s b = 0 ∧ v = .tuple #[.int .i64 (cleanR fU nx b).1.dir, .int .i64 0] ∧ ∃ n, AddQ h bt bl bd bu fL fD fU nx d s (cleanR fU nx b).1 h' n)
theorem build_node {h : Hp} {F : Nat → Prop} {sl : Value} {l : List Tm} (s : TmTy h F sl l) (b : Bn) (d : Int) :
    evBuild kon.P 110 [(0, .agg #[.int .i64 b.kind, .int .i64 b.uid, .int .i64 b.dir, .string b.link, .bool b.object, sl, .int .i64 b.b.r1, .int .i64 b.b.r2, .int .i64 b.b.r3, .int .i64 b.b.g]), (1, .int .i64 d)] =
      some (.agg #[.int .i64 b.kind, .int .i64 b.uid, .int .i64 b.dir, .string b.link, .bool b.object, sl, .int .i64 b.b.r1, .int .i64 b.b.r2, .int .i64 b.b.r3, .int .i64 b.b.g, .int .i64 d, .int .i64 0]) := by
  rcases id s with ⟨rfl, _⟩ | ⟨b, o, k, c, all, st, rfl, _⟩ <;> kernel_rfl
theorem add_spec (c : CoreAt h bt bl bd bu fL fD fU nx) (lt : bt < h.next ∧ bl < h.next ∧ bd < h.next ∧ bu < h.next) (n1 : -4000000000000000000 ≤ nx) (n2 : nx ≤ 4000000000000000000) {b : Bn} {sl : Value} (hs : TmSl h sl b.acl) (hl : b.acl.length ≤ 1000000000)
    (d : Int) (s : ByteArray) (d1 : -4000000000000000000 ≤ (fD d).getD 0) (d2 : (fD d).getD 0 ≤ 4000000000000000000) :
    Meets kon 16 [ptrV bt, .int .i64 d, .string s, .agg (bnC b sl).toArray] h (AddP h bt bl bd bu fL fD fU nx d s b) := by
  have hsc : isCell sl = true := by rcases hs with ⟨rfl, _⟩ | ⟨b, o, k, c, all, rfl, _⟩ <;> rfl
  have hcv : sl.cells = #[sl] := by rcases hs with ⟨rfl, _⟩ | ⟨b, o, k, c, all, rfl, _⟩ <;> rfl
  unfold bnC
  refine Meets.mk rfl (by kernel_rfl) Tryz.func16 rfl (congrArg Array.toList Tryz.results16) ?_
  repeat' (first | simp only [evr, nextP_norm, evd, evq, beq_self_eq_true, cond_true, cond_false, reduceIte, Nat.reduceEqDiff, Nat.reduceAdd, Int.reduceBNe, Int.reduceBEq, Int.reduceLT, Int.reduceLE, Int.reduceEq, evh, evp, Nat.reduceLeDiff, Nat.reduceSub, Nat.reduceBEq, typs, hsc, hcv] | refine kCond2_by (fun hc => ?_) (fun hc => ?_) <;> try simp only [hc] | refine kPick_by (fun hc => ?_) (fun hc => ?_) <;> try simp only [hc] | refine kWant_by (fun hc => ?_) (fun hc => ?_) <;> try simp only [hc])
  generalize hh : Hp.push h _ = H
  have g3 : H.get h.next = some (.row [.int .i64 b.kind, .int .i64 b.uid, .int .i64 b.dir, .string b.link, .bool b.object, sl, .int .i64 b.b.r1, .int .i64 b.b.r2, .int .i64 b.b.r3, .int .i64 b.b.g] 40 (.rw 0 [])) := by rw [← hh]; exact Hp.get_push_self _ _
  have hk : Keep h H := by rw [← hh]; exact Keep.push _ _
  have hx : H.next = h.next + 1 := by rw [← hh]; rfl
  clear hh
  have cH := c.keep hk lt
  have ltH : bt < H.next ∧ bl < H.next ∧ bd < H.next ∧ bu < H.next := ⟨by omega, by omega, by omega, by omega⟩
  refine callP_meets (is_spec cH d) ?_
  rintro v0 H0 ⟨ev, eh⟩
  rw [ev, eh]
  clear ev eh v0 H0
  cases hd : fD d with
  | none =>
    repeat' (first | simp only [evr, nextP_norm, evd, evq, beq_self_eq_true, cond_true, cond_false, reduceIte, Nat.reduceEqDiff, Nat.reduceAdd, Int.reduceBNe, Int.reduceBEq, Int.reduceLT, Int.reduceLE, Int.reduceEq, evh, evp, Nat.reduceLeDiff, Nat.reduceSub, Nat.reduceBEq, typs, (none_spec bt H).call, Option.isSome_none] | refine kCond2_by (fun hc => ?_) (fun hc => ?_) <;> try simp only [hc] | refine kPick_by (fun hc => ?_) (fun hc => ?_) <;> try simp only [hc] | refine kWant_by (fun hc => ?_) (fun hc => ?_) <;> try simp only [hc])
    exact .inl ⟨by simp [addE, hd], by simp [addE, hd], hk⟩
  | some nd =>
    have hmc := (may_spec s H).call
    cases hm : mayN s with
    | false =>
      rw [hm] at hmc
      repeat' (first | simp only [evr, nextP_norm, evd, evq, beq_self_eq_true, cond_true, cond_false, reduceIte, Nat.reduceEqDiff, Nat.reduceAdd, Int.reduceBNe, Int.reduceBEq, Int.reduceLT, Int.reduceLE, Int.reduceEq, evh, evp, Nat.reduceLeDiff, Nat.reduceSub, Nat.reduceBEq, typs, hmc, Option.isSome_some] | refine kCond2_by (fun hc => ?_) (fun hc => ?_) <;> try simp only [hc] | refine kPick_by (fun hc => ?_) (fun hc => ?_) <;> try simp only [hc] | refine kWant_by (fun hc => ?_) (fun hc => ?_) <;> try simp only [hc])
      exact .inl ⟨by simp [addE, hd, hm], by simp [addE, hd, hm], hk⟩
    | true =>
      rw [hm] at hmc
      repeat' (first | simp only [evr, nextP_norm, evd, evq, beq_self_eq_true, cond_true, cond_false, reduceIte, Nat.reduceEqDiff, Nat.reduceAdd, Int.reduceBNe, Int.reduceBEq, Int.reduceLT, Int.reduceLE, Int.reduceEq, evh, evp, Nat.reduceLeDiff, Nat.reduceSub, Nat.reduceBEq, typs, hmc, Option.isSome_some] | refine kCond2_by (fun hc => ?_) (fun hc => ?_) <;> try simp only [hc] | refine kPick_by (fun hc => ?_) (fun hc => ?_) <;> try simp only [hc] | refine kWant_by (fun hc => ?_) (fun hc => ?_) <;> try simp only [hc])
      refine callP_meets (get_spec cH d s) ?_
      rintro v0 H0 ⟨ev, eh⟩
      rw [ev, eh]
      clear ev eh v0 H0
      cases hf : fL (d, s) with
      | some n =>
        unfold optP ptrV
        repeat' (first | simp only [evr, nextP_norm, evd, evq, beq_self_eq_true, cond_true, cond_false, reduceIte, Nat.reduceEqDiff, Nat.reduceAdd, Int.reduceBNe, Int.reduceBEq, Int.reduceLT, Int.reduceLE, Int.reduceEq, evh, evp, Nat.reduceLeDiff, Nat.reduceSub, Nat.reduceBEq, typs] | refine kCond2_by (fun hc => ?_) (fun hc => ?_) <;> try simp only [hc] | refine kPick_by (fun hc => ?_) (fun hc => ?_) <;> try simp only [hc] | refine kWant_by (fun hc => ?_) (fun hc => ?_) <;> try simp only [hc])
        exact .inl ⟨by simp [addE, hd, hm, hf], by simp [addE, hd, hm, hf], hk⟩
      | none =>
        unfold optP
        have q3 := rowOf_rw g3
        repeat' (first | simp only [evr, nextP_norm, evd, evq, beq_self_eq_true, cond_true, cond_false, reduceIte, Nat.reduceEqDiff, Nat.reduceAdd, Int.reduceBNe, Int.reduceBEq, Int.reduceLT, Int.reduceLE, Int.reduceEq, evh, evp, Nat.reduceLeDiff, Nat.reduceSub, Nat.reduceBEq, typs, q3] | refine kCond2_by (fun hc => ?_) (fun hc => ?_) <;> try simp only [hc] | refine kPick_by (fun hc => ?_) (fun hc => ?_) <;> try simp only [hc] | refine kWant_by (fun hc => ?_) (fun hc => ?_) <;> try simp only [hc])
        refine callP_meets (clean_spec cH ltH n1 n2 (SlAt.keep hs hk) hl) ?_
        rintro _ h1 ⟨k1, sl1, rfl, hs1⟩
        have g3' := (k1.2 _ (by omega)).trans g3
        have hx1 := k1.1
        have hsc1 := hs1.isCell
        have hcv1 := hs1.cellsV
        generalize hR : cleanR fU nx b = R at *
        obtain ⟨bb, e⟩ := R
        have hs1 : TmTy h1 (fun k => H.next ≤ k) sl1 bb.acl := hs1
        unfold bnC
        by_cases he : e = 0
        · subst he
          repeat' (first | simp only [evr, nextP_norm, evd, evq, beq_self_eq_true, cond_true, cond_false, reduceIte, Nat.reduceEqDiff, Nat.reduceAdd, Int.reduceBNe, Int.reduceBEq, Int.reduceLT, Int.reduceLE, Int.reduceEq, evh, evp, Nat.reduceLeDiff, Nat.reduceSub, Nat.reduceBEq, typs, hsc1, hcv1] | refine kCond2_by (fun hc => ?_) (fun hc => ?_) <;> try simp only [hc] | refine kPick_by (fun hc => ?_) (fun hc => ?_) <;> try simp only [hc] | refine kWant_by (fun hc => ?_) (fun hc => ?_) <;> try simp only [hc])
          generalize hh : Hp.set _ _ _ = H2
          have g10 : H2.get h1.next = some (.row [.int .i64 bb.kind, .int .i64 bb.uid, .int .i64 bb.dir, .string bb.link, .bool bb.object, sl1, .int .i64 bb.b.r1, .int .i64 bb.b.r2, .int .i64 bb.b.r3, .int .i64 bb.b.g] 40 (.rw 0 [])) := by rw [← hh]; exact Hp.get_set_self _ _ _
          have K2 : Keep h1 H2 := by rw [← hh]; exact (Keep.push _ _).set (Nat.le_refl _)
          have hx2 : H2.next = h1.next + 1 := by rw [← hh]; rfl
          clear hh
          repeat' (first | simp only [evr, nextP_norm, evd, evq, beq_self_eq_true, cond_true, cond_false, reduceIte, Nat.reduceEqDiff, Nat.reduceAdd, Int.reduceBNe, Int.reduceBEq, Int.reduceLT, Int.reduceLE, Int.reduceEq, evh, evp, Nat.reduceLeDiff, Nat.reduceSub, Nat.reduceBEq, typs, build_node hs1, hsc1, hcv1] | refine kCond2_by (fun hc => ?_) (fun hc => ?_) <;> try simp only [hc] | refine kPick_by (fun hc => ?_) (fun hc => ?_) <;> try simp only [hc] | refine kWant_by (fun hc => ?_) (fun hc => ?_) <;> try simp only [hc])
          generalize hh : Hp.push H2 _ = H3
          have gn : H3.get H2.next = some (.row (ndC ⟨bb, d, 0⟩ sl1) 110 (.rw 0 [])) := by rw [← hh]; exact Hp.get_push_self _ _
          have K3 : Keep h1 H3 := by rw [← hh]; exact K2.pushed
          have g10 : H3.get h1.next = _ := (by rw [← hh]; exact Hp.get_push_lt (by omega) : H3.get h1.next = H2.get h1.next).trans g10
          have hx3 : H3.next = H2.next + 1 := by rw [← hh]; rfl
          clear hh
          have Kh : Keep h H3 := (hk.trans k1).trans K3
          have c3 := c.keep Kh lt
          refine callP_meets (put_spec c3 (n := H2.next) (x := ⟨bb, d, 0⟩) (sl := sl1) gn d s d1 d2 (show -4000000000000000000 ≤ (0 : Int) by decide) (show (0 : Int) ≤ 4000000000000000000 by decide)) ?_
          rintro _ h4 ⟨rfl, c4, gn4, nx4, s4⟩
          have g10 := (s4 h1.next (by omega) (by omega) (by omega)).trans g10
          have q10 := rowOf_rw g10
          have hnode : NodeAt h4 (fun k => h.next ≤ k) H2.next ⟨bb, d, 1⟩ := by
            refine ⟨sl1, by omega, gn4, (hs1.same (Same.keep K3) fun k hk' => Nat.le_trans hk.1 hk').same ⟨Nat.le_of_eq nx4.symm, fun j all st hj hg => ?_⟩ fun _ hk' => hk'⟩
            have hj1 := c3.row_ne hg
            rw [s4 j hj1.1 hj1.2.1 (get_ne hg gn (fun e => by simp at e))]
            exact hg
          have hsame : ∀ k, k < h.next → k ≠ bl → k ≠ bd → h4.get k = h.get k := fun k h1k h2k h3k => (s4 k h2k h3k (by omega)).trans (Kh.2 k h1k)
          have hz : addE fL fD fU nx d s b = 0 := by simp [addE, hd, hm, hf, hR]
          by_cases hk1 : bb.kind = 1
          · have f1 : (bb.kind == 1) = true := by simp [hk1]
            obtain ⟨h5, e5, m5, n5, s5⟩ := c4.u.put (t := 90) (kt := 3) (et := 106) (P := kon.P) (by kernel_rfl) (keyI_ok Tryz.underlying3) bb.uid H2.next
            have r0 := rowOf_rw c4.row
            have q5 := rowOf_rw ((s5 h1.next (by omega)).trans g10)
            unfold keyI ptrV at e5
            unfold ptrV
            repeat' (first | simp only [evr, nextP_norm, evd, evq, beq_self_eq_true, cond_true, cond_false, reduceIte, Nat.reduceEqDiff, Nat.reduceAdd, Int.reduceBNe, Int.reduceBEq, Int.reduceLT, Int.reduceLE, Int.reduceEq, evh, evp, Nat.reduceLeDiff, Nat.reduceSub, Nat.reduceBEq, typs, q10, f1] | refine kCond2_by (fun hc => ?_) (fun hc => ?_) <;> try simp only [hc] | refine kPick_by (fun hc => ?_) (fun hc => ?_) <;> try simp only [hc] | refine kWant_by (fun hc => ?_) (fun hc => ?_) <;> try simp only [hc])
            refine Eq.mpr (Wp_drawOrd (KR.mk (by kernel_rfl))) ?_
            repeat' (first | simp only [evr, nextP_norm, evd, evq, beq_self_eq_true, cond_true, cond_false, reduceIte, Nat.reduceEqDiff, Nat.reduceAdd, Int.reduceBNe, Int.reduceBEq, Int.reduceLT, Int.reduceLE, Int.reduceEq, evh, evp, Nat.reduceLeDiff, Nat.reduceSub, Nat.reduceBEq, typs, q10, r0, P_insert, e5, q5] | refine kCond2_by (fun hc => ?_) (fun hc => ?_) <;> try simp only [hc] | refine kPick_by (fun hc => ?_) (fun hc => ?_) <;> try simp only [hc] | refine kWant_by (fun hc => ?_) (fun hc => ?_) <;> try simp only [hc])
            have hlt : ∀ k, k < h.next → k ≠ H2.next := fun k hk' => by omega
            refine .inr ⟨hz, by rw [hR], H2.next, ?_⟩
            rw [hR]
            have hb2 : ¬ bb.kind = 2 := by omega
            obtain ⟨sln, z1, z2, z3⟩ := hnode
            refine ⟨by omega, ?_, ⟨sln, by omega, by rw [s5 _ (by omega)]; exact z2, z3.same (Same.one (b := bu) ?_ (by omega) fun j _ hj => s5 j hj) fun _ hk' => hk'⟩, by omega, fun k e1 e2 e3 e4 e5 => (s5 k e5).trans (hsame k e1 e3 e4)⟩
            · rw [if_neg hb2, if_pos hk1, if_neg hb2]
              exact ⟨by rw [s5 bt c4.bt_bu]; exact c4.row, c4.l.eq (s5 bl c.lu), c4.d.eq (s5 bd c.du), m5, c.ld, c.lu, c.du⟩
            · obtain ⟨es, ck, hg⟩ := c4.u.get
              rw [hg]; trivial
          · have f1 : (bb.kind == 1) = false := by simp [hk1]
            by_cases hk2 : bb.kind = 2
            · have f2 : (bb.kind == 2) = true := by simp [hk2]
              have r0 := rowOf_rw c4.row
              have grow := c4.row
              unfold ptrV
              repeat' (first | simp only [evr, nextP_norm, evd, evq, beq_self_eq_true, cond_true, cond_false, reduceIte, Nat.reduceEqDiff, Nat.reduceAdd, Int.reduceBNe, Int.reduceBEq, Int.reduceLT, Int.reduceLE, Int.reduceEq, evh, evp, Nat.reduceLeDiff, Nat.reduceSub, Nat.reduceBEq, typs, q10, f1, f2, r0, grow, wrap64 (x := nx + 1) (by omega) (by omega)] | refine kCond2_by (fun hc => ?_) (fun hc => ?_) <;> try simp only [hc] | refine kPick_by (fun hc => ?_) (fun hc => ?_) <;> try simp only [hc] | refine kWant_by (fun hc => ?_) (fun hc => ?_) <;> try simp only [hc])
              generalize hh : Hp.set h4 bt _ = H5
              have g5 : H5.get bt = some (.row [.map (some bl), .map (some bd), .map (some bu), .int .i64 (nx + 1)] 92 (.rw 0 [])) := by rw [← hh]; exact Hp.get_set_self _ _ _
              have s5 : ∀ k, k ≠ bt → H5.get k = h4.get k := fun k hk' => by rw [← hh]; exact Hp.get_set_ne hk'
              have x5 : H5.next = h4.next := by rw [← hh]; rfl
              clear hh
              have c5 : CoreAt H5 bt bl bd bu (upd fL (d, s) (some H2.next)) (upd fD d (some ((fD d).getD 0 + 1))) fU (nx + 1) :=
                ⟨g5, c4.l.eq (s5 bl (Ne.symm c4.bt_bl)), c4.d.eq (s5 bd (Ne.symm c4.bt_bd)), c4.u.eq (s5 bu (Ne.symm c4.bt_bu)), c.ld, c.lu, c.du⟩
              obtain ⟨h6, e6, m6, n6, s6⟩ := c5.d.put (t := 89) (kt := 3) (et := 3) (P := kon.P) (by kernel_rfl) (keyI_ok Tryz.underlying3) (nx + 1) 0
              have r5 := rowOf_rw g5
              have q6 := rowOf_rw ((s6 h1.next (by omega)).trans ((s5 h1.next (by omega)).trans g10))
              unfold keyI intV at e6
              refine Eq.mpr (Wp_drawOrd (KR.mk (by kernel_rfl))) ?_
              repeat' (first | simp only [evr, nextP_norm, evd, evq, beq_self_eq_true, cond_true, cond_false, reduceIte, Nat.reduceEqDiff, Nat.reduceAdd, Int.reduceBNe, Int.reduceBEq, Int.reduceLT, Int.reduceLE, Int.reduceEq, evh, evp, Nat.reduceLeDiff, Nat.reduceSub, Nat.reduceBEq, typs, r5, P_insert, e6, q6] | refine kCond2_by (fun hc => ?_) (fun hc => ?_) <;> try simp only [hc] | refine kPick_by (fun hc => ?_) (fun hc => ?_) <;> try simp only [hc] | refine kWant_by (fun hc => ?_) (fun hc => ?_) <;> try simp only [hc])
              refine .inr ⟨hz, by rw [hR], H2.next, ?_⟩
              rw [hR]
              obtain ⟨sln, z1, z2, z3⟩ := hnode
              have st : ∀ k, k ≠ bt → k ≠ bd → h6.get k = h4.get k := fun k e1 e2 => (s6 k e2).trans (s5 k e1)
              refine ⟨by omega, ?_, ⟨sln, by omega, by rw [st _ (by omega) (by omega)]; exact z2, (z3.same (Same.one (b := bt) ?_ (by omega) fun j _ hj => s5 j hj) fun _ hk' => hk').same (Same.one (b := bd) ?_ (by omega) fun j _ hj => s6 j hj) fun _ hk' => hk'⟩, by omega,
                fun k e1 e2 e3 e4 e5 => (st k e2 e4).trans (hsame k e1 e3 e4)⟩
              · rw [if_pos hk2, if_neg hk1, if_pos hk2]
                exact ⟨by rw [s6 bt c5.bt_bd]; exact g5, c5.l.eq (s6 bl c.ld), m6, c5.u.eq (s6 bu (Ne.symm c.du)), c.ld, c.lu, c.du⟩
              · rw [c4.row]; exact (by decide : 92 ≠ 65)
              · obtain ⟨es, ck, hg⟩ := c5.d.get
                rw [hg]; trivial
            · have f2 : (bb.kind == 2) = false := by simp [hk2]
              repeat' (first | simp only [evr, nextP_norm, evd, evq, beq_self_eq_true, cond_true, cond_false, reduceIte, Nat.reduceEqDiff, Nat.reduceAdd, Int.reduceBNe, Int.reduceBEq, Int.reduceLT, Int.reduceLE, Int.reduceEq, evh, evp, Nat.reduceLeDiff, Nat.reduceSub, Nat.reduceBEq, typs, q10, f1, f2] | refine kCond2_by (fun hc => ?_) (fun hc => ?_) <;> try simp only [hc] | refine kPick_by (fun hc => ?_) (fun hc => ?_) <;> try simp only [hc] | refine kWant_by (fun hc => ?_) (fun hc => ?_) <;> try simp only [hc])
              refine .inr ⟨hz, by rw [hR], H2.next, ?_⟩
              rw [hR]
              exact ⟨by omega, by rw [if_neg hk2, if_neg hk1, if_neg hk2]; exact c4, hnode, by omega, fun k e1 e2 e3 e4 e5 => hsame k e1 e3 e4⟩
        · have fe : (e != 0) = true := by simp [he]
          repeat' (first | simp only [evr, nextP_norm, evd, evq, beq_self_eq_true, cond_true, cond_false, reduceIte, Nat.reduceEqDiff, Nat.reduceAdd, Int.reduceBNe, Int.reduceBEq, Int.reduceLT, Int.reduceLE, Int.reduceEq, evh, evp, Nat.reduceLeDiff, Nat.reduceSub, Nat.reduceBEq, typs, hsc1, hcv1, fe] | refine kCond2_by (fun hc => ?_) (fun hc => ?_) <;> try simp only [hc] | refine kPick_by (fun hc => ?_) (fun hc => ?_) <;> try simp only [hc] | refine kWant_by (fun hc => ?_) (fun hc => ?_) <;> try simp only [hc])
          refine .inl ⟨by simp [addE, hd, hm, hf, hR, he], by simp [addE, hd, hm, hf, hR], ?_⟩
          exact ((hk.trans k1).pushed).set (by omega)
end
end Go.Proofs.YtncmgiddcefpcaaGreatDoor
