/- Texts joined: what the claim needs of them. No condition. -/
import Derived.Test.YtncmgiddcefpcaaGreatDoorBin6
namespace Go.Proofs.YtncmgiddcefpcaaGreatDoor
open Go Go.Ev Go.Con
set_option linter.unusedSimpArgs false
set_option linter.unusedVariables false
set_option maxRecDepth 100000
theorem new_spec (h : Hp) : Meets kon 13 [] h fun v h' => v = ptrV (h.next + 3) ∧ Keep h h' ∧ h'.next = h.next + 4 ∧ CoreAt h' (h.next + 3) h.next (h.next + 1) (h.next + 2) (fun _ => none) (upd (fun _ => none) 0 (some 0)) (fun _ => none) 0 := by
  have m0 : MapIs keyK ptrV (h.push (.map [] 0)) h.next (fun _ => none) := MapIs.new h keyK ptrV
  have m1 : MapIs keyI intV ((h.push (.map [] 0)).push (.map [] 0)) (h.next + 1) (fun _ => none) := MapIs.new (h.push (.map [] 0)) keyI intV
  obtain ⟨h2, e1, m2, n2, s2⟩ := m1.put (t := 89) (kt := 3) (et := 3) (P := kon.P) (by kernel_rfl) (keyI_ok Tryz.underlying3) 0 0
  have n2' : h2.next = h.next + 2 := n2
  have g0 : MapIs keyK ptrV h2 h.next (fun _ => none) := (m0.eq (Hp.get_push_lt (Nat.lt_succ_self _))).eq (s2 h.next (by omega))
  have k2 : Keep h h2 := ⟨by omega, fun k hk => by rw [s2 k (by omega), Hp.get_push_lt (show k < h.next + 1 by omega), Hp.get_push_lt hk]⟩
  unfold keyI intV at e1
  refine Meets.mk rfl (by kernel_rfl) Tryz.func13 rfl (congrArg Array.toList Tryz.results13) ?_
  repeat' (first | simp only [evr, nextP_norm, evd, evq, beq_self_eq_true, cond_true, cond_false, reduceIte, Nat.reduceEqDiff, Nat.reduceAdd, Int.reduceBNe, Int.reduceBEq, Int.reduceLT, Int.reduceLE, Int.reduceEq, evh, evp, Nat.reduceLeDiff, Nat.reduceSub, Nat.reduceBEq, typs, P_insert, e1, n2'] | refine kCond2_by (fun hc => ?_) (fun hc => ?_) <;> try simp only [hc] | refine kPick_by (fun hc => ?_) (fun hc => ?_) <;> try simp only [hc] | refine kWant_by (fun hc => ?_) (fun hc => ?_) <;> try simp only [hc])
  have x1 : (h2.push (.map [] 0)).next = h.next + 3 := by rw [Hp.next_push, n2']
  have z : ∀ k, k < h.next + 2 → ∀ o, ((h2.push (.map [] 0)).push o).get k = h2.get k := fun k hk o => by rw [Hp.get_push_lt (by omega), Hp.get_push_lt (by omega)]
  refine ⟨rfl, (k2.pushed).pushed, ⟨?_, g0.eq (z _ (by omega) _), ?_, ?_, by omega, by omega, by omega⟩⟩
  · have := Hp.get_push_self (h2.push (.map [] 0)) (.row [.map (some h.next), .map (some (h.next + 1)), .map (some (h.next + 2)), .int .i64 0] 92 (.rw 0 []))
    rw [x1] at this; exact this
  · exact m2.eq (z _ (by omega) _)
  · have h3 := MapIs.new h2 keyI ptrV
    rw [n2'] at h3
    exact h3.eq (Hp.get_push_lt (by omega))
section
variable {h : Hp} {bt bl bd bu : Nat} {fL : Int × ByteArray → Option Nat} {fD : Int → Option Int} {fU : Int → Option Nat} {nx : Int}
def cleanR (fU : Int → Option Nat) (nx : Int) (b : Bn) : Bn × Int :=
  if b.kind = 1 then (if b.uid < 1 ∨ listMay b.acl = false ∨ bkMay b.b = false then (noBn, 1) else if (fU b.uid).isSome then (noBn, 5) else (⟨1, b.uid, 0, ByteArray.empty, b.object, b.acl, b.b⟩, 0))
  else if b.kind = 2 then (⟨2, 0, nx + 1, ByteArray.empty, false, [], noBk⟩, 0)
  else if b.kind = 3 then (if (split b.link).isSome then (⟨3, 0, 0, b.link, false, [], noBk⟩, 0) else (noBn, 3))
  else (noBn, 15)
theorem build_seg {h : Hp} {F : Nat → Prop} {sl : Value} {l : List Tm} (s : TmTy h F sl l) (u : Int) (o : Bool) (x1 x2 x3 g : Int) :
    evBuild kon.P 40 [(0, .int .i64 1), (1, .int .i64 u), (4, .bool o), (5, sl), (6, .agg #[.int .i64 x1, .int .i64 x2, .int .i64 x3, .int .i64 g])] =
      some (.agg #[.int .i64 1, .int .i64 u, .int .i64 0, .string ByteArray.empty, .bool o, sl, .int .i64 x1, .int .i64 x2, .int .i64 x3, .int .i64 g]) := by
  rcases id s with ⟨rfl, _⟩ | ⟨b, o, k, c, all, st, rfl, _⟩ <;> kernel_rfl
theorem clean_spec (c : CoreAt h bt bl bd bu fL fD fU nx) (lt : bt < h.next ∧ bl < h.next ∧ bd < h.next ∧ bu < h.next) (n1 : -4000000000000000000 ≤ nx) (n2 : nx ≤ 4000000000000000000) {b : Bn} {sl : Value} (hs : TmSl h sl b.acl) (hl : b.acl.length ≤ 1000000000) :
    Meets kon 53 [ptrV bt, .agg (bnC b sl).toArray] h fun v h' => Keep h h' ∧ ∃ sl', v = .tuple #[.agg (bnC (cleanR fU nx b).1 sl').toArray, .int .i64 (cleanR fU nx b).2] ∧ TmTy h' (fun k => h.next ≤ k) sl' (cleanR fU nx b).1.acl := by
  have hsc : isCell sl = true := by rcases hs with ⟨rfl, _⟩ | ⟨b, o, k, c, all, rfl, _⟩ <;> rfl
  have hcv : sl.cells = #[sl] := by rcases hs with ⟨rfl, _⟩ | ⟨b, o, k, c, all, rfl, _⟩ <;> rfl
  unfold bnC
  refine Meets.mk rfl (by kernel_rfl) Tryz.func53 rfl (congrArg Array.toList Tryz.results53) ?_
  by_cases k1 : b.kind = 1
  · have f1 : (b.kind == 1) = true := by simp [k1]
    by_cases hu : b.uid < 1
    · have f2 : decide (b.uid < 1) = true := decide_eq_true hu
      have cl : cleanR fU nx b = (noBn, 1) := by unfold cleanR; rw [if_pos k1, if_pos (.inl hu)]
      repeat' (first | simp only [evr, nextP_norm, evd, evq, beq_self_eq_true, cond_true, cond_false, reduceIte, Nat.reduceEqDiff, Nat.reduceAdd, Int.reduceBNe, Int.reduceBEq, Int.reduceLT, Int.reduceLE, Int.reduceEq, evh, evp, Nat.reduceLeDiff, Nat.reduceSub, Nat.reduceBEq, typs, hsc, hcv, f1, f2] | refine kCond2_by (fun hc => ?_) (fun hc => ?_) <;> try simp only [hc] | refine kPick_by (fun hc => ?_) (fun hc => ?_) <;> try simp only [hc] | refine kWant_by (fun hc => ?_) (fun hc => ?_) <;> try simp only [hc])
      rw [cl]
      exact ⟨((Keep.push _ _).pushed).set (Nat.le_succ _), _, rfl, .inl ⟨rfl, rfl⟩⟩
    · have f2 : decide (b.uid < 1) = false := decide_eq_false hu
      repeat' (first | simp only [evr, nextP_norm, evd, evq, beq_self_eq_true, cond_true, cond_false, reduceIte, Nat.reduceEqDiff, Nat.reduceAdd, Int.reduceBNe, Int.reduceBEq, Int.reduceLT, Int.reduceLE, Int.reduceEq, evh, evp, Nat.reduceLeDiff, Nat.reduceSub, Nat.reduceBEq, typs, hsc, hcv, f1, f2] | refine kCond2_by (fun hc => ?_) (fun hc => ?_) <;> try simp only [hc] | refine kPick_by (fun hc => ?_) (fun hc => ?_) <;> try simp only [hc] | refine kWant_by (fun hc => ?_) (fun hc => ?_) <;> try simp only [hc])
      generalize hh : Hp.push (Hp.push h _) _ = H
      have g3 : H.get h.next = some (.row [.int .i64 b.kind, .int .i64 b.uid, .int .i64 b.dir, .string b.link, .bool b.object, sl, .int .i64 b.b.r1, .int .i64 b.b.r2, .int .i64 b.b.r3, .int .i64 b.b.g] 40 (.rw 0 [])) := by rw [← hh, Hp.get_push_lt (Nat.lt_succ_self _)]; exact Hp.get_push_self _ _
      have g4 : H.get (h.next + 1) = some (.row [.int .i64 0, .int .i64 0, .int .i64 0, .string ByteArray.empty, .bool false, .slice none 0 0, .int .i64 0, .int .i64 0, .int .i64 0, .int .i64 0] 40 (.rw 0 [])) := by rw [← hh]; exact Hp.get_push_self _ _
      have hk : Keep h H := by rw [← hh]; exact (Keep.push _ _).pushed
      have hx : H.next = h.next + 2 := by rw [← hh]; rfl
      clear hh
      refine callP_meets (aMay_spec (SlAt.keep hs hk) hl) ?_
      rintro _ h1 ⟨rfl, k1'⟩
      have g3' := (k1'.2 _ (by omega)).trans g3
      have g4' := (k1'.2 _ (by omega)).trans g4
      have q3 := rowOf_rw g3'
      have q4 := rowOf_rw g4'
      cases hm : listMay b.acl with
      | false =>
        have cl : cleanR fU nx b = (noBn, 1) := by unfold cleanR; rw [if_pos k1, if_pos (.inr (.inl hm))]
        repeat' (first | simp only [evr, nextP_norm, evd, evq, beq_self_eq_true, cond_true, cond_false, reduceIte, Nat.reduceEqDiff, Nat.reduceAdd, Int.reduceBNe, Int.reduceBEq, Int.reduceLT, Int.reduceLE, Int.reduceEq, evh, evp, Nat.reduceLeDiff, Nat.reduceSub, Nat.reduceBEq, typs, q3, q4, g3', g4'] | refine kCond2_by (fun hc => ?_) (fun hc => ?_) <;> try simp only [hc] | refine kPick_by (fun hc => ?_) (fun hc => ?_) <;> try simp only [hc] | refine kWant_by (fun hc => ?_) (fun hc => ?_) <;> try simp only [hc])
        rw [cl]
        exact ⟨(hk.trans k1').set (Nat.le_succ _), _, rfl, .inl ⟨rfl, rfl⟩⟩
      | true =>
        repeat' (first | simp only [evr, nextP_norm, evd, evq, beq_self_eq_true, cond_true, cond_false, reduceIte, Nat.reduceEqDiff, Nat.reduceAdd, Int.reduceBNe, Int.reduceBEq, Int.reduceLT, Int.reduceLE, Int.reduceEq, evh, evp, Nat.reduceLeDiff, Nat.reduceSub, Nat.reduceBEq, typs, q3, q4, g3', g4'] | refine kCond2_by (fun hc => ?_) (fun hc => ?_) <;> try simp only [hc] | refine kPick_by (fun hc => ?_) (fun hc => ?_) <;> try simp only [hc] | refine kWant_by (fun hc => ?_) (fun hc => ?_) <;> try simp only [hc])
        refine callP_meets (ringMay_spec b.b _) ?_
        rintro _ h2 ⟨rfl, k2'⟩
        have hx1 := k1'.1
        have hx2 := k2'.1
        have g3'' := (k2'.2 _ (by omega)).trans g3'
        have g4'' := (k2'.2 _ (by omega)).trans g4'
        have q3 := rowOf_rw g3''
        have q4 := rowOf_rw g4''
        cases hb : bkMay b.b with
        | false =>
          have cl : cleanR fU nx b = (noBn, 1) := by unfold cleanR; rw [if_pos k1, if_pos (.inr (.inr hb))]
          repeat' (first | simp only [evr, nextP_norm, evd, evq, beq_self_eq_true, cond_true, cond_false, reduceIte, Nat.reduceEqDiff, Nat.reduceAdd, Int.reduceBNe, Int.reduceBEq, Int.reduceLT, Int.reduceLE, Int.reduceEq, evh, evp, Nat.reduceLeDiff, Nat.reduceSub, Nat.reduceBEq, typs, q3, q4, g3'', g4''] | refine kCond2_by (fun hc => ?_) (fun hc => ?_) <;> try simp only [hc] | refine kPick_by (fun hc => ?_) (fun hc => ?_) <;> try simp only [hc] | refine kWant_by (fun hc => ?_) (fun hc => ?_) <;> try simp only [hc])
          rw [cl]
          exact ⟨((hk.trans k1').trans k2').set (Nat.le_succ _), _, rfl, .inl ⟨rfl, rfl⟩⟩
        | true =>
          have K2 := (hk.trans k1').trans k2'
          have c2 := c.keep K2 lt
          have r0 := rowOf_rw c2.row
          have lu := c2.lookU b.uid
          repeat' (first | simp only [evr, nextP_norm, evd, evq, beq_self_eq_true, cond_true, cond_false, reduceIte, Nat.reduceEqDiff, Nat.reduceAdd, Int.reduceBNe, Int.reduceBEq, Int.reduceLT, Int.reduceLE, Int.reduceEq, evh, evp, Nat.reduceLeDiff, Nat.reduceSub, Nat.reduceBEq, typs, q3, q4, g3'', g4''] | refine kCond2_by (fun hc => ?_) (fun hc => ?_) <;> try simp only [hc] | refine kPick_by (fun hc => ?_) (fun hc => ?_) <;> try simp only [hc] | refine kWant_by (fun hc => ?_) (fun hc => ?_) <;> try simp only [hc])
          unfold ptrV
          refine Eq.mpr (Wp_drawOrd (KR.mk (by kernel_rfl))) ?_
          cases hf : fU b.uid with
          | some n =>
            have cl : cleanR fU nx b = (noBn, 5) := by unfold cleanR; rw [if_pos k1, if_neg (by rw [hm, hb]; simp; omega), hf]; rfl
            rw [hf] at lu
            unfold optP ptrV at lu
            repeat' (first | simp only [evr, nextP_norm, evd, evq, beq_self_eq_true, cond_true, cond_false, reduceIte, Nat.reduceEqDiff, Nat.reduceAdd, Int.reduceBNe, Int.reduceBEq, Int.reduceLT, Int.reduceLE, Int.reduceEq, evh, evp, Nat.reduceLeDiff, Nat.reduceSub, Nat.reduceBEq, typs, q3, q4, g3'', g4'', r0, lu] | refine kCond2_by (fun hc => ?_) (fun hc => ?_) <;> try simp only [hc] | refine kPick_by (fun hc => ?_) (fun hc => ?_) <;> try simp only [hc] | refine kWant_by (fun hc => ?_) (fun hc => ?_) <;> try simp only [hc])
            rw [cl]
            exact ⟨K2.set (Nat.le_succ _), _, rfl, .inl ⟨rfl, rfl⟩⟩
          | none =>
            have cl : cleanR fU nx b = (⟨1, b.uid, 0, ByteArray.empty, b.object, b.acl, b.b⟩, 0) := by unfold cleanR; rw [if_pos k1, if_neg (by rw [hm, hb]; simp; omega), hf]; rfl
            rw [hf] at lu
            unfold optP at lu
            repeat' (first | simp only [evr, nextP_norm, evd, evq, beq_self_eq_true, cond_true, cond_false, reduceIte, Nat.reduceEqDiff, Nat.reduceAdd, Int.reduceBNe, Int.reduceBEq, Int.reduceLT, Int.reduceLE, Int.reduceEq, evh, evp, Nat.reduceLeDiff, Nat.reduceSub, Nat.reduceBEq, typs, q3, q4, g3'', g4'', r0, lu] | refine kCond2_by (fun hc => ?_) (fun hc => ?_) <;> try simp only [hc] | refine kPick_by (fun hc => ?_) (fun hc => ?_) <;> try simp only [hc] | refine kWant_by (fun hc => ?_) (fun hc => ?_) <;> try simp only [hc])
            refine Wp_drawE [0, 1, 0, 1, 0, 1, 3, 0, 1, 0, 4, 0] (KR.mk (by kernel_rfl)) ?_
            repeat' (first | simp only [evr, nextP_norm, evd, evq, beq_self_eq_true, cond_true, cond_false, reduceIte, Nat.reduceEqDiff, Nat.reduceAdd, Int.reduceBNe, Int.reduceBEq, Int.reduceLT, Int.reduceLE, Int.reduceEq, evh, evp, Nat.reduceLeDiff, Nat.reduceSub, Nat.reduceBEq, typs, q3, q4, g3'', g4'', hcv, hsc] | refine kCond2_by (fun hc => ?_) (fun hc => ?_) <;> try simp only [hc] | refine kPick_by (fun hc => ?_) (fun hc => ?_) <;> try simp only [hc] | refine kWant_by (fun hc => ?_) (fun hc => ?_) <;> try simp only [hc])
            refine callP_meets (clone_spec (SlAt.keep hs K2) hl) ?_
            rintro sl' h3 ⟨k3', hs3⟩
            have g3x := (k3'.2 _ (by omega)).trans g3''
            have g4x := (k3'.2 _ (by omega)).trans g4''
            have p3 := rowOf_rw g3x
            have p4 := rowOf_rw g4x
            have hsc3 := hs3.isCell
            have hcv3 := hs3.cellsV
            repeat' (first | simp only [evr, nextP_norm, evd, evq, beq_self_eq_true, cond_true, cond_false, reduceIte, Nat.reduceEqDiff, Nat.reduceAdd, Int.reduceBNe, Int.reduceBEq, Int.reduceLT, Int.reduceLE, Int.reduceEq, evh, evp, Nat.reduceLeDiff, Nat.reduceSub, Nat.reduceBEq, typs, q3, q4, g3'', g4'', p3, p4, g3x, g4x, hsc3, hcv3, build_seg hs3] | refine kCond2_by (fun hc => ?_) (fun hc => ?_) <;> try simp only [hc] | refine kPick_by (fun hc => ?_) (fun hc => ?_) <;> try simp only [hc] | refine kWant_by (fun hc => ?_) (fun hc => ?_) <;> try simp only [hc])
            rw [cl]
            refine ⟨(K2.trans k3').set (Nat.le_succ _), sl', rfl, ?_⟩
            refine hs3.same (Same.set ?_) (fun k hk => Nat.le_trans K2.1 hk)
            rw [g4x]; exact (by decide : 40 ≠ 65)
  · have f1 : (b.kind == 1) = false := by simp [k1]
    by_cases k2 : b.kind = 2
    · have f2 : (b.kind == 2) = true := by simp [k2]
      have r0 := rowOf_rw c.row
      have e0 : (bt = h.next) = False := eq_false (by omega)
      have e1 : (bt = h.next + 1) = False := eq_false (by omega)
      have cl : cleanR fU nx b = (⟨2, 0, nx + 1, ByteArray.empty, false, [], noBk⟩, 0) := by unfold cleanR; rw [if_neg k1, if_pos k2]
      unfold ptrV
      repeat' (first | simp only [evr, nextP_norm, evd, evq, beq_self_eq_true, cond_true, cond_false, reduceIte, Nat.reduceEqDiff, Nat.reduceAdd, Int.reduceBNe, Int.reduceBEq, Int.reduceLT, Int.reduceLE, Int.reduceEq, evh, evp, Nat.reduceLeDiff, Nat.reduceSub, Nat.reduceBEq, typs, hsc, hcv, f1, f2, r0, e0, e1, if_false, wrap64 (x := nx + 1) (by omega) (by omega)] | refine kCond2_by (fun hc => ?_) (fun hc => ?_) <;> try simp only [hc] | refine kPick_by (fun hc => ?_) (fun hc => ?_) <;> try simp only [hc] | refine kWant_by (fun hc => ?_) (fun hc => ?_) <;> try simp only [hc])
      rw [cl]
      exact ⟨((Keep.push _ _).pushed).set (Nat.le_succ _), _, rfl, .inl ⟨rfl, rfl⟩⟩
    · have f2 : (b.kind == 2) = false := by simp [k2]
      by_cases k3 : b.kind = 3
      · have f3 : (b.kind == 3) = true := by simp [k3]
        repeat' (first | simp only [evr, nextP_norm, evd, evq, beq_self_eq_true, cond_true, cond_false, reduceIte, Nat.reduceEqDiff, Nat.reduceAdd, Int.reduceBNe, Int.reduceBEq, Int.reduceLT, Int.reduceLE, Int.reduceEq, evh, evp, Nat.reduceLeDiff, Nat.reduceSub, Nat.reduceBEq, typs, hsc, hcv, f1, f2, f3] | refine kCond2_by (fun hc => ?_) (fun hc => ?_) <;> try simp only [hc] | refine kPick_by (fun hc => ?_) (fun hc => ?_) <;> try simp only [hc] | refine kWant_by (fun hc => ?_) (fun hc => ?_) <;> try simp only [hc])
        generalize hh : Hp.push (Hp.push h _) _ = H
        have g3 : H.get h.next = some (.row [.int .i64 b.kind, .int .i64 b.uid, .int .i64 b.dir, .string b.link, .bool b.object, sl, .int .i64 b.b.r1, .int .i64 b.b.r2, .int .i64 b.b.r3, .int .i64 b.b.g] 40 (.rw 0 [])) := by rw [← hh, Hp.get_push_lt (Nat.lt_succ_self _)]; exact Hp.get_push_self _ _
        have g4 : H.get (h.next + 1) = some (.row [.int .i64 0, .int .i64 0, .int .i64 0, .string ByteArray.empty, .bool false, .slice none 0 0, .int .i64 0, .int .i64 0, .int .i64 0, .int .i64 0] 40 (.rw 0 [])) := by rw [← hh]; exact Hp.get_push_self _ _
        have hk : Keep h H := by rw [← hh]; exact (Keep.push _ _).pushed
        have hx : H.next = h.next + 2 := by rw [← hh]; rfl
        clear hh
        refine callP_meets (split_spec b.link H) ?_
        rintro v h1 hv
        obtain ⟨k1', hv⟩ := hv
        have g3' := (k1'.2 _ (by omega)).trans g3
        have g4' := (k1'.2 _ (by omega)).trans g4
        have q3 := rowOf_rw g3'
        have q4 := rowOf_rw g4'
        cases hsp : split b.link with
        | none =>
          have cl : cleanR fU nx b = (noBn, 3) := by unfold cleanR; rw [if_neg k1, if_neg k2, if_pos k3, hsp]; rfl
          rw [hsp] at hv
          have hv : v = .tuple #[.slice none 0 0, .int .i64 3] := hv
          subst hv
          repeat' (first | simp only [evr, nextP_norm, evd, evq, beq_self_eq_true, cond_true, cond_false, reduceIte, Nat.reduceEqDiff, Nat.reduceAdd, Int.reduceBNe, Int.reduceBEq, Int.reduceLT, Int.reduceLE, Int.reduceEq, evh, evp, Nat.reduceLeDiff, Nat.reduceSub, Nat.reduceBEq, typs, q3, q4, g3', g4'] | refine kCond2_by (fun hc => ?_) (fun hc => ?_) <;> try simp only [hc] | refine kPick_by (fun hc => ?_) (fun hc => ?_) <;> try simp only [hc] | refine kWant_by (fun hc => ?_) (fun hc => ?_) <;> try simp only [hc])
          rw [cl]
          exact ⟨(hk.trans k1').set (Nat.le_succ _), _, rfl, .inl ⟨rfl, rfl⟩⟩
        | some ps =>
          have cl : cleanR fU nx b = (⟨3, 0, 0, b.link, false, [], noBk⟩, 0) := by unfold cleanR; rw [if_neg k1, if_neg k2, if_pos k3, hsp]; rfl
          rw [hsp] at hv
          obtain ⟨sl1, rfl, -⟩ := hv
          repeat' (first | simp only [evr, nextP_norm, evd, evq, beq_self_eq_true, cond_true, cond_false, reduceIte, Nat.reduceEqDiff, Nat.reduceAdd, Int.reduceBNe, Int.reduceBEq, Int.reduceLT, Int.reduceLE, Int.reduceEq, evh, evp, Nat.reduceLeDiff, Nat.reduceSub, Nat.reduceBEq, typs, q3, q4, g3', g4'] | refine kCond2_by (fun hc => ?_) (fun hc => ?_) <;> try simp only [hc] | refine kPick_by (fun hc => ?_) (fun hc => ?_) <;> try simp only [hc] | refine kWant_by (fun hc => ?_) (fun hc => ?_) <;> try simp only [hc])
          rw [cl]
          exact ⟨(hk.trans k1').set (Nat.le_succ _), _, rfl, .inl ⟨rfl, rfl⟩⟩
      · have f3 : (b.kind == 3) = false := by simp [k3]
        have cl : cleanR fU nx b = (noBn, 15) := by unfold cleanR; rw [if_neg k1, if_neg k2, if_neg k3]
        repeat' (first | simp only [evr, nextP_norm, evd, evq, beq_self_eq_true, cond_true, cond_false, reduceIte, Nat.reduceEqDiff, Nat.reduceAdd, Int.reduceBNe, Int.reduceBEq, Int.reduceLT, Int.reduceLE, Int.reduceEq, evh, evp, Nat.reduceLeDiff, Nat.reduceSub, Nat.reduceBEq, typs, hsc, hcv, f1, f2, f3] | refine kCond2_by (fun hc => ?_) (fun hc => ?_) <;> try simp only [hc] | refine kPick_by (fun hc => ?_) (fun hc => ?_) <;> try simp only [hc] | refine kWant_by (fun hc => ?_) (fun hc => ?_) <;> try simp only [hc])
        rw [cl]
        exact ⟨((Keep.push _ _).pushed).set (Nat.le_succ _), _, rfl, .inl ⟨rfl, rfl⟩⟩
def addE (fL : Int × ByteArray → Option Nat) (fD : Int → Option Int) (fU : Int → Option Nat) (nx : Int) (d : Int) (s : ByteArray) (b : Bn) : Int :=
  if (fD d).isNone then 4 else if mayN s = false then 3 else if (fL (d, s)).isSome then 5 else (cleanR fU nx b).2
structure AddQ (h : Hp) (bt bl bd bu : Nat) (fL : Int × ByteArray → Option Nat) (fD : Int → Option Int) (fU : Int → Option Nat) (nx : Int) (d : Int) (s : ByteArray) (b : Bn) (h' : Hp) (n : Nat) : Prop where
  new : h.next ≤ n
  core : CoreAt h' bt bl bd bu (upd fL (d, s) (some n)) (if b.kind = 2 then upd (upd fD d (some ((fD d).getD 0 + 1))) (nx + 1) (some 0) else upd fD d (some ((fD d).getD 0 + 1)))
    (if b.kind = 1 then upd fU b.uid (some n) else fU) (if b.kind = 2 then nx + 1 else nx)
  node : NodeAt h' (fun k => h.next ≤ k) n ⟨b, d, 1⟩
  next : h.next ≤ h'.next
  same : ∀ k, k < h.next → k ≠ bt → k ≠ bl → k ≠ bd → k ≠ bu → h'.get k = h.get k
def AddP (h : Hp) (bt bl bd bu : Nat) (fL : Int × ByteArray → Option Nat) (fD : Int → Option Int) (fU : Int → Option Nat) (nx : Int) (d : Int) (s : ByteArray) (b : Bn) (v : Value) (h' : Hp) : Prop :=
  (addE fL fD fU nx d s b ≠ 0 ∧ v = .tuple #[.int .i64 0, .int .i64 (addE fL fD fU nx d s b)] ∧ Keep h h') ∨
  (addE fL fD fU nx d s b = 0 ∧ v = .tuple #[.int .i64 (cleanR fU nx b).1.dir, .int .i64 0] ∧ ∃ n, AddQ h bt bl bd bu fL fD fU nx d s (cleanR fU nx b).1 h' n)
theorem build_node {h : Hp} {F : Nat → Prop} {sl : Value} {l : List Tm} (s : TmTy h F sl l) (b : Bn) (d : Int) :
    evBuild kon.P 110 [(0, .agg #[.int .i64 b.kind, .int .i64 b.uid, .int .i64 b.dir, .string b.link, .bool b.object, sl, .int .i64 b.b.r1, .int .i64 b.b.r2, .int .i64 b.b.r3, .int .i64 b.b.g]), (1, .int .i64 d)] =
      some (.agg #[.int .i64 b.kind, .int .i64 b.uid, .int .i64 b.dir, .string b.link, .bool b.object, sl, .int .i64 b.b.r1, .int .i64 b.b.r2, .int .i64 b.b.r3, .int .i64 b.b.g, .int .i64 d, .int .i64 0]) := by
  rcases id s with ⟨rfl, _⟩ | ⟨b, o, k, c, all, st, rfl, _⟩ <;> kernel_rfl
theorem add_spec (c : CoreAt h bt bl bd bu fL fD fU nx) (lt : bt < h.next ∧ bl < h.next ∧ bd < h.next ∧ bu < h.next) (n1 : -4000000000000000000 ≤ nx) (n2 : nx ≤ 4000000000000000000) {b : Bn} {sl : Value} (hs : TmSl h sl b.acl) (hl : b.acl.length ≤ 1000000000)
    (d : Int) (s : ByteArray) (d1 : -4000000000000000000 ≤ (fD d).getD 0) (d2 : (fD d).getD 0 ≤ 4000000000000000000) :
    Meets kon 16 [ptrV bt, .int .i64 d, .string s, .agg (bnC b sl).toArray] h (AddP h bt bl bd bu fL fD fU nx d s b) := by
  have hsc : isCell sl = true := by rcases hs with ⟨rfl, _⟩ | ⟨b, o, k, c, all, rfl, _⟩ <;> rfl
  have hcv : sl.cells = #[sl] := by rcases hs with ⟨rfl, _⟩ | ⟨b, o, k, c, all, rfl, _⟩ <;> rfl
  unfold bnC
  refine Meets.mk rfl (by kernel_rfl) Tryz.func16 rfl (congrArg Array.toList Tryz.results16) ?_
  repeat' (first | simp only [evr, nextP_norm, evd, evq, beq_self_eq_true, cond_true, cond_false, reduceIte, Nat.reduceEqDiff, Nat.reduceAdd, Int.reduceBNe, Int.reduceBEq, Int.reduceLT, Int.reduceLE, Int.reduceEq, evh, evp, Nat.reduceLeDiff, Nat.reduceSub, Nat.reduceBEq, typs, hsc, hcv] | refine kCond2_by (fun hc => ?_) (fun hc => ?_) <;> try simp only [hc] | refine kPick_by (fun hc => ?_) (fun hc => ?_) <;> try simp only [hc] | refine kWant_by (fun hc => ?_) (fun hc => ?_) <;> try simp only [hc])
  generalize hh : Hp.push h _ = H
  have g3 : H.get h.next = some (.row [.int .i64 b.kind, .int .i64 b.uid, .int .i64 b.dir, .string b.link, .bool b.object, sl, .int .i64 b.b.r1, .int .i64 b.b.r2, .int .i64 b.b.r3, .int .i64 b.b.g] 40 (.rw 0 [])) := by rw [← hh]; exact Hp.get_push_self _ _
  have hk : Keep h H := by rw [← hh]; exact Keep.push _ _
  have hx : H.next = h.next + 1 := by rw [← hh]; rfl
  clear hh
  have cH := c.keep hk lt
  have ltH : bt < H.next ∧ bl < H.next ∧ bd < H.next ∧ bu < H.next := ⟨by omega, by omega, by omega, by omega⟩
  refine callP_meets (is_spec cH d) ?_
  rintro v0 H0 ⟨ev, eh⟩
  rw [ev, eh]
  clear ev eh v0 H0
  cases hd : fD d with
  | none =>
    repeat' (first | simp only [evr, nextP_norm, evd, evq, beq_self_eq_true, cond_true, cond_false, reduceIte, Nat.reduceEqDiff, Nat.reduceAdd, Int.reduceBNe, Int.reduceBEq, Int.reduceLT, Int.reduceLE, Int.reduceEq, evh, evp, Nat.reduceLeDiff, Nat.reduceSub, Nat.reduceBEq, typs, (none_spec bt H).call, Option.isSome_none] | refine kCond2_by (fun hc => ?_) (fun hc => ?_) <;> try simp only [hc] | refine kPick_by (fun hc => ?_) (fun hc => ?_) <;> try simp only [hc] | refine kWant_by (fun hc => ?_) (fun hc => ?_) <;> try simp only [hc])
    exact .inl ⟨by simp [addE, hd], by simp [addE, hd], hk⟩
  | some nd =>
    have hmc := (may_spec s H).call
    cases hm : mayN s with
    | false =>
      rw [hm] at hmc
      repeat' (first | simp only [evr, nextP_norm, evd, evq, beq_self_eq_true, cond_true, cond_false, reduceIte, Nat.reduceEqDiff, Nat.reduceAdd, Int.reduceBNe, Int.reduceBEq, Int.reduceLT, Int.reduceLE, Int.reduceEq, evh, evp, Nat.reduceLeDiff, Nat.reduceSub, Nat.reduceBEq, typs, hmc, Option.isSome_some] | refine kCond2_by (fun hc => ?_) (fun hc => ?_) <;> try simp only [hc] | refine kPick_by (fun hc => ?_) (fun hc => ?_) <;> try simp only [hc] | refine kWant_by (fun hc => ?_) (fun hc => ?_) <;> try simp only [hc])
      exact .inl ⟨by simp [addE, hd, hm], by simp [addE, hd, hm], hk⟩
    | true =>
      rw [hm] at hmc
      repeat' (first | simp only [evr, nextP_norm, evd, evq, beq_self_eq_true, cond_true, cond_false, reduceIte, Nat.reduceEqDiff, Nat.reduceAdd, Int.reduceBNe, Int.reduceBEq, Int.reduceLT, Int.reduceLE, Int.reduceEq, evh, evp, Nat.reduceLeDiff, Nat.reduceSub, Nat.reduceBEq, typs, hmc, Option.isSome_some] | refine kCond2_by (fun hc => ?_) (fun hc => ?_) <;> try simp only [hc] | refine kPick_by (fun hc => ?_) (fun hc => ?_) <;> try simp only [hc] | refine kWant_by (fun hc => ?_) (fun hc => ?_) <;> try simp only [hc])
      refine callP_meets (get_spec cH d s) ?_
      rintro v0 H0 ⟨ev, eh⟩
      rw [ev, eh]
      clear ev eh v0 H0
      cases hf : fL (d, s) with
      | some n =>
        unfold optP ptrV
        repeat' (first | simp only [evr, nextP_norm, evd, evq, beq_self_eq_true, cond_true, cond_false, reduceIte, Nat.reduceEqDiff, Nat.reduceAdd, Int.reduceBNe, Int.reduceBEq, Int.reduceLT, Int.reduceLE, Int.reduceEq, evh, evp, Nat.reduceLeDiff, Nat.reduceSub, Nat.reduceBEq, typs] | refine kCond2_by (fun hc => ?_) (fun hc => ?_) <;> try simp only [hc] | refine kPick_by (fun hc => ?_) (fun hc => ?_) <;> try simp only [hc] | refine kWant_by (fun hc => ?_) (fun hc => ?_) <;> try simp only [hc])
        exact .inl ⟨by simp [addE, hd, hm, hf], by simp [addE, hd, hm, hf], hk⟩
      | none =>
        unfold optP
        have q3 := rowOf_rw g3
        repeat' (first | simp only [evr, nextP_norm, evd, evq, beq_self_eq_true, cond_true, cond_false, reduceIte, Nat.reduceEqDiff, Nat.reduceAdd, Int.reduceBNe, Int.reduceBEq, Int.reduceLT, Int.reduceLE, Int.reduceEq, evh, evp, Nat.reduceLeDiff, Nat.reduceSub, Nat.reduceBEq, typs, q3] | refine kCond2_by (fun hc => ?_) (fun hc => ?_) <;> try simp only [hc] | refine kPick_by (fun hc => ?_) (fun hc => ?_) <;> try simp only [hc] | refine kWant_by (fun hc => ?_) (fun hc => ?_) <;> try simp only [hc])
        refine callP_meets (clean_spec cH ltH n1 n2 (SlAt.keep hs hk) hl) ?_
        rintro _ h1 ⟨k1, sl1, rfl, hs1⟩
        have g3' := (k1.2 _ (by omega)).trans g3
        have hx1 := k1.1
        have hsc1 := hs1.isCell
        have hcv1 := hs1.cellsV
        generalize hR : cleanR fU nx b = R at *
        obtain ⟨bb, e⟩ := R
        have hs1 : TmTy h1 (fun k => H.next ≤ k) sl1 bb.acl := hs1
        unfold bnC
        by_cases he : e = 0
        · subst he
          repeat' (first | simp only [evr, nextP_norm, evd, evq, beq_self_eq_true, cond_true, cond_false, reduceIte, Nat.reduceEqDiff, Nat.reduceAdd, Int.reduceBNe, Int.reduceBEq, Int.reduceLT, Int.reduceLE, Int.reduceEq, evh, evp, Nat.reduceLeDiff, Nat.reduceSub, Nat.reduceBEq, typs, hsc1, hcv1] | refine kCond2_by (fun hc => ?_) (fun hc => ?_) <;> try simp only [hc] | refine kPick_by (fun hc => ?_) (fun hc => ?_) <;> try simp only [hc] | refine kWant_by (fun hc => ?_) (fun hc => ?_) <;> try simp only [hc])
          generalize hh : Hp.set _ _ _ = H2
          have g10 : H2.get h1.next = some (.row [.int .i64 bb.kind, .int .i64 bb.uid, .int .i64 bb.dir, .string bb.link, .bool bb.object, sl1, .int .i64 bb.b.r1, .int .i64 bb.b.r2, .int .i64 bb.b.r3, .int .i64 bb.b.g] 40 (.rw 0 [])) := by rw [← hh]; exact Hp.get_set_self _ _ _
          have K2 : Keep h1 H2 := by rw [← hh]; exact (Keep.push _ _).set (Nat.le_refl _)
          have hx2 : H2.next = h1.next + 1 := by rw [← hh]; rfl
          clear hh
          repeat' (first | simp only [evr, nextP_norm, evd, evq, beq_self_eq_true, cond_true, cond_false, reduceIte, Nat.reduceEqDiff, Nat.reduceAdd, Int.reduceBNe, Int.reduceBEq, Int.reduceLT, Int.reduceLE, Int.reduceEq, evh, evp, Nat.reduceLeDiff, Nat.reduceSub, Nat.reduceBEq, typs, build_node hs1, hsc1, hcv1] | refine kCond2_by (fun hc => ?_) (fun hc => ?_) <;> try simp only [hc] | refine kPick_by (fun hc => ?_) (fun hc => ?_) <;> try simp only [hc] | refine kWant_by (fun hc => ?_) (fun hc => ?_) <;> try simp only [hc])
          generalize hh : Hp.push H2 _ = H3
          have gn : H3.get H2.next = some (.row (ndC ⟨bb, d, 0⟩ sl1) 110 (.rw 0 [])) := by rw [← hh]; exact Hp.get_push_self _ _
          have K3 : Keep h1 H3 := by rw [← hh]; exact K2.pushed
          have g10 : H3.get h1.next = _ := (by rw [← hh]; exact Hp.get_push_lt (by omega) : H3.get h1.next = H2.get h1.next).trans g10
          have hx3 : H3.next = H2.next + 1 := by rw [← hh]; rfl
          clear hh
          have Kh : Keep h H3 := (hk.trans k1).trans K3
          have c3 := c.keep Kh lt
          refine callP_meets (put_spec c3 (n := H2.next) (x := ⟨bb, d, 0⟩) (sl := sl1) gn d s d1 d2 (show -4000000000000000000 ≤ (0 : Int) by decide) (show (0 : Int) ≤ 4000000000000000000 by decide)) ?_
          rintro _ h4 ⟨rfl, c4, gn4, nx4, s4⟩
          have g10 := (s4 h1.next (by omega) (by omega) (by omega)).trans g10
          have q10 := rowOf_rw g10
          have hnode : NodeAt h4 (fun k => h.next ≤ k) H2.next ⟨bb, d, 1⟩ := by
            refine ⟨sl1, by omega, gn4, (hs1.same (Same.keep K3) fun k hk' => Nat.le_trans hk.1 hk').same ⟨Nat.le_of_eq nx4.symm, fun j all st hj hg => ?_⟩ fun _ hk' => hk'⟩
            have hj1 := c3.row_ne hg
            rw [s4 j hj1.1 hj1.2.1 (get_ne hg gn (fun e => by simp at e))]
            exact hg
          have hsame : ∀ k, k < h.next → k ≠ bl → k ≠ bd → h4.get k = h.get k := fun k h1k h2k h3k => (s4 k h2k h3k (by omega)).trans (Kh.2 k h1k)
          have hz : addE fL fD fU nx d s b = 0 := by simp [addE, hd, hm, hf, hR]
          by_cases hk1 : bb.kind = 1
          · have f1 : (bb.kind == 1) = true := by simp [hk1]
            obtain ⟨h5, e5, m5, n5, s5⟩ := c4.u.put (t := 90) (kt := 3) (et := 106) (P := kon.P) (by kernel_rfl) (keyI_ok Tryz.underlying3) bb.uid H2.next
            have r0 := rowOf_rw c4.row
            have q5 := rowOf_rw ((s5 h1.next (by omega)).trans g10)
            unfold keyI ptrV at e5
            unfold ptrV
            repeat' (first | simp only [evr, nextP_norm, evd, evq, beq_self_eq_true, cond_true, cond_false, reduceIte, Nat.reduceEqDiff, Nat.reduceAdd, Int.reduceBNe, Int.reduceBEq, Int.reduceLT, Int.reduceLE, Int.reduceEq, evh, evp, Nat.reduceLeDiff, Nat.reduceSub, Nat.reduceBEq, typs, q10, f1] | refine kCond2_by (fun hc => ?_) (fun hc => ?_) <;> try simp only [hc] | refine kPick_by (fun hc => ?_) (fun hc => ?_) <;> try simp only [hc] | refine kWant_by (fun hc => ?_) (fun hc => ?_) <;> try simp only [hc])
            refine Eq.mpr (Wp_drawOrd (KR.mk (by kernel_rfl))) ?_
            repeat' (first | simp only [evr, nextP_norm, evd, evq, beq_self_eq_true, cond_true, cond_false, reduceIte, Nat.reduceEqDiff, Nat.reduceAdd, Int.reduceBNe, Int.reduceBEq, Int.reduceLT, Int.reduceLE, Int.reduceEq, evh, evp, Nat.reduceLeDiff, Nat.reduceSub, Nat.reduceBEq, typs, q10, r0, P_insert, e5, q5] | refine kCond2_by (fun hc => ?_) (fun hc => ?_) <;> try simp only [hc] | refine kPick_by (fun hc => ?_) (fun hc => ?_) <;> try simp only [hc] | refine kWant_by (fun hc => ?_) (fun hc => ?_) <;> try simp only [hc])
            have hlt : ∀ k, k < h.next → k ≠ H2.next := fun k hk' => by omega
            refine .inr ⟨hz, by rw [hR], H2.next, ?_⟩
            rw [hR]
            have hb2 : ¬ bb.kind = 2 := by omega
            obtain ⟨sln, z1, z2, z3⟩ := hnode
            refine ⟨by omega, ?_, ⟨sln, by omega, by rw [s5 _ (by omega)]; exact z2, z3.same (Same.one (b := bu) ?_ (by omega) fun j _ hj => s5 j hj) fun _ hk' => hk'⟩, by omega, fun k e1 e2 e3 e4 e5 => (s5 k e5).trans (hsame k e1 e3 e4)⟩
            · rw [if_neg hb2, if_pos hk1, if_neg hb2]
              exact ⟨by rw [s5 bt c4.bt_bu]; exact c4.row, c4.l.eq (s5 bl c.lu), c4.d.eq (s5 bd c.du), m5, c.ld, c.lu, c.du⟩
            · obtain ⟨es, ck, hg⟩ := c4.u.get
              rw [hg]; trivial
          · have f1 : (bb.kind == 1) = false := by simp [hk1]
            by_cases hk2 : bb.kind = 2
            · have f2 : (bb.kind == 2) = true := by simp [hk2]
              have r0 := rowOf_rw c4.row
              have grow := c4.row
              unfold ptrV
              repeat' (first | simp only [evr, nextP_norm, evd, evq, beq_self_eq_true, cond_true, cond_false, reduceIte, Nat.reduceEqDiff, Nat.reduceAdd, Int.reduceBNe, Int.reduceBEq, Int.reduceLT, Int.reduceLE, Int.reduceEq, evh, evp, Nat.reduceLeDiff, Nat.reduceSub, Nat.reduceBEq, typs, q10, f1, f2, r0, grow, wrap64 (x := nx + 1) (by omega) (by omega)] | refine kCond2_by (fun hc => ?_) (fun hc => ?_) <;> try simp only [hc] | refine kPick_by (fun hc => ?_) (fun hc => ?_) <;> try simp only [hc] | refine kWant_by (fun hc => ?_) (fun hc => ?_) <;> try simp only [hc])
              generalize hh : Hp.set h4 bt _ = H5
              have g5 : H5.get bt = some (.row [.map (some bl), .map (some bd), .map (some bu), .int .i64 (nx + 1)] 92 (.rw 0 [])) := by rw [← hh]; exact Hp.get_set_self _ _ _
              have s5 : ∀ k, k ≠ bt → H5.get k = h4.get k := fun k hk' => by rw [← hh]; exact Hp.get_set_ne hk'
              have x5 : H5.next = h4.next := by rw [← hh]; rfl
              clear hh
              have c5 : CoreAt H5 bt bl bd bu (upd fL (d, s) (some H2.next)) (upd fD d (some ((fD d).getD 0 + 1))) fU (nx + 1) :=
                ⟨g5, c4.l.eq (s5 bl (Ne.symm c4.bt_bl)), c4.d.eq (s5 bd (Ne.symm c4.bt_bd)), c4.u.eq (s5 bu (Ne.symm c4.bt_bu)), c.ld, c.lu, c.du⟩
              obtain ⟨h6, e6, m6, n6, s6⟩ := c5.d.put (t := 89) (kt := 3) (et := 3) (P := kon.P) (by kernel_rfl) (keyI_ok Tryz.underlying3) (nx + 1) 0
              have r5 := rowOf_rw g5
              have q6 := rowOf_rw ((s6 h1.next (by omega)).trans ((s5 h1.next (by omega)).trans g10))
              unfold keyI intV at e6
              refine Eq.mpr (Wp_drawOrd (KR.mk (by kernel_rfl))) ?_
              repeat' (first | simp only [evr, nextP_norm, evd, evq, beq_self_eq_true, cond_true, cond_false, reduceIte, Nat.reduceEqDiff, Nat.reduceAdd, Int.reduceBNe, Int.reduceBEq, Int.reduceLT, Int.reduceLE, Int.reduceEq, evh, evp, Nat.reduceLeDiff, Nat.reduceSub, Nat.reduceBEq, typs, r5, P_insert, e6, q6] | refine kCond2_by (fun hc => ?_) (fun hc => ?_) <;> try simp only [hc] | refine kPick_by (fun hc => ?_) (fun hc => ?_) <;> try simp only [hc] | refine kWant_by (fun hc => ?_) (fun hc => ?_) <;> try simp only [hc])
              refine .inr ⟨hz, by rw [hR], H2.next, ?_⟩
              rw [hR]
              obtain ⟨sln, z1, z2, z3⟩ := hnode
              have st : ∀ k, k ≠ bt → k ≠ bd → h6.get k = h4.get k := fun k e1 e2 => (s6 k e2).trans (s5 k e1)
              refine ⟨by omega, ?_, ⟨sln, by omega, by rw [st _ (by omega) (by omega)]; exact z2, (z3.same (Same.one (b := bt) ?_ (by omega) fun j _ hj => s5 j hj) fun _ hk' => hk').same (Same.one (b := bd) ?_ (by omega) fun j _ hj => s6 j hj) fun _ hk' => hk'⟩, by omega,
                fun k e1 e2 e3 e4 e5 => (st k e2 e4).trans (hsame k e1 e3 e4)⟩
              · rw [if_pos hk2, if_neg hk1, if_pos hk2]
                exact ⟨by rw [s6 bt c5.bt_bd]; exact g5, c5.l.eq (s6 bl c.ld), m6, c5.u.eq (s6 bu (Ne.symm c.du)), c.ld, c.lu, c.du⟩
              · rw [c4.row]; exact (by decide : 92 ≠ 65)
              · obtain ⟨es, ck, hg⟩ := c5.d.get
                rw [hg]; trivial
            · have f2 : (bb.kind == 2) = false := by simp [hk2]
              repeat' (first | simp only [evr, nextP_norm, evd, evq, beq_self_eq_true, cond_true, cond_false, reduceIte, Nat.reduceEqDiff, Nat.reduceAdd, Int.reduceBNe, Int.reduceBEq, Int.reduceLT, Int.reduceLE, Int.reduceEq, evh, evp, Nat.reduceLeDiff, Nat.reduceSub, Nat.reduceBEq, typs, q10, f1, f2] | refine kCond2_by (fun hc => ?_) (fun hc => ?_) <;> try simp only [hc] | refine kPick_by (fun hc => ?_) (fun hc => ?_) <;> try simp only [hc] | refine kWant_by (fun hc => ?_) (fun hc => ?_) <;> try simp only [hc])
              refine .inr ⟨hz, by rw [hR], H2.next, ?_⟩
              rw [hR]
              exact ⟨by omega, by rw [if_neg hk2, if_neg hk1, if_neg hk2]; exact c4, hnode, by omega, fun k e1 e2 e3 e4 e5 => hsame k e1 e3 e4⟩
        · have fe : (e != 0) = true := by simp [he]
          repeat' (first | simp only [evr, nextP_norm, evd, evq, beq_self_eq_true, cond_true, cond_false, reduceIte, Nat.reduceEqDiff, Nat.reduceAdd, Int.reduceBNe, Int.reduceBEq, Int.reduceLT, Int.reduceLE, Int.reduceEq, evh, evp, Nat.reduceLeDiff, Nat.reduceSub, Nat.reduceBEq, typs, hsc1, hcv1, fe] | refine kCond2_by (fun hc => ?_) (fun hc => ?_) <;> try simp only [hc] | refine kPick_by (fun hc => ?_) (fun hc => ?_) <;> try simp only [hc] | refine kWant_by (fun hc => ?_) (fun hc => ?_) <;> try simp only [hc])
          refine .inl ⟨by simp [addE, hd, hm, hf, hR, he], by simp [addE, hd, hm, hf, hR], ?_⟩
          exact ((hk.trans k1).pushed).set (by omega)
end
end Go.Proofs.YtncmgiddcefpcaaGreatDoor
namespace Go.Proofs.YtncmgiddcefpcaaGreatDoor
open Go Go.Ev Go.Con
set_option linter.unusedSimpArgs false
set_option linter.unusedVariables false
set_option maxRecDepth 100000
def nodeF (nb : List Nat) (o : Option Nat) : Option Nat := o.bind fun i => nb[i]?
theorem nodeF_isSome {nb : List Nat} {o : Option Nat} (h : ∀ i, o = some i → i < nb.length) : (nodeF nb o).isSome = o.isSome := by
  cases o with
  | none => rfl
  | some i => simp [nodeF, List.getElem?_eq_getElem (h i rfl)]
theorem nodeF_snoc {nb : List Nat} {n : Nat} {o : Option Nat} (h : ∀ i, o = some i → i < nb.length) : nodeF (nb ++ [n]) o = nodeF nb o := by
  cases o with
  | none => rfl
  | some i => simp [nodeF, List.getElem?_append_left (h i rfl)]
theorem nodeF_new {nb : List Nat} {n i : Nat} (h : i = nb.length) : nodeF (nb ++ [n]) (some i) = some n := by subst h; simp [nodeF]
structure TreeB (h : Hp) (F : Nat → Prop) (T : Hi) (bt bl bd bu : Nat) (nb : List Nat) : Prop where
  len : nb.length = T.B.length
  core : CoreAt h bt bl bd bu (fun k => nodeF nb (T.getF k)) T.dirF (fun u => nodeF nb (T.seg u)) ((T.D.length : Int) - 1)
  node : ∀ e ∈ T.L, ∃ n, nb[e.id]? = some n ∧ F n ∧ NodeAt h F n ⟨T.br e.id, e.dir, T.many e.id⟩
  nd : nb.Nodup
  nF : ∀ n ∈ nb, F n
  own : F bt ∧ F bl ∧ F bd ∧ F bu
  lt : ∀ k, F k → k < h.next
  ok : T.Ok
  acl : ∀ i, (T.br i).acl.length ≤ 1000000000
def TreeAt (h : Hp) (F : Nat → Prop) (T : Hi) (bt : Nat) : Prop := ∃ bl bd bu nb, TreeB h F T bt bl bd bu nb
structure Upd (h : Hp) (F : Nat → Prop) (h' : Hp) (F' : Nat → Prop) : Prop where
  next : h.next ≤ h'.next
  same : ∀ k, k < h.next → ¬ F k → h'.get k = h.get k
  own : ∀ k, F' k → F k ∨ h.next ≤ k
section
variable {h : Hp} {F : Nat → Prop} {T : Hi} {bt bl bd bu : Nat} {nb : List Nat}
theorem TreeB.ltb (t : TreeB h F T bt bl bd bu nb) : bt < h.next ∧ bl < h.next ∧ bd < h.next ∧ bu < h.next := ⟨t.lt _ t.own.1, t.lt _ t.own.2.1, t.lt _ t.own.2.2.1, t.lt _ t.own.2.2.2⟩
theorem TreeB.getlt (t : TreeB h F T bt bl bd bu nb) (k : Int × ByteArray) : ∀ i, T.getF k = some i → i < nb.length := fun i e => by rw [t.len]; exact t.ok.get_lt e
theorem TreeB.seglt (t : TreeB h F T bt bl bd bu nb) (u : Int) : ∀ i, T.seg u = some i → i < nb.length := fun i e => by rw [t.len]; exact t.ok.seg_lt e
theorem TreeB.out_id (t : TreeB h F T bt bl bd bu nb) {e : En} (he : e ∈ T.L) : OutOf h F (nodeF nb (some e.id)) (some (T.br e.id)) := by
  obtain ⟨n, h1, _, h2⟩ := t.node e he
  have : nodeF nb (some e.id) = some n := h1
  rw [this]
  exact ⟨_, h2, rfl, t.acl _⟩
theorem TreeB.out_get (t : TreeB h F T bt bl bd bu nb) (d : Int) (s : ByteArray) : OutOf h F (nodeF nb (T.getF (d, s))) (T.look d s) := by
  unfold Hi.look Hi.get
  cases hg : T.getF (d, s) with
  | none => trivial
  | some i =>
    obtain ⟨e, he, _, rfl⟩ := Hi.get_some hg
    exact t.out_id he
theorem TreeB.keep (t : TreeB h F T bt bl bd bu nb) {h' : Hp} (hn : h.next ≤ h'.next) (hs : ∀ k, F k → h'.get k = h.get k) : TreeB h' F T bt bl bd bu nb := by
  have c := t.core
  have o := t.own
  refine ⟨t.len, ⟨by rw [hs bt o.1]; exact c.row, c.l.eq (hs bl o.2.1), c.d.eq (hs bd o.2.2.1), c.u.eq (hs bu o.2.2.2), c.ld, c.lu, c.du⟩, fun e he => ?_, t.nd, t.nF, o, fun k hk => Nat.lt_of_lt_of_le (t.lt k hk) hn, t.ok, t.acl⟩
  obtain ⟨n, h1, h2, sl, h3, h4, h5⟩ := t.node e he
  refine ⟨n, h1, h2, sl, Nat.lt_of_lt_of_le h3 hn, by rw [hs n h2]; exact h4, ?_⟩
  rcases h5 with h5 | ⟨b, o, k, c, all, st, e1, e2, e3, e4, e5, e6⟩
  · exact .inl h5
  · exact .inr ⟨b, o, k, c, all, st, e1, e2, e3, Nat.lt_of_lt_of_le e4 hn, by rw [hs b e3]; exact e5, e6⟩
theorem TreeAt.keep {bt : Nat} (t : TreeAt h F T bt) {h' : Hp} (hn : h.next ≤ h'.next) (hs : ∀ k, F k → h'.get k = h.get k) : TreeAt h' F T bt := by
  obtain ⟨bl, bd, bu, nb, t⟩ := t; exact ⟨bl, bd, bu, nb, t.keep hn hs⟩
theorem TreeAt.keeps {bt : Nat} (t : TreeAt h F T bt) {h' : Hp} (k : Keep h h') : TreeAt h' F T bt := by
  obtain ⟨bl, bd, bu, nb, t⟩ := t; exact ⟨bl, bd, bu, nb, t.keep k.1 fun j hj => k.2 j (t.lt j hj)⟩
theorem tLook_spec (t : TreeAt h F T bt) (d : Int) (s : ByteArray) : Meets kon 85 [ptrV bt, .int .i64 d, .string s] h (OutP (T.look d s) h) := by
  obtain ⟨bl, bd, bu, nb, t⟩ := t
  exact look_spec t.core t.ltb d s (t.out_get d s)
theorem tNew_spec (h : Hp) : Meets kon 13 [] h fun v h' => ∃ F bt, v = ptrV bt ∧ Keep h h' ∧ TreeAt h' F newHi bt ∧ ∀ k, F k → h.next ≤ k := by
  refine (new_spec h).mono ?_
  rintro v h' ⟨rfl, hk, hx, c⟩
  refine ⟨fun k => h.next ≤ k ∧ k < h.next + 4, _, rfl, hk, ⟨h.next, h.next + 1, h.next + 2, [], ⟨rfl, ?_, by simp [newHi], .nil, by simp, ⟨⟨by omega, by omega⟩, ⟨by omega, by omega⟩, ⟨by omega, by omega⟩, ⟨by omega, by omega⟩⟩, fun k hk' => by omega, Hi.newHi_ok, fun i => by simp [newHi, Hi.br, noBn]⟩⟩, fun k hk' => hk'.1⟩
  have e2 : newHi.dirF = upd (fun _ => none) 0 (some 0) := by
    funext d
    unfold Hi.dirF Hi.is upd newHi Hi.count
    by_cases hd : d = 0
    · subst hd; simp
    · rw [if_neg hd, if_neg]
      simp only [Bool.and_eq_true, decide_eq_true_eq, beq_iff_eq]
      rintro ⟨h1, h2⟩
      have : d.toNat < 1 := by
        have := (List.getElem?_eq_some_iff.1 h2).1; simpa using this
      omega
  rw [e2]
  exact c
theorem TreeB.clean_eq (t : TreeB h F T bt bl bd bu nb) (b : Bn) : cleanR (fun u => nodeF nb (T.seg u)) ((T.D.length : Int) - 1) b = if T.cleanE b = 0 then (T.clean b, 0) else (noBn, T.cleanE b) := by
  unfold cleanR Hi.cleanE Hi.clean
  rw [nodeF_isSome (t.seglt b.uid)]
  by_cases k1 : b.kind = 1
  · simp only [if_pos k1]
    split
    · rfl
    · split <;> rfl
  · simp only [if_neg k1]
    by_cases k2 : b.kind = 2
    · simp only [if_pos k2]
      rw [show (T.D.length : Int) - 1 + 1 = T.D.length by omega]; rfl
    · simp only [if_neg k2]
      by_cases k3 : b.kind = 3
      · simp only [if_pos k3]
        split <;> rfl
      · simp only [if_neg k3]; rfl
theorem TreeB.addE_eq (t : TreeB h F T bt bl bd bu nb) (d : Int) (s : ByteArray) (b : Bn) : addE (fun k => nodeF nb (T.getF k)) T.dirF (fun u => nodeF nb (T.seg u)) ((T.D.length : Int) - 1) d s b = T.why d s b := by
  unfold addE Hi.why Hi.get
  rw [t.clean_eq, nodeF_isSome (t.getlt (d, s))]
  have e1 : (T.dirF d).isNone = !T.is d := by unfold Hi.dirF; cases T.is d <;> rfl
  rw [e1]
  cases T.is d with
  | false => rfl
  | true =>
    simp only [Bool.not_true, Bool.false_eq_true, Bool.true_eq_false, if_false]
    cases mayN s with
    | false => rfl
    | true =>
      simp only [Bool.true_eq_false, if_false]
      cases T.getF (d, s) with
      | some i => rfl
      | none =>
        simp only [Option.isSome_none, Bool.false_eq_true, if_false]
        split
        · rename_i hz; exact hz.symm
        · rfl
theorem CoreAt.sameTm {fL : Int × ByteArray → Option Nat} {fD : Int → Option Int} {fU : Int → Option Nat} {nx : Int} (c : CoreAt h bt bl bd bu fL fD fU nx) {h' : Hp} (hn : h.next ≤ h'.next)
    (hs : ∀ k, k < h.next → k ≠ bt → k ≠ bl → k ≠ bd → k ≠ bu → h'.get k = h.get k) : Same 65 h h' := ⟨hn, fun b all st hb hg => by
  obtain ⟨e1, e2, e3⟩ := c.row_ne hg
  rw [hs b hb (get_ne hg c.row (fun e => by simp at e)) e1 e2 e3]
  exact hg⟩
theorem br_out (T : Hi) {i : Nat} (h : ¬ i < T.B.length) : T.br i = noBn := by
  unfold Hi.br; rw [List.getElem?_eq_none (by omega)]; rfl
theorem TreeB.added (t : TreeB h F T bt bl bd bu nb) {d : Int} {s : ByteArray} {b : Bn} (hw : T.why d s b = 0) (hl : b.acl.length ≤ 1000000000) {h' : Hp} {n : Nat}
    (q : AddQ h bt bl bd bu (fun k => nodeF nb (T.getF k)) T.dirF (fun u => nodeF nb (T.seg u)) ((T.D.length : Int) - 1) d s (T.clean b) h' n) :
    TreeB h' (fun k => F k ∨ h.next ≤ k ∧ k < h'.next) (T.added d s b) bt bl bd bu (nb ++ [n]) := by
  have hnlt : n < h'.next := by obtain ⟨sl, h1, _⟩ := q.node; exact h1
  have hnn : ∀ k, F k → k ≠ n := fun k hk e => by have := t.lt k hk; have := q.new; omega
  have hd : T.is d = true := by
    unfold Hi.why at hw; cases hi : T.is d with
    | true => rfl
    | false => rw [hi, if_pos rfl] at hw; cases hw
  have hg : T.getF (d, s) = none := by
    unfold Hi.why Hi.get at hw; cases hi : T.getF (d, s) with
    | none => rfl
    | some i => rw [hi, hd] at hw; simp only [Bool.true_eq_false, if_false, Option.isSome_some, if_true] at hw; split at hw <;> cases hw
  have hnd : ¬ d = (T.D.length : Int) := fun e => by
    unfold Hi.is at hd
    rw [e] at hd
    simp at hd
  have hkind : ((T.clean b).kind = 2 ↔ b.kind = 2) := by
    unfold Hi.clean; split
    · rename_i hk; simp [hk]
    · split
      · rename_i hk; simp [hk]
      · rename_i hk; simp [hk]
  have hseg : (T.clean b).kind = 1 → T.seg (T.clean b).uid = none := fun hk => by
    have hb1 : b.kind = 1 := by
      unfold Hi.clean at hk; split at hk
      · assumption
      · split at hk <;> simp at hk
    have hu : (T.clean b).uid = b.uid := by unfold Hi.clean; rw [if_pos hb1]
    rw [hu]
    unfold Hi.why Hi.cleanE at hw
    rw [hd] at hw
    simp only [Bool.true_eq_false, if_false, if_pos hb1] at hw
    cases hi : T.seg b.uid with
    | none => rfl
    | some i =>
      rw [hi] at hw
      simp only [Option.isSome_some, if_true] at hw
      split at hw
      · cases hw
      · split at hw
        · cases hw
        · split at hw <;> cases hw
  have sm := t.core.sameTm q.next q.same
  have ok' := t.ok.added hw
  refine ⟨by simp [Hi.added, t.len], ?_, fun e he => ?_, ?_, fun k hk => ?_, ⟨.inl t.own.1, .inl t.own.2.1, .inl t.own.2.2.1, .inl t.own.2.2.2⟩, fun k hk => ?_, ok', fun i => ?_⟩
  · have c := q.core
    have eL : (fun k => nodeF (nb ++ [n]) ((T.added d s b).getF k)) = upd (fun k => nodeF nb (T.getF k)) (d, s) (some n) := by
      have := Hi.getF_snoc (B := T.B) (L := T.L) (D := T.D) (e := ⟨d, T.B.length, s⟩) (T.B ++ [T.clean b]) (if b.kind = 2 then T.D ++ [true] else T.D) hg
      have e1 : (T.added d s b).getF = _ := this
      rw [e1]
      funext k
      by_cases hk : k = (d, s)
      · subst hk
        show nodeF (nb ++ [n]) (upd _ (d, s) _ (d, s)) = _
        rw [upd_self, upd_self, nodeF_new t.len.symm]
      · show nodeF (nb ++ [n]) (upd _ (d, s) _ k) = _
        rw [upd_ne _ _ hk, upd_ne _ _ hk]
        exact nodeF_snoc (t.getlt k)
    have cnt : ∀ d', (T.added d s b).count d' = T.count d' + if d = d' then 1 else 0 := fun d' => Hi.count_snoc (e := ⟨d, T.B.length, s⟩) _ _ d'
    have c0 : (T.dirF d).getD 0 = T.count d := by unfold Hi.dirF; rw [if_pos hd]; rfl
    have noD : T.count (T.D.length : Int) = 0 := by
      refine Nat.eq_zero_of_not_pos fun hp => ?_
      obtain ⟨e, he, h1⟩ := Hi.count_pos.1 hp
      have h2 := t.ok.dirs e he
      rw [h1] at h2
      unfold Hi.is at h2
      simp at h2
    have eD : (T.added d s b).dirF = (if (T.clean b).kind = 2 then upd (upd T.dirF d (some ((T.dirF d).getD 0 + 1))) ((T.D.length : Int) - 1 + 1) (some 0) else upd T.dirF d (some ((T.dirF d).getD 0 + 1))) := by
      rw [c0, show (T.D.length : Int) - 1 + 1 = T.D.length by omega]
      by_cases hk : b.kind = 2
      · have his : ∀ d', (T.added d s b).is d' = if d' = (T.D.length : Int) then true else T.is d' := fun d' => by
          have := Hi.is_snoc (L := T.L) (B := T.B) (D := T.D) (T.added d s b).B (T.added d s b).L d'
          have e : (T.added d s b) = ⟨(T.added d s b).B, (T.added d s b).L, T.D ++ [true]⟩ := by unfold Hi.added; simp [hk]
          rw [e]; exact this
        rw [if_pos (hkind.2 hk)]
        funext d'
        show (if (T.added d s b).is d' = true then some ((T.added d s b).count d' : Int) else none) = _
        rw [his, cnt]
        by_cases e1 : d' = (T.D.length : Int)
        · subst e1
          rw [upd_self, if_pos rfl, if_pos rfl, noD, if_neg hnd]; rfl
        · rw [upd_ne _ _ e1, if_neg e1]
          by_cases e2 : d' = d
          · subst e2
            rw [upd_self, if_pos hd, if_pos rfl]; simp
          · rw [upd_ne _ _ e2, if_neg (Ne.symm e2), Nat.add_zero]; rfl
      · have his : ∀ d', (T.added d s b).is d' = T.is d' := fun d' => by unfold Hi.added Hi.is; simp [hk]
        rw [if_neg (fun h => hk (hkind.1 h))]
        funext d'
        show (if (T.added d s b).is d' = true then some ((T.added d s b).count d' : Int) else none) = _
        rw [his, cnt]
        by_cases e2 : d' = d
        · subst e2
          rw [upd_self, if_pos hd, if_pos rfl]; simp
        · rw [upd_ne _ _ e2, if_neg (Ne.symm e2), Nat.add_zero]; rfl
    have eS : (fun u => nodeF (nb ++ [n]) ((T.added d s b).seg u)) = if (T.clean b).kind = 1 then upd (fun u => nodeF nb (T.seg u)) (T.clean b).uid (some n) else fun u => nodeF nb (T.seg u) := by
      have e1 : (T.added d s b).seg = _ := Hi.seg_added (B := T.B) (L := T.L) (D := T.D) (e := ⟨d, T.B.length, s⟩) (c := T.clean b) t.ok.ids rfl (if b.kind = 2 then T.D ++ [true] else T.D) hseg
      rw [e1]
      by_cases hk : (T.clean b).kind = 1
      · rw [if_pos hk, if_pos hk]
        funext u
        by_cases hu : u = (T.clean b).uid
        · subst hu
          rw [upd_self, upd_self, nodeF_new t.len.symm]
        · rw [upd_ne _ _ hu, upd_ne _ _ hu]
          exact nodeF_snoc (t.seglt u)
      · rw [if_neg hk, if_neg hk]
        funext u
        exact nodeF_snoc (t.seglt u)
    have eN : (((T.added d s b).D.length : Nat) : Int) - 1 = if (T.clean b).kind = 2 then (T.D.length : Int) - 1 + 1 else (T.D.length : Int) - 1 := by
      by_cases hk : b.kind = 2
      · rw [if_pos (hkind.2 hk)]; simp [Hi.added, hk]
      · rw [if_neg (fun h => hk (hkind.1 h))]; simp [Hi.added, hk]
    rw [eL, eD, eS, eN]
    exact c
  · have hmany : ∀ i, (T.added d s b).many i = T.many i + if T.B.length = i then 1 else 0 := fun i => Hi.many_snoc (e := ⟨d, T.B.length, s⟩) _ _ i
    have he' : e ∈ T.L ∨ e = ⟨d, T.B.length, s⟩ := by simpa [Hi.added] using he
    rcases he' with he | rfl
    · have hid := t.ok.ids e he
      obtain ⟨m, h1, h2, sl, h3, h4, h5⟩ := t.node e he
      have hbr : (T.added d s b).br e.id = T.br e.id := Hi.br_snoc hid
      have hne := t.core.row_ne h4
      refine ⟨m, by rw [List.getElem?_append_left (by rw [t.len]; exact hid)]; exact h1, .inl h2, sl, Nat.lt_of_lt_of_le h3 q.next, ?_, ?_⟩
      · rw [q.same m h3 (t.core.node_ne h4) hne.1 hne.2.1 hne.2.2, hbr, hmany, if_neg (by omega)]
        exact h4
      · rw [hbr]; exact h5.same sm fun k hk => .inl hk
    · obtain ⟨sl, h3, h4, h5⟩ := q.node
      have hbr : (T.added d s b).br T.B.length = T.clean b := Hi.br_new
      have h0 : T.many T.B.length = 0 := by
        refine Nat.eq_zero_of_not_pos fun hp => ?_
        obtain ⟨e, he, h1⟩ := Hi.many_pos.1 hp
        have := t.ok.ids e he
        omega
      refine ⟨n, by rw [← t.len]; simp, .inr ⟨q.new, h3⟩, sl, h3, ?_, ?_⟩
      · rw [hbr, hmany, h0, if_pos rfl]
        exact h4
      · rw [hbr]
        rcases h5 with h5 | ⟨b, o, k, c, all, st, e1, e2, e3, e4, e5⟩
        · exact .inl h5
        · exact .inr ⟨b, o, k, c, all, st, e1, e2, .inr ⟨e3, e4⟩, e4, e5⟩
  · rw [List.nodup_append]
    refine ⟨t.nd, by simp, fun a ha b hb => ?_⟩
    simp only [List.mem_singleton] at hb
    subst hb
    exact hnn a (t.nF a ha)
  · rcases List.mem_append.1 hk with hk | hk
    · exact .inl (t.nF k hk)
    · simp only [List.mem_singleton] at hk; subst hk; exact .inr ⟨q.new, hnlt⟩
  · rcases hk with hk | hk
    · exact Nat.lt_of_lt_of_le (t.lt k hk) q.next
    · exact hk.2
  · by_cases hi : i < T.B.length
    · have : (T.added d s b).br i = T.br i := Hi.br_snoc hi
      rw [this]; exact t.acl i
    · by_cases hi2 : i = T.B.length
      · subst hi2
        have : (T.added d s b).br T.B.length = T.clean b := Hi.br_new
        rw [this]
        unfold Hi.clean; split
        · exact hl
        · split <;> simp
      · rw [br_out _ (by simp [Hi.added]; omega)]; simp [noBn]
theorem tAdd_spec (t : TreeAt h F T bt) (hL : T.L.length ≤ 1000000000000) (hB : T.B.length ≤ 1000000000000) {b : Bn} {sl : Value} (hs : TmSl h sl b.acl) (hl : b.acl.length ≤ 1000000000) (d : Int) (s : ByteArray) :
    Meets kon 16 [ptrV bt, .int .i64 d, .string s, .agg (bnC b sl).toArray] h fun v h' => v = .tuple #[.int .i64 (T.add d s b).2.1, .int .i64 (T.add d s b).2.2] ∧ ∃ F', TreeAt h' F' (T.add d s b).1 bt ∧ Upd h F h' F' := by
  obtain ⟨bl, bd, bu, nb, t⟩ := t
  have hfew := t.ok.few
  have hcnt : ∀ d, 0 ≤ (T.dirF d).getD 0 ∧ (T.dirF d).getD 0 ≤ 1000000000000 := fun d => by
    have := Hi.count_le T d
    unfold Hi.dirF
    split
    · simp; omega
    · simp
  refine (add_spec t.core t.ltb (by omega) (by omega) hs hl d s (by have := (hcnt d).1; omega) (by have := (hcnt d).2; omega)).mono ?_
  intro v h' hv
  unfold AddP at hv
  rw [t.addE_eq, t.clean_eq] at hv
  unfold Hi.add
  rcases hv with ⟨h1, rfl, hk⟩ | ⟨h1, h2, n, h3⟩
  · rw [if_neg h1]
    exact ⟨rfl, F, ⟨bl, bd, bu, nb, t.keep hk.1 fun j hj => hk.2 j (t.lt j hj)⟩, hk.1, fun k hk1 _ => hk.2 k hk1, fun k hk' => .inl hk'⟩
  · have hc : T.cleanE b = 0 := by
      unfold Hi.why at h1
      split at h1
      · cases h1
      · split at h1
        · cases h1
        · split at h1
          · cases h1
          · exact h1
    rw [if_pos hc] at h2 h3
    rw [if_pos h1]
    refine ⟨h2, _, ⟨bl, bd, bu, _, t.added h1 hl h3⟩, h3.next, fun k hk1 hk2 => ?_, fun k hk => ?_⟩
    · exact h3.same k hk1 (fun e => hk2 (e ▸ t.own.1)) (fun e => hk2 (e ▸ t.own.2.1)) (fun e => hk2 (e ▸ t.own.2.2.1)) (fun e => hk2 (e ▸ t.own.2.2.2))
    · rcases hk with hk | hk
      · exact .inl hk
      · exact .inr hk.1
end
end Go.Proofs.YtncmgiddcefpcaaGreatDoor
namespace Go.Proofs.YtncmgiddcefpcaaGreatDoor
open Go Go.Ev Go.Con
set_option linter.unusedSimpArgs false
set_option linter.unusedVariables false
set_option maxRecDepth 100000
section
variable {h : Hp} {F : Nat → Prop} {T : Hi} {bt bl bd bu : Nat} {nb : List Nat}
theorem nb_inj {nb : List Nat} (nd : nb.Nodup) {i j n : Nat} (h1 : nb[i]? = some n) (h2 : nb[j]? = some n) : i = j := by
  exact (List.getElem?_inj (List.getElem?_eq_some_iff.1 h1).1 nd).1 (h1.trans h2.symm)
theorem TreeB.named (t : TreeB h F T bt bl bd bu nb) {d : Int} {s m : ByteArray} {i n : Nat} (hg : T.getF (d, s) = some i) (hm : T.getF (d, m) = none) (hn : nb[i]? = some n) {h' : Hp} {x : Nd} {sl : Value}
    (hx : h.get n = some (.row (ndC x sl) 110 (.rw 0 []))) (hx2 : x = ⟨T.br i, d, T.many i⟩) (hsl : TmTy h F sl (T.br i).acl)
    (c : CoreAt h' bt bl bd bu (upd (fun k => nodeF nb (T.getF k)) (d, m) (some n)) (upd T.dirF d (some ((T.dirF d).getD 0 + 1))) (fun u => nodeF nb (T.seg u)) ((T.D.length : Int) - 1))
    (hy : h'.get n = some (.row (ndC { x with many := x.many + 1 } sl) 110 (.rw 0 []))) (hnx : h'.next = h.next) (hs : ∀ k, k ≠ bl → k ≠ bd → k ≠ n → h'.get k = h.get k) : TreeB h' F (T.named d m i) bt bl bd bu nb := by
  obtain ⟨ok', seg'⟩ := t.ok.named hg hm
  obtain ⟨e0, he0, hk0, hi0⟩ := Hi.get_some hg
  have hd0 : e0.dir = d := congrArg Prod.fst hk0
  have hd : T.is d = true := hd0 ▸ t.ok.dirs e0 he0
  have hFn : F n := t.nF n (List.mem_of_getElem? hn)
  have hnlt := t.lt n hFn
  have sm : Same 65 h h' := ⟨Nat.le_of_eq hnx.symm, fun b all st hb hgb => by
    obtain ⟨e1, e2, e3⟩ := t.core.row_ne hgb
    rw [hs b e1 e2 (get_ne hgb hx (fun e => by simp at e))]; exact hgb⟩
  have hmany : ∀ j, (T.named d m i).many j = T.many j + if i = j then 1 else 0 := fun j => Hi.many_snoc (e := ⟨d, i, m⟩) T.B T.D j
  refine ⟨t.len, ?_, fun e he => ?_, t.nd, t.nF, t.own, fun k hk => by rw [hnx]; exact t.lt k hk, ok', t.acl⟩
  · have eL : (fun k => nodeF nb ((T.named d m i).getF k)) = upd (fun k => nodeF nb (T.getF k)) (d, m) (some n) := by
      have e1 : (T.named d m i).getF = _ := Hi.getF_snoc (B := T.B) (L := T.L) (D := T.D) (e := ⟨d, i, m⟩) T.B T.D hm
      rw [e1]
      funext k
      by_cases hk : k = (d, m)
      · subst hk
        show nodeF nb (upd _ (d, m) _ (d, m)) = _
        rw [upd_self, upd_self]; exact hn
      · show nodeF nb (upd _ (d, m) _ k) = _
        rw [upd_ne _ _ hk, upd_ne _ _ hk]
    have cnt : ∀ d', (T.named d m i).count d' = T.count d' + if d = d' then 1 else 0 := fun d' => Hi.count_snoc (e := ⟨d, i, m⟩) T.B T.D d'
    have c0 : (T.dirF d).getD 0 = T.count d := by unfold Hi.dirF; rw [if_pos hd]; rfl
    have eD : (T.named d m i).dirF = upd T.dirF d (some ((T.dirF d).getD 0 + 1)) := by
      rw [c0]
      funext d'
      show (if T.is d' = true then some ((T.named d m i).count d' : Int) else none) = _
      rw [cnt]
      by_cases e2 : d' = d
      · subst e2
        rw [upd_self, if_pos hd, if_pos rfl]; simp
      · rw [upd_ne _ _ e2, if_neg (Ne.symm e2), Nat.add_zero]; rfl
    rw [eL, eD, seg']
    exact c
  · have he' : e ∈ T.L ∨ e = ⟨d, i, m⟩ := by simpa [Hi.named] using he
    have hat : ∃ e1 ∈ T.L, e1.id = e.id ∧ e1.dir = e.dir := by
      rcases he' with he | rfl
      · exact ⟨e, he, rfl, rfl⟩
      · exact ⟨e0, he0, hi0, hd0⟩
    obtain ⟨e1, he1, hid, hdir⟩ := hat
    obtain ⟨n', h1, h2, sl', h3, h4, h5⟩ := t.node e1 he1
    rw [hid, hdir] at h4
    rw [hid] at h1 h5
    refine ⟨n', h1, h2, ?_⟩
    by_cases hii : e.id = i
    · have hnn : n' = n := by rw [hii, hn] at h1; exact (Option.some.inj h1).symm
      subst hnn
      refine ⟨sl, by omega, ?_, ?_⟩
      · rw [hy, hx2, hmany, hii, if_pos rfl]
        have hdd : e.dir = d := by
          rw [← hdir, ← hd0]
          exact t.ok.homes e1 he1 e0 he0 (by rw [hid, hii, hi0])
        rw [hdd]; rfl
      · rw [hii]; exact hsl.same sm fun _ hk => hk
    · have hne : n' ≠ n := fun e' => hii (nb_inj t.nd (e' ▸ h1) hn)
      have hr := t.core.row_ne h4
      refine ⟨sl', by omega, ?_, h5.same sm fun _ hk => hk⟩
      rw [hs n' hr.1 hr.2.1 hne, hmany, if_neg (Ne.symm hii)]
      exact h4
theorem tName_spec (t : TreeAt h F T bt) (hL : T.L.length ≤ 1000000000000) (d : Int) (s m : ByteArray) :
    Meets kon 44 [ptrV bt, .int .i64 d, .string s, .string m] h fun v h' => v = .int .i64 (T.name d s m).2 ∧ ∃ F', TreeAt h' F' (T.name d s m).1 bt ∧ Upd h F h' F' := by
  obtain ⟨bl, bd, bu, nb, t⟩ := t
  have g1 := (get_spec t.core d s).call
  have g2 := (get_spec t.core d m).call
  have g3 := (none_spec bt h).call
  have g4 := (may_spec m h).call
  have hcnt : 0 ≤ (T.dirF d).getD 0 ∧ (T.dirF d).getD 0 ≤ 1000000000000 := by
    have := Hi.count_le T d
    unfold Hi.dirF
    split
    · simp; omega
    · simp
  have stay : ∀ {T' : Hi}, T' = T → ∃ F', TreeAt h F' T' bt ∧ Upd h F h F' := fun e => by
    subst e; exact ⟨F, ⟨bl, bd, bu, nb, t⟩, Nat.le_refl _, fun _ _ _ => rfl, fun _ hk => .inl hk⟩
  refine Meets.mk rfl (by kernel_rfl) Tryz.func44 rfl (congrArg Array.toList Tryz.results44) ?_
  cases hg : T.getF (d, s) with
  | none =>
    rw [hg] at g1
    unfold nodeF Option.bind optP at g1
    repeat' (first | simp only [evr, nextP_norm, evd, evq, beq_self_eq_true, cond_true, cond_false, reduceIte, Nat.reduceEqDiff, Nat.reduceAdd, Int.reduceBNe, Int.reduceBEq, Int.reduceLT, Int.reduceLE, Int.reduceEq, evh, evp, Nat.reduceLeDiff, Nat.reduceSub, Nat.reduceBEq, typs, g1, g3] | refine kCond2_by (fun hc => ?_) (fun hc => ?_) <;> try simp only [hc] | refine kPick_by (fun hc => ?_) (fun hc => ?_) <;> try simp only [hc] | refine kWant_by (fun hc => ?_) (fun hc => ?_) <;> try simp only [hc])
    exact ⟨by simp [Hi.name, Hi.get, hg], stay (by simp [Hi.name, Hi.get, hg])⟩
  | some i =>
    obtain ⟨e0, he0, hk0, hi0⟩ := Hi.get_some hg
    obtain ⟨n, hn, hFn, sl, hlt, hrow, hsl⟩ := t.node e0 he0
    rw [hi0] at hn hrow hsl
    have hd0 : e0.dir = d := congrArg Prod.fst hk0
    have e1 : nodeF nb (some i) = some n := hn
    rw [hg, e1] at g1
    unfold optP ptrV at g1
    unfold ptrV
    cases hm : mayN m with
    | false =>
      rw [hm] at g4
      repeat' (first | simp only [evr, nextP_norm, evd, evq, beq_self_eq_true, cond_true, cond_false, reduceIte, Nat.reduceEqDiff, Nat.reduceAdd, Int.reduceBNe, Int.reduceBEq, Int.reduceLT, Int.reduceLE, Int.reduceEq, evh, evp, Nat.reduceLeDiff, Nat.reduceSub, Nat.reduceBEq, typs, g1, g4] | refine kCond2_by (fun hc => ?_) (fun hc => ?_) <;> try simp only [hc] | refine kPick_by (fun hc => ?_) (fun hc => ?_) <;> try simp only [hc] | refine kWant_by (fun hc => ?_) (fun hc => ?_) <;> try simp only [hc])
      exact ⟨by simp [Hi.name, Hi.get, hg, hm], stay (by simp [Hi.name, Hi.get, hg, hm])⟩
    | true =>
      rw [hm] at g4
      cases hg2 : T.getF (d, m) with
      | some j =>
        have hj := t.getlt _ j hg2
        have e2 : nodeF nb (some j) = some nb[j] := List.getElem?_eq_getElem hj
        rw [hg2, e2] at g2
        unfold optP ptrV at g2
        repeat' (first | simp only [evr, nextP_norm, evd, evq, beq_self_eq_true, cond_true, cond_false, reduceIte, Nat.reduceEqDiff, Nat.reduceAdd, Int.reduceBNe, Int.reduceBEq, Int.reduceLT, Int.reduceLE, Int.reduceEq, evh, evp, Nat.reduceLeDiff, Nat.reduceSub, Nat.reduceBEq, typs, g1, g4, g2] | refine kCond2_by (fun hc => ?_) (fun hc => ?_) <;> try simp only [hc] | refine kPick_by (fun hc => ?_) (fun hc => ?_) <;> try simp only [hc] | refine kWant_by (fun hc => ?_) (fun hc => ?_) <;> try simp only [hc])
        exact ⟨by simp [Hi.name, Hi.get, hg, hm, hg2], stay (by simp [Hi.name, Hi.get, hg, hm, hg2])⟩
      | none =>
        rw [hg2] at g2
        have e2 : nodeF nb none = none := rfl
        rw [e2] at g2
        unfold optP ptrV at g2
        repeat' (first | simp only [evr, nextP_norm, evd, evq, beq_self_eq_true, cond_true, cond_false, reduceIte, Nat.reduceEqDiff, Nat.reduceAdd, Int.reduceBNe, Int.reduceBEq, Int.reduceLT, Int.reduceLE, Int.reduceEq, evh, evp, Nat.reduceLeDiff, Nat.reduceSub, Nat.reduceBEq, typs, g1, g4, g2] | refine kCond2_by (fun hc => ?_) (fun hc => ?_) <;> try simp only [hc] | refine kPick_by (fun hc => ?_) (fun hc => ?_) <;> try simp only [hc] | refine kWant_by (fun hc => ?_) (fun hc => ?_) <;> try simp only [hc])
        have hmn := Hi.many_le T i
        refine callP_meets (put_spec t.core hrow d m (by omega) (by omega) (show -4000000000000000000 ≤ ((T.many i : Nat) : Int) by omega) (show ((T.many i : Nat) : Int) ≤ 4000000000000000000 by omega)) ?_
        rintro _ h' ⟨rfl, c', hy, hnx, hs'⟩
        repeat' (first | simp only [evr, nextP_norm, evd, evq, beq_self_eq_true, cond_true, cond_false, reduceIte, Nat.reduceEqDiff, Nat.reduceAdd, Int.reduceBNe, Int.reduceBEq, Int.reduceLT, Int.reduceLE, Int.reduceEq, evh, evp, Nat.reduceLeDiff, Nat.reduceSub, Nat.reduceBEq, typs] | refine kCond2_by (fun hc => ?_) (fun hc => ?_) <;> try simp only [hc] | refine kPick_by (fun hc => ?_) (fun hc => ?_) <;> try simp only [hc] | refine kWant_by (fun hc => ?_) (fun hc => ?_) <;> try simp only [hc])
        have hname : T.name d s m = (T.named d m i, 0) := by simp [Hi.name, Hi.get, hg, hm, hg2]
        rw [hname]
        refine ⟨rfl, F, ⟨bl, bd, bu, nb, t.named hg hg2 hn hrow (by rw [hd0]) hsl c' hy hnx hs'⟩, Nat.le_of_eq hnx.symm, fun k _ hk => ?_, fun k hk => .inl hk⟩
        exact hs' k (fun e => hk (e ▸ t.own.2.1)) (fun e => hk (e ▸ t.own.2.2.1)) (fun e => hk (e ▸ hFn))
theorem br_setB (T : Hi) (i : Nat) (b : Bn) (j : Nat) : (T.setB i b).br j = if j = i ∧ i < T.B.length then b else T.br j := by
  unfold Hi.setB Hi.br
  by_cases hj : j = i
  · subst hj
    by_cases hl : j < T.B.length
    · rw [if_pos ⟨rfl, hl⟩]; simp [hl]
    · rw [if_neg (fun h => hl h.2)]; simp [hl]
  · rw [if_neg (fun h => hj h.1)]
    simp only [List.getElem?_set_ne (Ne.symm hj)]
theorem TreeB.setB (t : TreeB h F T bt bl bd bu nb) {d : Int} {s : ByteArray} {i : Nat} (hg : T.getF (d, s) = some i) {b' : Bn} {h' : Hp} (ch : Chd h (nodeF nb (some i)) (T.br i) b' h')
    (hk : b'.kind = (T.br i).kind) (hu : b'.uid = (T.br i).uid) (hdr : b'.dir = (T.br i).dir) (hl : b'.acl.length ≤ 1000000000) :
    TreeB h' (fun k => F k ∨ h.next ≤ k ∧ k < h'.next) (T.setB i b') bt bl bd bu nb ∧ ∀ k, k < h.next → ¬ F k → h'.get k = h.get k := by
  obtain ⟨n, x, sl, sl', hn, hrow, hnlt, hxb, hrow', hsl', hnx, hs⟩ := ch
  obtain ⟨ok', seg'⟩ := t.ok.setB hk hu hdr
  obtain ⟨e0, he0, hk0, hi0⟩ := Hi.get_some hg
  have hid := t.ok.ids e0 he0
  obtain ⟨n0, hn0, hF0, sl0, hlt0, hr0, hs0⟩ := t.node e0 he0
  rw [hi0] at hn0 hr0 hs0 hid
  have hnn : n0 = n := by
    have h1 : nb[i]? = some n := hn
    rw [hn0] at h1; exact Option.some.inj h1
  subst hnn
  rw [hrow] at hr0
  simp only [ndC, Option.some.injEq, Ob.row.injEq, List.cons.injEq, Value.int.injEq, true_and, and_true] at hr0
  have ne := t.core.row_ne hrow
  have nt := t.core.node_ne hrow
  have c := t.core
  have o := t.own
  have sm : Same 65 h h' := Same.one (b := n0) (by rw [hrow]; exact (by decide : 110 ≠ 65)) hnx fun j hj hj2 => hs j hj hj2
  refine ⟨⟨by rw [t.len]; simp [Hi.setB], ?_, fun e he => ?_, t.nd, fun m hm => .inl (t.nF m hm), ⟨.inl o.1, .inl o.2.1, .inl o.2.2.1, .inl o.2.2.2⟩, fun k hk => ?_, ok', fun j => ?_⟩, fun k h1 h2 => hs k h1 fun e => h2 (e ▸ hF0)⟩
  · have lt := t.ltb
    show CoreAt h' bt bl bd bu (fun k => nodeF nb (T.getF k)) T.dirF (fun u => nodeF nb ((T.setB i b').seg u)) ((T.D.length : Int) - 1)
    rw [seg']
    exact ⟨by rw [hs bt lt.1 (Ne.symm nt)]; exact c.row, c.l.eq (hs bl lt.2.1 (Ne.symm ne.1)), c.d.eq (hs bd lt.2.2.1 (Ne.symm ne.2.1)), c.u.eq (hs bu lt.2.2.2 (Ne.symm ne.2.2)), c.ld, c.lu, c.du⟩
  · have he : e ∈ T.L := he
    obtain ⟨m, h1, h2, sl2, h3, h4, h5⟩ := t.node e he
    rw [br_setB]
    refine ⟨m, h1, .inl h2, ?_⟩
    by_cases hii : e.id = i
    · have hmn : m = n0 := by rw [hii, hn0] at h1; exact (Option.some.inj h1).symm
      subst hmn
      rw [if_pos ⟨hii, hid⟩]
      refine ⟨sl', Nat.lt_of_lt_of_le hlt0 hnx, ?_, ?_⟩
      · rw [hrow']
        have e1 : x.home = e.dir := by
          rw [t.ok.homes e he e0 he0 (hii.trans hi0.symm)]
          have := hr0; simp_all
        have e2 : x.many = (T.many e.id : Nat) := by rw [hii]; have := hr0; simp_all
        rw [e1, e2]; rfl
      · rcases hsl' with ⟨e1, e2⟩ | h6
        · have e3 : sl = sl0 := by have := hr0; simp_all
          rw [e1, e2, e3]
          exact hs0.same sm fun _ hk => .inl hk
        · rcases h6 with h6 | ⟨b, o, k, c, all, st, a1, a2, a3, a4, a5⟩
          · exact .inl h6
          · exact .inr ⟨b, o, k, c, all, st, a1, a2, .inr ⟨a3, a4⟩, a4, a5⟩
    · rw [if_neg (fun h => hii h.1)]
      have hmn : m ≠ n0 := fun e' => hii (nb_inj t.nd (e' ▸ h1) hn0)
      exact ⟨sl2, Nat.lt_of_lt_of_le h3 hnx, by rw [hs m h3 hmn]; exact h4, h5.same sm fun _ hk => .inl hk⟩
  · rcases hk with hk | hk
    · exact Nat.lt_of_lt_of_le (t.lt k hk) hnx
    · exact hk.2
  · rw [br_setB]
    split
    · exact hl
    · exact t.acl j
theorem Upd.of {h h' : Hp} {F : Nat → Prop} (hn : h.next ≤ h'.next) (hs : ∀ k, k < h.next → ¬ F k → h'.get k = h.get k) : Upd h F h' (fun k => F k ∨ h.next ≤ k ∧ k < h'.next) :=
  ⟨hn, hs, fun k hk => hk.imp id (·.1)⟩
theorem Upd.keep {h h' : Hp} {F : Nat → Prop} (k : Keep h h') : Upd h F h' F := ⟨k.1, fun j hj _ => k.2 j hj, fun _ hk => .inl hk⟩
theorem tAccess_spec (t : TreeAt h F T bt) (d : Int) (s : ByteArray) {v : Value} {l : List Tm} (hv : TmSl h v l) (hl : l.length ≤ 1000000000) :
    Meets kon 32 [ptrV bt, .int .i64 d, .string s, v] h fun u h' => u = .int .i64 (T.access d s l).2 ∧ ∃ F', TreeAt h' F' (T.access d s l).1 bt ∧ Upd h F h' F' := by
  obtain ⟨bl, bd, bu, nb, t⟩ := t
  refine (access_spec t.core d s (t.out_get d s) hv hl).mono ?_
  rintro u h' ⟨rfl, k1, k2⟩
  have stay : chE (listMay l) (T.look d s) ≠ 0 → (T.access d s l) = (T, chE (listMay l) (T.look d s)) → Value.int .i64 (chE (listMay l) (T.look d s)) = .int .i64 (T.access d s l).2 ∧ ∃ F', TreeAt h' F' (T.access d s l).1 bt ∧ Upd h F h' F' := fun e1 e2 => by
    rw [e2]
    exact ⟨rfl, F, ⟨bl, bd, bu, nb, t.keep (k1 e1).1 fun j hj => (k1 e1).2 j (t.lt j hj)⟩, Upd.keep (k1 e1)⟩
  unfold Hi.look Hi.get at stay k2
  unfold Hi.look Hi.get
  cases hg : T.getF (d, s) with
  | none =>
    rw [hg] at stay
    exact stay (by simp [chE]) (by simp [Hi.access, Hi.get, hg, chE])
  | some i =>
    rw [hg] at stay k2
    by_cases hk : (T.br i).kind = 1
    · cases hm : listMay l with
      | false =>
        rw [hm] at stay
        exact stay (by simp [chE, hk]) (by simp [Hi.access, Hi.get, hg, chE, hk, hm])
      | true =>
        rw [hm] at k2
        have e0 : chE true (some (T.br i)) = 0 := by simp [chE, hk]
        obtain ⟨t', hs⟩ := t.setB hg (k2 e0 _ rfl) rfl rfl rfl hl
        have ha : T.access d s l = (T.setB i { T.br i with acl := l }, 0) := by simp [Hi.access, Hi.get, hg, hk, hm]
        have hnx : h.next ≤ h'.next := by obtain ⟨_, _, _, _, _, _, _, _, _, _, hnx, _⟩ := k2 e0 _ rfl; exact hnx
        rw [ha]
        exact ⟨by show Value.int .i64 (chE true (some (T.br i))) = _; rw [e0], _, ⟨bl, bd, bu, nb, t'⟩, Upd.of hnx hs⟩
    · exact stay (by simp [chE, hk]) (by simp [Hi.access, Hi.get, hg, chE, hk])
theorem tRinged_spec (t : TreeAt h F T bt) (d : Int) (s : ByteArray) (b : Bk) :
    Meets kon 33 [ptrV bt, .int .i64 d, .string s, bkV b] h fun u h' => u = .int .i64 (T.ringed d s b).2 ∧ ∃ F', TreeAt h' F' (T.ringed d s b).1 bt ∧ Upd h F h' F' := by
  obtain ⟨bl, bd, bu, nb, t⟩ := t
  refine (ringed_spec t.core t.ltb d s (t.out_get d s) b).mono ?_
  rintro u h' ⟨rfl, k1, k2⟩
  have stay : chE (bkMay b) (T.look d s) ≠ 0 → (T.ringed d s b) = (T, chE (bkMay b) (T.look d s)) → Value.int .i64 (chE (bkMay b) (T.look d s)) = .int .i64 (T.ringed d s b).2 ∧ ∃ F', TreeAt h' F' (T.ringed d s b).1 bt ∧ Upd h F h' F' := fun e1 e2 => by
    rw [e2]
    exact ⟨rfl, F, ⟨bl, bd, bu, nb, t.keep (k1 e1).1 fun j hj => (k1 e1).2 j (t.lt j hj)⟩, Upd.keep (k1 e1)⟩
  unfold Hi.look Hi.get at stay k2
  unfold Hi.look Hi.get
  cases hg : T.getF (d, s) with
  | none =>
    rw [hg] at stay
    exact stay (by simp [chE]) (by simp [Hi.ringed, Hi.get, hg, chE])
  | some i =>
    rw [hg] at stay k2
    by_cases hk : (T.br i).kind = 1
    · cases hm : bkMay b with
      | false =>
        rw [hm] at stay
        exact stay (by simp [chE, hk]) (by simp [Hi.ringed, Hi.get, hg, chE, hk, hm])
      | true =>
        rw [hm] at k2
        have e0 : chE true (some (T.br i)) = 0 := by simp [chE, hk]
        obtain ⟨t', hs⟩ := t.setB hg (k2 e0 _ rfl) rfl rfl rfl (t.acl i)
        have ha : T.ringed d s b = (T.setB i { T.br i with b := b }, 0) := by simp [Hi.ringed, Hi.get, hg, hk, hm]
        have hnx : h.next ≤ h'.next := by obtain ⟨_, _, _, _, _, _, _, _, _, _, hnx, _⟩ := k2 e0 _ rfl; exact hnx
        rw [ha]
        exact ⟨by show Value.int .i64 (chE true (some (T.br i))) = _; rw [e0], _, ⟨bl, bd, bu, nb, t'⟩, Upd.of hnx hs⟩
    · exact stay (by simp [chE, hk]) (by simp [Hi.ringed, Hi.get, hg, chE, hk])
end
end Go.Proofs.YtncmgiddcefpcaaGreatDoor
namespace Go.Proofs.YtncmgiddcefpcaaGreatDoor
open Go Go.Ev Go.Con
set_option linter.unusedSimpArgs false
set_option linter.unusedVariables false
set_option maxRecDepth 100000
theorem refUser_spec (s : ByteArray) (h : Hp) : Meets kon 108 [.string s] h fun v h' => v = .bool (mayU s) ∧ h' = h := by
  refine Meets.mk rfl (by kernel_rfl) Tryz.func108 rfl (congrArg Array.toList Tryz.results108) ?_
  simp only [evr, nextP_norm, evd, evq, beq_self_eq_true, cond_true, cond_false, reduceIte, Nat.reduceEqDiff, Nat.reduceAdd, Int.reduceBNe, Int.reduceBEq, Int.reduceLT, Int.reduceLE, Int.reduceEq, typs, (plain_spec s 16 16 rfl (by omega) h).call]
theorem TmSl.user {h : Hp} {v : Value} {l : List Tm} (s : TmSl h v l) {i : Nat} {x : Tm} (hi : l[i]? = some x) : ∃ b o all, evIndexAddr kon.P 30 v (.int .i64 i) = some (.pointer (some ⟨b, o, none⟩)) ∧ b < h.next ∧
    rowOf h b = some all ∧ all[o]? = some (.string x.user) := by
  obtain ⟨b, o, all, h1, h2, h3, h4, h5⟩ := s.at hi
  refine ⟨b, o, all, h1, h2, h3, ?_⟩
  have := congrArg (fun c : List Value => c[0]?) h5
  simpa [tmC] using this
theorem evBin_leqS {P : Program} {t : TypeId} {xo yo : Operand} {s u : ByteArray} : evBin P .leq t xo yo (.string s) (.string u) = some (.bool !ltS u s) := by
  show some (Value.bool (Op.bytesLess s.toList u.toList || s.toList == u.toList)) = _
  rw [toList_data, toList_data, bless_lt, leS_not]; rfl
set_option maxHeartbeats 8000000 in
theorem refListMay_spec {h : Hp} {v : Value} {l : List Tm} (s : TmSl h v l) (hl : l.length ≤ 1000000000) : Meets kon 96 [v] h fun u h' => u = .bool (listMay l) ∧ h' = h := by
  refine Meets.mk rfl (by kernel_rfl) Tryz.func96 rfl (congrArg Array.toList Tryz.results96) ?_
  have la := s.len
  rcases Bool.eq_false_or_eq_true (decide ((16 : Int) < l.length)) with e1 | e1
  · simp only [evr, nextP_norm, evd, evq, beq_self_eq_true, cond_true, cond_false, reduceIte, Nat.reduceEqDiff, Nat.reduceAdd, Int.reduceBNe, Int.reduceBEq, Int.reduceLT, Int.reduceLE, Int.reduceEq, typs, la, e1]
    have : ¬ l.length ≤ 16 := by simp at e1; omega
    simp [listMay, this]
  simp only [evr, nextP_norm, evd, evq, beq_self_eq_true, cond_true, cond_false, reduceIte, Nat.reduceEqDiff, Nat.reduceAdd, Int.reduceBNe, Int.reduceBEq, Int.reduceLT, Int.reduceLE, Int.reduceEq, typs, la, e1]
  have h16 : l.length ≤ 16 := by simp at e1; omega
  refine Wp_loop (fun k fr h' => h' = h ∧ ∃ i : Nat, k = l.length - i ∧ i ≤ l.length ∧ fr.get 0 = some v ∧ fr.get 3 = some (.int .i64 i) ∧ (List.range i).all (okAt l) = true) l.length ⟨rfl, 0, rfl, Nat.zero_le _, ?_, ?_, rfl⟩ ?_
  · simp only [evr, nextP_norm, evd, evq, beq_self_eq_true, cond_true, cond_false, reduceIte, Nat.reduceEqDiff, Nat.reduceAdd, Int.reduceBNe, Int.reduceBEq, Int.reduceLT, Int.reduceLE, Int.reduceEq, typs]
  · simp only [evr, nextP_norm, evd, evq, beq_self_eq_true, cond_true, cond_false, reduceIte, Nat.reduceEqDiff, Nat.reduceAdd, Int.reduceBNe, Int.reduceBEq, Int.reduceLT, Int.reduceLE, Int.reduceEq, typs]
    rfl
  rintro k fr h' ⟨rfl, i, rfl, hi, g0, g3, hp⟩
  by_cases h3 : i < l.length
  · have e3 : decide ((i : Int) < l.length) = true := by simp; omega
    obtain ⟨x, hx⟩ : ∃ x, l[i]? = some x := ⟨_, List.getElem?_eq_getElem h3⟩
    obtain ⟨b, o, all, ha, hb, hr, hu⟩ := TmSl.user s hx
    have hx' := tmAt_eq hx
    simp only [evr, nextP_norm, evd, evq, beq_self_eq_true, cond_true, cond_false, reduceIte, Nat.reduceEqDiff, Nat.reduceAdd, Int.reduceBNe, Int.reduceBEq, Int.reduceLT, Int.reduceLE, Int.reduceEq, evh, evp, Nat.reduceLeDiff, Nat.reduceSub, Nat.reduceBEq, typs, la, g0, g3, e3]
    refine Wp_drawE [0, 0, 0, 0, 1, 0, 0, 0, 0, 0, 0, 1, 4, 0, 0, 0, 0, 0, 0, 0, 0, 0, 0, 1, 0, 0, 0, 0, 0, 1, 0, 0, 0] (KR.mk (by kernel_rfl)) ?_
    have hus := (refUser_spec x.user h').call
    have bad : okAt l i = false → listMay l = false := fun hk => by unfold listMay; rw [all_no h3 hk]; rfl
    have go : okAt l i = true → ∃ j, j < l.length - i ∧ h' = h' ∧ ∃ i', j = l.length - i' ∧ i' ≤ l.length ∧ ((i : Int) + 1 = (i' : Int)) ∧ (List.range i').all (okAt l) = true := fun hk =>
      ⟨l.length - (i + 1), by omega, rfl, i + 1, rfl, by omega, by omega, all_succ hp hk⟩
    have ws := wrap64 (x := (i : Int) + 1) (by omega) (by omega)
    have huT : userT x.user = (decide (x.user = (ByteArray.mk #[42])) || mayU x.user) := rfl
    cases i with
    | zero =>
      have hok : okAt l 0 = userT x.user := by unfold okAt; rw [hx']; simp
      rw [hok, huT] at bad go
      have e4 : decide ((0 : Int) < ((0 : Nat) : Int)) = false := rfl
      cases e5 : decide (x.user = (ByteArray.mk #[42])) <;> cases e6 : mayU x.user
      all_goals
        rw [e5, e6] at bad go
        rw [e6] at hus
        repeat' (first | simp only [evr, nextP_norm, evd, evq, beq_self_eq_true, cond_true, cond_false, reduceIte, Nat.reduceEqDiff, Nat.reduceAdd, Int.reduceBNe, Int.reduceBEq, Int.reduceLT, Int.reduceLE, Int.reduceEq, evh, evp, Nat.reduceLeDiff, Nat.reduceSub, Nat.reduceBEq, typs, g0, g3, ha, hr, hu, hus, e4, e5, ws] | refine kCond2_by (fun hc => ?_) (fun hc => ?_) <;> try simp only [hc] | refine kPick_by (fun hc => ?_) (fun hc => ?_) <;> try simp only [hc] | refine kWant_by (fun hc => ?_) (fun hc => ?_) <;> try simp only [hc])
        first
        | (rw [bad rfl])
        | (obtain ⟨j, j1, _, i', j2, j3, j4, j5⟩ := go rfl
           first | exact ⟨j, j1, i', j2, j3, by rw [← j4], j5⟩ | exact ⟨j, j1, i', j2, j3, j4, j5⟩)
    | succ j =>
      obtain ⟨y, hy⟩ : ∃ y, l[j]? = some y := ⟨_, List.getElem?_eq_getElem (by omega)⟩
      obtain ⟨b2, o2, all2, ha2, hb2, hr2, hu2⟩ := TmSl.user s hy
      have hy' := tmAt_eq hy
      have e4 : decide ((0 : Int) < ((j + 1 : Nat) : Int)) = true := decide_eq_true (by omega)
      have w1 : IntKind.i64.wrap (((j + 1 : Nat) : Int) - 1) = (j : Int) := by rw [wrap64 (by omega) (by omega)]; omega
      have hok : okAt l (j + 1) = (userT x.user && ltS y.user x.user) := by unfold okAt; rw [hx', Nat.add_sub_cancel, hy']; simp
      rw [hok, huT] at bad go
      cases e5 : decide (x.user = (ByteArray.mk #[42])) <;> cases e6 : mayU x.user <;> cases e7 : ltS y.user x.user
      all_goals
        rw [e5, e6, e7] at bad go
        rw [e6] at hus
        repeat' (first | simp only [evr, nextP_norm, evd, evq, beq_self_eq_true, cond_true, cond_false, reduceIte, Nat.reduceEqDiff, Nat.reduceAdd, Int.reduceBNe, Int.reduceBEq, Int.reduceLT, Int.reduceLE, Int.reduceEq, evh, evp, Nat.reduceLeDiff, Nat.reduceSub, Nat.reduceBEq, typs, g0, g3, ha, hr, hu, hus, e4, ha2, hr2, hu2, w1, e5, ws, evBin_leqS, e7] | refine kCond2_by (fun hc => ?_) (fun hc => ?_) <;> try simp only [hc] | refine kPick_by (fun hc => ?_) (fun hc => ?_) <;> try simp only [hc] | refine kWant_by (fun hc => ?_) (fun hc => ?_) <;> try simp only [hc])
        first
        | (rw [bad rfl])
        | (obtain ⟨j, j1, _, i', j2, j3, j4, j5⟩ := go rfl
           first | exact ⟨j, j1, i', j2, j3, by rw [← j4], j5⟩ | exact ⟨j, j1, i', j2, j3, j4, j5⟩)
  · have e3 : decide ((i : Int) < l.length) = false := by simp; omega
    have hi2 : i = l.length := by omega
    subst hi2
    simp only [evr, nextP_norm, evd, evq, beq_self_eq_true, cond_true, cond_false, reduceIte, Nat.reduceEqDiff, Nat.reduceAdd, Int.reduceBNe, Int.reduceBEq, Int.reduceLT, Int.reduceLE, Int.reduceEq, evh, evp, Nat.reduceLeDiff, Nat.reduceSub, Nat.reduceBEq, typs, la, g0, g3, e3]
    unfold listMay
    rw [hp]
    simp [h16]
end Go.Proofs.YtncmgiddcefpcaaGreatDoor
namespace Go.Proofs.YtncmgiddcefpcaaGreatDoor
open Go Go.Ev Go.Con
set_option linter.unusedSimpArgs false
set_option linter.unusedVariables false
set_option maxRecDepth 100000
def sortedN (T : Hi) (d : Int) : List ByteArray := (sortB ((T.namesOf d).map fun s => s.data.toList)).map ofL
theorem look_mem {κ υ : Type} [DecidableEq κ] : ∀ {l : List (κ × υ)} {x : κ}, (mLook l x).isSome = true ↔ x ∈ l.map (·.1)
  | [], x => by simp [mLook]
  | (k, v) :: l, x => by
    simp only [mLook, List.map_cons, List.mem_cons]
    by_cases h : k = x
    · subst h; simp
    · rw [if_neg h, look_mem (l := l)]
      constructor
      · exact .inr
      · rintro (h2 | h2)
        · exact absurd h2.symm h
        · exact h2
theorem namesE_map (d : Int) : ∀ (es : List MapEntry) (ks : List (Int × ByteArray)), es.map (·.key) = ks.map keyK → namesE d es = some ((ks.filter fun k => decide (k.1 = d)).map fun k => k.2.data.toList)
  | [], [], _ => rfl
  | [], _ :: _, h => by simp at h
  | _ :: _, [], h => by simp at h
  | e :: es, k :: ks, h => by
    simp only [List.map_cons, List.cons.injEq] at h
    have ih := namesE_map d es ks h.2
    unfold namesE
    rw [h.1, ih]
    unfold keyK keyName
    by_cases hk : k.1 = d
    · simp [hk]
    · simp [hk]
section
variable {h : Hp} {F : Nat → Prop} {T : Hi} {bt bl bd bu : Nat} {nb : List Nat}
theorem TreeB.keys (t : TreeB h F T bt bl bd bu nb) : ∃ es ck, ∃ ks : List (Int × ByteArray), h.get bl = some (.map es ck) ∧ es.map (·.key) = ks.map keyK ∧ BornOK es ck ∧ ks.Perm (T.L.map En.key) := by
  obtain ⟨l, ⟨es, ck, h1, h2, h3, h4⟩, h5⟩ := t.core.l
  refine ⟨es, ck, l.map (·.1), h1, ?_, h3, ?_⟩
  · have := congrArg (List.map Prod.fst) h2
    simpa [List.map_map, Function.comp_def] using this
  · rw [List.perm_ext_iff_of_nodup h4 t.ok.keys]
    intro x
    rw [← look_mem, h5 x, nodeF_isSome (t.getlt x)]
    constructor
    · intro hs
      obtain ⟨i, hi⟩ := Option.isSome_iff_exists.1 hs
      obtain ⟨e, he, hk, _⟩ := Hi.get_some hi
      exact List.mem_map.2 ⟨e, he, hk⟩
    · intro hs
      obtain ⟨e, he, rfl⟩ := List.mem_map.1 hs
      rw [t.ok.get_of he]; rfl
theorem nodupB_of : ∀ {l : List Nat}, l.Nodup → nodupB l = true
  | [], _ => rfl
  | x :: l, h => by
    rw [List.nodup_cons] at h
    unfold nodupB
    rw [nodupB_of h.2, Bool.and_true, Bool.not_eq_true', List.any_eq_false]
    intro y hy e
    have : x = y := Nat.eq_of_beq_eq_true e
    exact h.1 (this ▸ hy)
theorem tNames_spec (t : TreeAt h F T bt) (hL : T.L.length ≤ 1000000000) (d : Int) :
    Meets kon 73 [ptrV bt, .int .i64 d] h fun v h' => Keep h h' ∧ SlTy h' (fun k => h.next ≤ k) 9 1 v (strs (sortedN T d)) := by
  obtain ⟨bl, bd, bu, nb, t⟩ := t
  obtain ⟨es, ck, ks, h1, h2, h3, h4⟩ := t.keys
  have hr := rowOf_rw t.core.row
  have hlen : es.length ≤ 1073741824 := by
    have e1 := congrArg List.length h2
    have e2 := h4.length_eq
    simp only [List.length_map] at e1 e2
    omega
  have hborn : bornB es ck = true := by
    unfold bornB
    rw [nodupB_of h3.1, Bool.true_and, List.all_eq_true]
    intro e he; exact decide_eq_true (h3.2 e he)
  have hn := namesE_map d es ks h2
  have hsort : sortB ((ks.filter fun k => decide (k.1 = d)).map fun k => k.2.data.toList) = sortB ((T.namesOf d).map fun s => s.data.toList) := by
    apply sortB_uniq ?_ (sortB_sorted _)
    refine (sortB_perm _).trans ?_
    have hp := (h4.filter fun k => decide (k.1 = d)).map fun k => k.2.data.toList
    refine hp.trans (List.Perm.of_eq ?_)
    unfold Hi.namesOf
    rw [List.filter_map, List.map_map, List.map_map]
    rfl
  have hs : sumNames 9 [ptrV bt, .int .i64 d] h = some (match sortB ((T.namesOf d).map fun s => s.data.toList) with
      | [] => (.slice none 0 0, h)
      | s :: ss => (.slice (some ⟨h.next, 0, none⟩) (ss.length + 1) (2 * (ss.length + 1) + 1), h.push (.row ((s :: ss).map encB) 9 (.rw 0 [])))) := by
    show ((rowOf h bt).bind _) = _
    rw [hr]
    simp only [Option.bind_some]
    rw [h1]
    simp only [hborn, hlen, decide_true, Bool.and_self, cond_true, hn, Option.map_some, hsort]
    cases sortB ((T.namesOf d).map fun s => s.data.toList) <;> rfl
  have henc : ∀ l : List (List UInt8), l.map encB = strs (l.map ofL) := fun l => by simp [strs, encB, ofL, Function.comp_def]
  unfold sortedN
  cases hb : sortB ((T.namesOf d).map fun s => s.data.toList) with
  | nil =>
    rw [hb] at hs
    exact ⟨_, _, Ret.sum (s := sumNames 9) rfl hs, Keep.refl _, .inl ⟨rfl, rfl⟩⟩
  | cons s ss =>
    rw [hb] at hs
    refine ⟨_, _, Ret.sum (s := sumNames 9) rfl hs, Keep.push _ _, .inr ⟨h.next, 0, ss.length + 1, 2 * (ss.length + 1) + 1, _, _, rfl, by omega, Nat.le_refl _, Nat.lt_succ_self _, Hp.get_push_self _ _, trivial, ?_, ?_⟩⟩
    · simp [strs]
    · rw [henc, List.drop_zero, List.take_of_length_le (by simp [strs])]
end
end Go.Proofs.YtncmgiddcefpcaaGreatDoor
namespace Go.Proofs.YtncmgiddcefpcaaGreatDoor
open Go Go.Ev Go.Con
set_option linter.unusedSimpArgs false
set_option linter.unusedVariables false
set_option maxRecDepth 100000
structure TreeP (h : Hp) (F : Nat → Prop) (T U : Hi) (bt bl bd bu : Nat) (nb : List Nat) : Prop where
  len : nb.length = T.B.length
  core : CoreAt h bt bl bd bu (fun k => nodeF nb (U.getF k)) U.dirF (fun u => nodeF nb (T.seg u)) ((T.D.length : Int) - 1)
  node : ∀ e ∈ T.L, ∃ n, nb[e.id]? = some n ∧ F n ∧ NodeAt h F n ⟨T.br e.id, e.dir, U.many e.id⟩
  nd : nb.Nodup
  nF : ∀ n ∈ nb, F n
  own : F bt ∧ F bl ∧ F bd ∧ F bu
  lt : ∀ k, F k → k < h.next
  ok : T.Ok
  acl : ∀ i, (T.br i).acl.length ≤ 1000000000
  okU : U.Ok
  sub : ∀ e ∈ U.L, e ∈ T.L
  B : U.B = T.B
  D : U.D = T.D
section
variable {h : Hp} {F : Nat → Prop} {T U : Hi} {bt bl bd bu : Nat} {nb : List Nat}
theorem TreeB.part (t : TreeB h F T bt bl bd bu nb) : TreeP h F T T bt bl bd bu nb := ⟨t.len, t.core, t.node, t.nd, t.nF, t.own, t.lt, t.ok, t.acl, t.ok, fun _ h => h, rfl, rfl⟩
theorem TreeP.whole (t : TreeP h F T U bt bl bd bu nb) (hs : U.seg = T.seg) : TreeB h F U bt bl bd bu nb := by
  have hbr : ∀ i, U.br i = T.br i := fun i => by unfold Hi.br; rw [t.B]
  refine ⟨by rw [t.B]; exact t.len, by rw [hs, t.D]; exact t.core, fun e he => ?_, t.nd, t.nF, t.own, t.lt, t.okU, fun i => by rw [hbr]; exact t.acl i⟩
  rw [hbr]; exact t.node e (t.sub e he)
theorem TreeP.take (t : TreeP h F T U bt bl bd bu nb) {e : En} (he : e ∈ U.L) {n : Nat} (hn : nb[e.id]? = some n) {x : Nd} {sl : Value} (hx : h.get n = some (.row (ndC x sl) 110 (.rw 0 []))) {h' : Hp}
    (c : CoreAt h' bt bl bd bu (upd (fun k => nodeF nb (U.getF k)) (e.dir, e.name) none) (upd U.dirF e.dir (some ((U.dirF e.dir).getD 0 - 1))) (fun u => nodeF nb (T.seg u)) ((T.D.length : Int) - 1))
    (hy : h'.get n = some (.row (ndC { x with many := x.many - 1 } sl) 110 (.rw 0 []))) (hnx : h'.next = h.next) (hs : ∀ k, k ≠ bl → k ≠ bd → k ≠ n → h'.get k = h.get k) :
    TreeP h' F T (U.taken e.dir e.name) bt bl bd bu nb := by
  obtain ⟨ok', eG, eC, eM⟩ := t.okU.take he
  have hd : U.is e.dir = true := t.okU.dirs e he
  have sm : Same 65 h h' := ⟨Nat.le_of_eq hnx.symm, fun b all st hb hgb => by
    obtain ⟨e1, e2, e3⟩ := t.core.row_ne hgb
    rw [hs b e1 e2 (get_ne hgb hx (fun e => by simp at e))]; exact hgb⟩
  refine ⟨t.len, ?_, fun a ha => ?_, t.nd, t.nF, t.own, fun k hk => by rw [hnx]; exact t.lt k hk, t.ok, t.acl, ok', fun a ha => t.sub a (List.mem_filter.1 ha).1, t.B, t.D⟩
  · have eL : (fun k => nodeF nb ((U.taken e.dir e.name).getF k)) = upd (fun k => nodeF nb (U.getF k)) (e.dir, e.name) none := by
      rw [eG]
      funext k
      by_cases hk : k = e.key
      · subst hk
        rw [upd_self]; show nodeF nb none = _; exact (upd_self _ _ _).symm
      · rw [upd_ne _ _ hk]; exact (upd_ne (fun k => nodeF nb (U.getF k)) none (show k ≠ (e.dir, e.name) from hk)).symm
    have c0 : (U.dirF e.dir).getD 0 = U.count e.dir := by unfold Hi.dirF; rw [if_pos hd]; rfl
    have eD : (U.taken e.dir e.name).dirF = upd U.dirF e.dir (some ((U.dirF e.dir).getD 0 - 1)) := by
      rw [c0]
      funext d'
      show (if U.is d' = true then some ((U.taken e.dir e.name).count d' : Int) else none) = _
      have h1 := eC d'
      by_cases e2 : d' = e.dir
      · subst e2
        rw [if_pos rfl] at h1
        rw [upd_self, if_pos hd]; congr 1; omega
      · rw [if_neg (Ne.symm e2), Nat.add_zero] at h1
        rw [upd_ne _ _ e2, ← h1]; rfl
    rw [eL, eD]
    exact c
  · obtain ⟨m, h1, h2, sl', h3, h4, h5⟩ := t.node a ha
    have hm := eM a.id
    refine ⟨m, h1, h2, ?_⟩
    by_cases hi : a.id = e.id
    · have hmn : m = n := by rw [hi, hn] at h1; exact (Option.some.inj h1).symm
      subst hmn
      rw [hx] at h4
      simp only [ndC, Option.some.injEq, Ob.row.injEq, List.cons.injEq, Value.int.injEq, true_and, and_true] at h4
      rw [if_pos hi.symm] at hm
      refine ⟨sl', by omega, ?_, h5.same sm fun _ hk => hk⟩
      rw [hy]
      simp only [ndC, Option.some.injEq, Ob.row.injEq, List.cons.injEq, Value.int.injEq, true_and, and_true]
      simp only [h4, true_and]
      omega
    · have hne : m ≠ n := fun e' => hi (nb_inj t.nd (e' ▸ h1) hn)
      have hr := t.core.row_ne h4
      rw [if_neg (Ne.symm hi), Nat.add_zero] at hm
      rw [← hm]
      exact ⟨sl', by omega, by rw [hs m hr.1 hr.2.1 hne]; exact h4, h5.same sm fun _ hk => hk⟩
theorem tUnname_spec (t : TreeAt h F T bt) (hL : T.L.length ≤ 1000000000000) (d : Int) (s : ByteArray) :
    Meets kon 46 [ptrV bt, .int .i64 d, .string s] h fun v h' => v = .int .i64 (T.unname d s).2 ∧ ∃ F', TreeAt h' F' (T.unname d s).1 bt ∧ Upd h F h' F' := by
  obtain ⟨bl, bd, bu, nb, t⟩ := t
  have g1 := (get_spec t.core d s).call
  have g3 := (none_spec bt h).call
  have hcnt : 0 ≤ (T.dirF d).getD 0 ∧ (T.dirF d).getD 0 ≤ 1000000000000 := by
    have := Hi.count_le T d
    unfold Hi.dirF
    split
    · simp; omega
    · simp
  have stay : ∀ {T' : Hi}, T' = T → ∃ F', TreeAt h F' T' bt ∧ Upd h F h F' := fun e => by
    subst e; exact ⟨F, ⟨bl, bd, bu, nb, t⟩, Nat.le_refl _, fun _ _ _ => rfl, fun _ hk => .inl hk⟩
  refine Meets.mk rfl (by kernel_rfl) Tryz.func46 rfl (congrArg Array.toList Tryz.results46) ?_
  cases hg : T.getF (d, s) with
  | none =>
    rw [hg] at g1
    unfold nodeF Option.bind optP at g1
    repeat' (first | simp only [evr, nextP_norm, evd, evq, beq_self_eq_true, cond_true, cond_false, reduceIte, Nat.reduceEqDiff, Nat.reduceAdd, Int.reduceBNe, Int.reduceBEq, Int.reduceLT, Int.reduceLE, Int.reduceEq, evh, evp, Nat.reduceLeDiff, Nat.reduceSub, Nat.reduceBEq, typs, g1, g3] | refine kCond2_by (fun hc => ?_) (fun hc => ?_) <;> try simp only [hc] | refine kPick_by (fun hc => ?_) (fun hc => ?_) <;> try simp only [hc] | refine kWant_by (fun hc => ?_) (fun hc => ?_) <;> try simp only [hc])
    exact ⟨by simp [Hi.unname, Hi.get, hg], stay (by simp [Hi.unname, Hi.get, hg])⟩
  | some i =>
    obtain ⟨e0, he0, hk0, hi0⟩ := Hi.get_some hg
    obtain ⟨n, hn, hFn, sl, hlt, hrow, hsl⟩ := t.node e0 he0
    have hd0 : e0.dir = d := congrArg Prod.fst hk0
    have hn0 : e0.name = s := congrArg Prod.snd hk0
    have e1 : nodeF nb (some i) = some n := by rw [← hi0]; exact hn
    have hr := rowOf_rw hrow
    unfold ndC at hr
    rw [hg, e1] at g1
    unfold optP ptrV at g1
    unfold ptrV
    by_cases hm : T.many i = 1
    · have f1 : (((T.many e0.id : Nat) : Int) == 1) = true := by rw [hi0, hm]; rfl
      repeat' (first | simp only [evr, nextP_norm, evd, evq, beq_self_eq_true, cond_true, cond_false, reduceIte, Nat.reduceEqDiff, Nat.reduceAdd, Int.reduceBNe, Int.reduceBEq, Int.reduceLT, Int.reduceLE, Int.reduceEq, evh, evp, Nat.reduceLeDiff, Nat.reduceSub, Nat.reduceBEq, typs, g1, hr, f1] | refine kCond2_by (fun hc => ?_) (fun hc => ?_) <;> try simp only [hc] | refine kPick_by (fun hc => ?_) (fun hc => ?_) <;> try simp only [hc] | refine kWant_by (fun hc => ?_) (fun hc => ?_) <;> try simp only [hc])
      exact ⟨by simp [Hi.unname, Hi.get, hg, hm], stay (by simp [Hi.unname, Hi.get, hg, hm])⟩
    · have f1 : (((T.many e0.id : Nat) : Int) == 1) = false := by rw [hi0]; simp; omega
      repeat' (first | simp only [evr, nextP_norm, evd, evq, beq_self_eq_true, cond_true, cond_false, reduceIte, Nat.reduceEqDiff, Nat.reduceAdd, Int.reduceBNe, Int.reduceBEq, Int.reduceLT, Int.reduceLE, Int.reduceEq, evh, evp, Nat.reduceLeDiff, Nat.reduceSub, Nat.reduceBEq, typs, g1, hr, f1] | refine kCond2_by (fun hc => ?_) (fun hc => ?_) <;> try simp only [hc] | refine kPick_by (fun hc => ?_) (fun hc => ?_) <;> try simp only [hc] | refine kWant_by (fun hc => ?_) (fun hc => ?_) <;> try simp only [hc])
      have hmn := Hi.many_le T e0.id
      have hf : (fun k => nodeF nb (T.getF k)) (d, s) = some n := by show nodeF nb (T.getF (d, s)) = _; rw [hg, e1]
      refine callP_meets (take_spec t.core hrow d s hf (by omega) (by omega) (show -4000000000000000000 ≤ ((T.many e0.id : Nat) : Int) by omega) (show ((T.many e0.id : Nat) : Int) ≤ 4000000000000000000 by omega)) ?_
      rintro _ h' ⟨rfl, c', hy, hnx, hs'⟩
      repeat' (first | simp only [evr, nextP_norm, evd, evq, beq_self_eq_true, cond_true, cond_false, reduceIte, Nat.reduceEqDiff, Nat.reduceAdd, Int.reduceBNe, Int.reduceBEq, Int.reduceLT, Int.reduceLE, Int.reduceEq, evh, evp, Nat.reduceLeDiff, Nat.reduceSub, Nat.reduceBEq, typs] | refine kCond2_by (fun hc => ?_) (fun hc => ?_) <;> try simp only [hc] | refine kPick_by (fun hc => ?_) (fun hc => ?_) <;> try simp only [hc] | refine kWant_by (fun hc => ?_) (fun hc => ?_) <;> try simp only [hc])
      have hname : T.unname d s = (T.taken d s, 0) := by simp [Hi.unname, Hi.get, hg, hm]
      rw [hname]
      subst hd0 hn0
      have t' := t.part.take he0 hn hrow c' hy hnx hs'
      have t2 := t'.whole (t.ok.seg_taken he0 (by rw [hi0]; exact hm))
      refine ⟨rfl, F, ⟨bl, bd, bu, nb, t2⟩, Nat.le_of_eq hnx.symm, fun k _ hk => ?_, fun k hk => .inl hk⟩
      exact hs' k (fun e => hk (e ▸ t.own.2.1)) (fun e => hk (e ▸ t.own.2.2.1)) (fun e => hk (e ▸ hFn))
end
end Go.Proofs.YtncmgiddcefpcaaGreatDoor
