/- The reference's fine: whether a mark is, by the hierarchy's model. -/
import Derived.Test.YtncmgiddcefpcaaGreatDoorConJe
import Derived.Test.YtncmgiddcefpcaaGreatDoorConFe
import Derived.Test.YtncmgiddcefpcaaGreatDoorRefM2
namespace Go.Proofs.YtncmgiddcefpcaaGreatDoor
open Go Go.Ev Go.Con
set_option linter.unusedSimpArgs false
set_option linter.unusedVariables false
set_option maxRecDepth 100000
section
variable {h : Hp} {c : Nat → Nat} {T : Hi} {br : Nat} {vB vL vD : Value} {cs : List Value}
set_option maxHeartbeats 4000000 in
theorem rjfine_spec (r : RefB h c T br vB vL vD cs) (ok : T.Ok) (hL : T.L.length ≤ 1000000000) {us : List ByteArray} {vu : Value} (su : StrSl h vu us) (hu : us.length ≤ 1000000000) (m : Mk) (hac : ∀ b, T.byUID m.uid = some b → b.acl.length ≤ 1000000000) :
    Meets kon 31 [ptrV br, vu, .agg (mkC m).toArray] h fun v h' => v = .bool (jFine T us m) ∧ Keep h h' := by
  have ls := su.len
  unfold mkC ptrV
  refine Meets.mk rfl (by kernel_rfl) Tryz.func31 rfl (congrArg Array.toList Tryz.results31) ?_
  repeat' (first | simp only [evr, nextP_norm, evd, evq, beq_self_eq_true, cond_true, cond_false, reduceIte, Nat.reduceEqDiff, Nat.reduceAdd, Int.reduceBNe, Int.reduceBEq, Int.reduceLT, Int.reduceLE, Int.reduceEq, evh, evp, Nat.reduceLeDiff, Nat.reduceSub, Nat.reduceBEq, typs] | refine kCond2_by (fun hc => ?_) (fun hc => ?_) <;> try simp only [hc] | refine kPick_by (fun hc => ?_) (fun hc => ?_) <;> try simp only [hc] | refine kWant_by (fun hc => ?_) (fun hc => ?_) <;> try simp only [hc])
  generalize hh : Hp.push h _ = H
  have g3 : H.get h.next = some (.row [.int .i64 m.proc, .int .i64 m.kind, .int .i64 m.uid, .int .i64 m.off, .int .i64 m.at_, .int .i64 m.before, .int .i64 m.after] 60 (.rw 0 [])) := by rw [← hh]; exact Hp.get_push_self _ _
  have hk : Keep h H := by rw [← hh]; exact Keep.push _ _
  have hx : H.next = h.next + 1 := by rw [← hh]; rfl
  clear hh
  have q3 := rowOf_rw g3
  repeat' (first | simp only [evr, nextP_norm, evd, evq, beq_self_eq_true, cond_true, cond_false, reduceIte, Nat.reduceEqDiff, Nat.reduceAdd, Int.reduceBNe, Int.reduceBEq, Int.reduceLT, Int.reduceLE, Int.reduceEq, evh, evp, Nat.reduceLeDiff, Nat.reduceSub, Nat.reduceBEq, typs, q3] | refine kCond2_by (fun hc => ?_) (fun hc => ?_) <;> try simp only [hc] | refine kPick_by (fun hc => ?_) (fun hc => ?_) <;> try simp only [hc] | refine kWant_by (fun hc => ?_) (fun hc => ?_) <;> try simp only [hc])
  refine callP_meets (rByUID_spec (r.keeps hk) ok hL m.uid) ?_
  rintro v H1 ⟨k1, hv⟩
  have K1 := hk.trans k1
  have q3 := rowOf_rw ((k1.2 _ (by omega)).trans g3)
  have n1 := k1.1
  have ne : (h.next = H1.next) = False := by simp; omega
  unfold jFine
  cases hb : T.byUID m.uid with
  | none =>
    rw [hb] at hv
    simp only at hv
    subst hv
    rw [noBn_row]
    repeat' (first | simp only [evr, nextP_norm, evd, evq, beq_self_eq_true, cond_true, cond_false, reduceIte, Nat.reduceEqDiff, Nat.reduceAdd, Int.reduceBNe, Int.reduceBEq, Int.reduceLT, Int.reduceLE, Int.reduceEq, evh, evp, Nat.reduceLeDiff, Nat.reduceSub, Nat.reduceBEq, typs, q3] | refine kCond2_by (fun hc => ?_) (fun hc => ?_) <;> try simp only [hc] | refine kPick_by (fun hc => ?_) (fun hc => ?_) <;> try simp only [hc] | refine kWant_by (fun hc => ?_) (fun hc => ?_) <;> try simp only [hc])
    exact K1.pushed.set K1.1
  | some b =>
    rw [hb] at hv
    obtain ⟨sl, rfl, hty⟩ := hv
    unfold bnC
    have z1 := SlTy.isCell hty
    have z2 := SlTy.cellsV hty
    by_cases hp : m.proc < 0
    · have f1 : decide (m.proc < 0) = true := decide_eq_true hp
      repeat' (first | simp only [evr, nextP_norm, evd, evq, beq_self_eq_true, cond_true, cond_false, reduceIte, Nat.reduceEqDiff, Nat.reduceAdd, Int.reduceBNe, Int.reduceBEq, Int.reduceLT, Int.reduceLE, Int.reduceEq, evh, evp, Nat.reduceLeDiff, Nat.reduceSub, Nat.reduceBEq, typs, q3, z1, z2, f1, ne] | refine kCond2_by (fun hc => ?_) (fun hc => ?_) <;> try simp only [hc] | refine kPick_by (fun hc => ?_) (fun hc => ?_) <;> try simp only [hc] | refine kWant_by (fun hc => ?_) (fun hc => ?_) <;> try simp only [hc])
      first | exact K1.pushed.set K1.1 | exact ⟨by rw [if_pos hp], K1.pushed.set K1.1⟩
    · have f1 : decide (m.proc < 0) = false := decide_eq_false hp
      cases hu2 : us[m.proc.toNat]? with
      | none =>
        have : us.length ≤ m.proc.toNat := List.getElem?_eq_none_iff.1 hu2
        have f2 : decide ((us.length : Int) ≤ m.proc) = true := decide_eq_true (by omega)
        repeat' (first | simp only [evr, nextP_norm, evd, evq, beq_self_eq_true, cond_true, cond_false, reduceIte, Nat.reduceEqDiff, Nat.reduceAdd, Int.reduceBNe, Int.reduceBEq, Int.reduceLT, Int.reduceLE, Int.reduceEq, evh, evp, Nat.reduceLeDiff, Nat.reduceSub, Nat.reduceBEq, typs, q3, z1, z2, f1, f2, ls, ne] | refine kCond2_by (fun hc => ?_) (fun hc => ?_) <;> try simp only [hc] | refine kPick_by (fun hc => ?_) (fun hc => ?_) <;> try simp only [hc] | refine kWant_by (fun hc => ?_) (fun hc => ?_) <;> try simp only [hc])
        first | exact K1.pushed.set K1.1 | exact ⟨by rw [if_neg hp], K1.pushed.set K1.1⟩
      | some u =>
        have hlt : m.proc.toNat < us.length := (List.getElem?_eq_some_iff.1 hu2).1
        have f2 : decide ((us.length : Int) ≤ m.proc) = false := decide_eq_false (by omega)
        repeat' (first | simp only [evr, nextP_norm, evd, evq, beq_self_eq_true, cond_true, cond_false, reduceIte, Nat.reduceEqDiff, Nat.reduceAdd, Int.reduceBNe, Int.reduceBEq, Int.reduceLT, Int.reduceLE, Int.reduceEq, evh, evp, Nat.reduceLeDiff, Nat.reduceSub, Nat.reduceBEq, typs, q3, z1, z2, f1, f2, ls, ne] | refine kCond2_by (fun hc => ?_) (fun hc => ?_) <;> try simp only [hc] | refine kPick_by (fun hc => ?_) (fun hc => ?_) <;> try simp only [hc] | refine kWant_by (fun hc => ?_) (fun hc => ?_) <;> try simp only [hc])
        generalize hh : Hp.set _ _ _ = H2
        have gb : H2.get H1.next = some (.row [.int .i64 b.kind, .int .i64 b.uid, .int .i64 b.dir, .string b.link, .bool b.object, sl, .int .i64 b.b.r1, .int .i64 b.b.r2, .int .i64 b.b.r3, .int .i64 b.b.g] 34 (.rw 0 [])) := by rw [← hh]; exact Hp.get_set_self _ _ _
        have k2 : Keep H1 H2 := by rw [← hh]; exact (Keep.push _ _).set (Nat.le_refl _)
        have n2 : H2.next = H1.next + 1 := by rw [← hh]; rfl
        clear hh
        obtain ⟨b4, o4, all4, hia4, hr4, c4⟩ := StrSl.at2 (SlAt.keep su (K1.trans k2)) hu2
        rw [show ((m.proc.toNat : Nat) : Int) = m.proc by omega] at hia4
        have qm := rowOf_rw ((k2.2 _ (by omega)).trans ((k1.2 _ (by omega)).trans g3))
        have qb := rowOf_rw gb
        refine Wp_drawE [0, 1, 0, 0, 1, 0, 1, 4, 2, 4] (KR.mk (by kernel_rfl)) ?_
        repeat' (first | simp only [evr, nextP_norm, evd, evq, beq_self_eq_true, cond_true, cond_false, reduceIte, Nat.reduceEqDiff, Nat.reduceAdd, Int.reduceBNe, Int.reduceBEq, Int.reduceLT, Int.reduceLE, Int.reduceEq, evh, evp, Nat.reduceLeDiff, Nat.reduceSub, Nat.reduceBEq, typs, qm, qb, hia4, hr4, c4] | refine kCond2_by (fun hc => ?_) (fun hc => ?_) <;> try simp only [hc] | refine kPick_by (fun hc => ?_) (fun hc => ?_) <;> try simp only [hc] | refine kWant_by (fun hc => ?_) (fun hc => ?_) <;> try simp only [hc])
        refine callP_meets (refFind_spec (SlAt.keep hty.slAt k2) (hac b hb) u) ?_
        rintro _ H3 ⟨rfl, k3⟩
        have n3 := k3.1
        have qm := rowOf_rw ((k3.2 _ (by omega)).trans ((k2.2 _ (by omega)).trans ((k1.2 _ (by omega)).trans g3)))
        have qb := rowOf_rw ((k3.2 _ (by omega)).trans gb)
        generalize findF b.acl u = f at *
        unfold flV
        have ne2 : (h.next = H3.next) = False := by simp; omega
        repeat' (first | simp only [evr, nextP_norm, evd, evq, beq_self_eq_true, cond_true, cond_false, reduceIte, Nat.reduceEqDiff, Nat.reduceAdd, Int.reduceBNe, Int.reduceBEq, Int.reduceLT, Int.reduceLE, Int.reduceEq, evh, evp, Nat.reduceLeDiff, Nat.reduceSub, Nat.reduceBEq, typs, qm, qb, hia4, hr4, c4] | refine kCond2_by (fun hc => ?_) (fun hc => ?_) <;> try simp only [hc] | refine kPick_by (fun hc => ?_) (fun hc => ?_) <;> try simp only [hc] | refine kWant_by (fun hc => ?_) (fun hc => ?_) <;> try simp only [hc])
        generalize hh : Hp.set _ _ _ = H4
        have gf : H4.get H3.next = some (.row [.bool f.r, .bool f.w, .bool f.e] 62 (.rw 0 [])) := by rw [← hh]; exact Hp.get_set_self _ _ _
        have k4 : Keep H3 H4 := by rw [← hh]; exact (Keep.push _ _).set (Nat.le_refl _)
        have n4 : H4.next = H3.next + 1 := by rw [← hh]; rfl
        have em : (if h.next = H3.next then some [Value.bool f.r, .bool f.w, .bool f.e] else if h.next = H3.next then some [Value.bool false, .bool false, .bool false] else some [.int .i64 m.proc, .int .i64 m.kind, .int .i64 m.uid, .int .i64 m.off, .int .i64 m.at_, .int .i64 m.before, .int .i64 m.after]) =
          some [.int .i64 m.proc, .int .i64 m.kind, .int .i64 m.uid, .int .i64 m.off, .int .i64 m.at_, .int .i64 m.before, .int .i64 m.after] := by rw [if_neg (by omega), if_neg (by omega)]
        have gm4 : H4.get h.next = _ := (k4.2 _ (by omega)).trans ((k3.2 _ (by omega)).trans ((k2.2 _ (by omega)).trans ((k1.2 _ (by omega)).trans g3)))
        have gb4 : H4.get H1.next = _ := (k4.2 _ (by omega)).trans ((k3.2 _ (by omega)).trans gb)
        clear hh
        have K4 : Keep h H4 := ((K1.trans k2).trans k3).trans k4
        have qm4 := rowOf_rw gm4
        have qb4 := rowOf_rw gb4
        have qf4 := rowOf_rw gf
        have X : ∀ {fn : Nat} {vs : List Value} {P : Value → Prop} {a b c : Ob}, Meets kon fn vs H4 (fun v h' => P v ∧ h' = ((H4.push a).push b).push c) → Meets kon fn vs H4 fun v h' => P v ∧ Keep H4 h' := fun s => s.mono fun v h' hv => ⟨hv.1, by rw [hv.2]; exact ((Keep.push _ _).pushed).pushed⟩
        rw [if_neg hp]
        unfold jKind
        by_cases c1 : m.kind = 1
        · have f3 : (m.kind == 1) = true := by simp [c1]
          rcases Bool.eq_false_or_eq_true (m.at_ == m.before) with fe | fe
          · repeat' (first | simp only [evr, nextP_norm, evd, evq, beq_self_eq_true, cond_true, cond_false, reduceIte, Nat.reduceEqDiff, Nat.reduceAdd, Int.reduceBNe, Int.reduceBEq, Int.reduceLT, Int.reduceLE, Int.reduceEq, evh, evp, Nat.reduceLeDiff, Nat.reduceSub, Nat.reduceBEq, typs, em, ne2, qm4, qb4, qf4, f3, fe] | refine kCond2_by (fun hc => ?_) (fun hc => ?_) <;> try simp only [hc] | refine kPick_by (fun hc => ?_) (fun hc => ?_) <;> try simp only [hc] | refine kWant_by (fun hc => ?_) (fun hc => ?_) <;> try simp only [hc])
            refine callP_meets (X (P := fun v => v = .int .i64 (doE 1 b.b f m.at_)) (rDoX 1 b.b f m.at_ H4)) ?_
            rintro _ H5 ⟨rfl, k5⟩
            repeat' (first | simp only [evr, nextP_norm, evd, evq, beq_self_eq_true, cond_true, cond_false, reduceIte, Nat.reduceEqDiff, Nat.reduceAdd, Int.reduceBNe, Int.reduceBEq, Int.reduceLT, Int.reduceLE, Int.reduceEq, evh, evp, Nat.reduceLeDiff, Nat.reduceSub, Nat.reduceBEq, typs] | refine kCond2_by (fun hc => ?_) (fun hc => ?_) <;> try simp only [hc] | refine kPick_by (fun hc => ?_) (fun hc => ?_) <;> try simp only [hc] | refine kWant_by (fun hc => ?_) (fun hc => ?_) <;> try simp only [hc])
            exact ⟨by rw [if_pos c1] <;> rfl, K4.trans k5⟩
          · repeat' (first | simp only [evr, nextP_norm, evd, evq, beq_self_eq_true, cond_true, cond_false, reduceIte, Nat.reduceEqDiff, Nat.reduceAdd, Int.reduceBNe, Int.reduceBEq, Int.reduceLT, Int.reduceLE, Int.reduceEq, evh, evp, Nat.reduceLeDiff, Nat.reduceSub, Nat.reduceBEq, typs, em, ne2, qm4, qb4, qf4, f3, fe] | refine kCond2_by (fun hc => ?_) (fun hc => ?_) <;> try simp only [hc] | refine kPick_by (fun hc => ?_) (fun hc => ?_) <;> try simp only [hc] | refine kWant_by (fun hc => ?_) (fun hc => ?_) <;> try simp only [hc])
            exact ⟨by rw [if_pos c1, Bool.and_false] <;> rfl, K4⟩
        have f3 : (m.kind == 1) = false := by simp [c1]
        rw [if_neg c1]
        by_cases c2 : m.kind = 2
        · have f4 : (m.kind == 2) = true := by simp [c2]
          repeat' (first | simp only [evr, nextP_norm, evd, evq, beq_self_eq_true, cond_true, cond_false, reduceIte, Nat.reduceEqDiff, Nat.reduceAdd, Int.reduceBNe, Int.reduceBEq, Int.reduceLT, Int.reduceLE, Int.reduceEq, evh, evp, Nat.reduceLeDiff, Nat.reduceSub, Nat.reduceBEq, typs, em, ne2, qm4, qb4, qf4, f3, f4] | refine kCond2_by (fun hc => ?_) (fun hc => ?_) <;> try simp only [hc] | refine kPick_by (fun hc => ?_) (fun hc => ?_) <;> try simp only [hc] | refine kWant_by (fun hc => ?_) (fun hc => ?_) <;> try simp only [hc])
          refine callP_meets (X (P := fun v => v = .int .i64 (doE 2 b.b f m.at_)) (rDoX 2 b.b f m.at_ H4)) ?_
          rintro _ H5 ⟨rfl, k5⟩
          repeat' (first | simp only [evr, nextP_norm, evd, evq, beq_self_eq_true, cond_true, cond_false, reduceIte, Nat.reduceEqDiff, Nat.reduceAdd, Int.reduceBNe, Int.reduceBEq, Int.reduceLT, Int.reduceLE, Int.reduceEq, evh, evp, Nat.reduceLeDiff, Nat.reduceSub, Nat.reduceBEq, typs] | refine kCond2_by (fun hc => ?_) (fun hc => ?_) <;> try simp only [hc] | refine kPick_by (fun hc => ?_) (fun hc => ?_) <;> try simp only [hc] | refine kWant_by (fun hc => ?_) (fun hc => ?_) <;> try simp only [hc])
          exact ⟨by rw [if_pos c2] <;> rfl, K4.trans k5⟩
        have f4 : (m.kind == 2) = false := by simp [c2]
        rw [if_neg c2]
        by_cases c3 : m.kind = 3
        · have f5 : (m.kind == 3) = true := by simp [c3]
          rcases Bool.eq_false_or_eq_true b.object with fe | fe
          · repeat' (first | simp only [evr, nextP_norm, evd, evq, beq_self_eq_true, cond_true, cond_false, reduceIte, Nat.reduceEqDiff, Nat.reduceAdd, Int.reduceBNe, Int.reduceBEq, Int.reduceLT, Int.reduceLE, Int.reduceEq, evh, evp, Nat.reduceLeDiff, Nat.reduceSub, Nat.reduceBEq, typs, em, ne2, qm4, qb4, qf4, f3, f4, f5, fe] | refine kCond2_by (fun hc => ?_) (fun hc => ?_) <;> try simp only [hc] | refine kPick_by (fun hc => ?_) (fun hc => ?_) <;> try simp only [hc] | refine kWant_by (fun hc => ?_) (fun hc => ?_) <;> try simp only [hc])
            exact ⟨by rw [if_pos c3, Bool.and_false], K4⟩
          · repeat' (first | simp only [evr, nextP_norm, evd, evq, beq_self_eq_true, cond_true, cond_false, reduceIte, Nat.reduceEqDiff, Nat.reduceAdd, Int.reduceBNe, Int.reduceBEq, Int.reduceLT, Int.reduceLE, Int.reduceEq, evh, evp, Nat.reduceLeDiff, Nat.reduceSub, Nat.reduceBEq, typs, em, ne2, qm4, qb4, qf4, f3, f4, f5, fe] | refine kCond2_by (fun hc => ?_) (fun hc => ?_) <;> try simp only [hc] | refine kPick_by (fun hc => ?_) (fun hc => ?_) <;> try simp only [hc] | refine kWant_by (fun hc => ?_) (fun hc => ?_) <;> try simp only [hc])
            refine callP_meets (X (P := fun v => v = .int .i64 (doE 3 b.b f m.at_)) (rDoX 3 b.b f m.at_ H4)) ?_
            rintro _ H5 ⟨rfl, k5⟩
            repeat' (first | simp only [evr, nextP_norm, evd, evq, beq_self_eq_true, cond_true, cond_false, reduceIte, Nat.reduceEqDiff, Nat.reduceAdd, Int.reduceBNe, Int.reduceBEq, Int.reduceLT, Int.reduceLE, Int.reduceEq, evh, evp, Nat.reduceLeDiff, Nat.reduceSub, Nat.reduceBEq, typs] | refine kCond2_by (fun hc => ?_) (fun hc => ?_) <;> try simp only [hc] | refine kPick_by (fun hc => ?_) (fun hc => ?_) <;> try simp only [hc] | refine kWant_by (fun hc => ?_) (fun hc => ?_) <;> try simp only [hc])
            exact ⟨by rw [if_pos c3] <;> rfl, K4.trans k5⟩
        have f5 : (m.kind == 3) = false := by simp [c3]
        rw [if_neg c3]
        by_cases c4' : m.kind = 4
        · have f6 : (m.kind == 4) = true := by simp [c4']
          repeat' (first | simp only [evr, nextP_norm, evd, evq, beq_self_eq_true, cond_true, cond_false, reduceIte, Nat.reduceEqDiff, Nat.reduceAdd, Int.reduceBNe, Int.reduceBEq, Int.reduceLT, Int.reduceLE, Int.reduceEq, evh, evp, Nat.reduceLeDiff, Nat.reduceSub, Nat.reduceBEq, typs, em, ne2, qm4, qb4, qf4, f3, f4, f5, f6] | refine kCond2_by (fun hc => ?_) (fun hc => ?_) <;> try simp only [hc] | refine kPick_by (fun hc => ?_) (fun hc => ?_) <;> try simp only [hc] | refine kWant_by (fun hc => ?_) (fun hc => ?_) <;> try simp only [hc])
          refine callP_meets (X (P := fun v => v = .tuple #[.int .i64 (callE b.b f m.at_ m.off).1, .int .i64 (callE b.b f m.at_ m.off).2]) (rCallX b.b f m.at_ m.off H4)) ?_
          rintro _ H5 ⟨rfl, k5⟩
          have qm5 := rowOf_rw ((k5.2 _ (by omega)).trans gm4)
          rcases Bool.eq_false_or_eq_true ((callE b.b f m.at_ m.off).2 == 0) with fe | fe
          · repeat' (first | simp only [evr, nextP_norm, evd, evq, beq_self_eq_true, cond_true, cond_false, reduceIte, Nat.reduceEqDiff, Nat.reduceAdd, Int.reduceBNe, Int.reduceBEq, Int.reduceLT, Int.reduceLE, Int.reduceEq, evh, evp, Nat.reduceLeDiff, Nat.reduceSub, Nat.reduceBEq, typs, qm5, fe] | refine kCond2_by (fun hc => ?_) (fun hc => ?_) <;> try simp only [hc] | refine kPick_by (fun hc => ?_) (fun hc => ?_) <;> try simp only [hc] | refine kWant_by (fun hc => ?_) (fun hc => ?_) <;> try simp only [hc])
            exact ⟨by rw [if_pos c4'] <;> rfl, K4.trans k5⟩
          · repeat' (first | simp only [evr, nextP_norm, evd, evq, beq_self_eq_true, cond_true, cond_false, reduceIte, Nat.reduceEqDiff, Nat.reduceAdd, Int.reduceBNe, Int.reduceBEq, Int.reduceLT, Int.reduceLE, Int.reduceEq, evh, evp, Nat.reduceLeDiff, Nat.reduceSub, Nat.reduceBEq, typs, qm5, fe] | refine kCond2_by (fun hc => ?_) (fun hc => ?_) <;> try simp only [hc] | refine kPick_by (fun hc => ?_) (fun hc => ?_) <;> try simp only [hc] | refine kWant_by (fun hc => ?_) (fun hc => ?_) <;> try simp only [hc])
            exact ⟨by rw [if_pos c4'] <;> rfl, K4.trans k5⟩
        have f6 : (m.kind == 4) = false := by simp [c4']
        rw [if_neg c4']
        by_cases c5 : m.kind = 5
        · have f7 : (m.kind == 5) = true := by simp [c5]
          rcases Bool.eq_false_or_eq_true (decide (m.before ≤ m.after)) with fb | fb
          · repeat' (first | simp only [evr, nextP_norm, evd, evq, beq_self_eq_true, cond_true, cond_false, reduceIte, Nat.reduceEqDiff, Nat.reduceAdd, Int.reduceBNe, Int.reduceBEq, Int.reduceLT, Int.reduceLE, Int.reduceEq, evh, evp, Nat.reduceLeDiff, Nat.reduceSub, Nat.reduceBEq, typs, em, ne2, qm4, qb4, qf4, f3, f4, f5, f6, f7, fb] | refine kCond2_by (fun hc => ?_) (fun hc => ?_) <;> try simp only [hc] | refine kPick_by (fun hc => ?_) (fun hc => ?_) <;> try simp only [hc] | refine kWant_by (fun hc => ?_) (fun hc => ?_) <;> try simp only [hc])
            refine callP_meets (X (P := fun v => v = .int .i64 (doE 1 b.b f m.after)) (rDoX 1 b.b f m.after H4)) ?_
            rintro _ H5 ⟨rfl, k5⟩
            repeat' (first | simp only [evr, nextP_norm, evd, evq, beq_self_eq_true, cond_true, cond_false, reduceIte, Nat.reduceEqDiff, Nat.reduceAdd, Int.reduceBNe, Int.reduceBEq, Int.reduceLT, Int.reduceLE, Int.reduceEq, evh, evp, Nat.reduceLeDiff, Nat.reduceSub, Nat.reduceBEq, typs] | refine kCond2_by (fun hc => ?_) (fun hc => ?_) <;> try simp only [hc] | refine kPick_by (fun hc => ?_) (fun hc => ?_) <;> try simp only [hc] | refine kWant_by (fun hc => ?_) (fun hc => ?_) <;> try simp only [hc])
            exact ⟨by rw [if_pos c5] <;> rfl, K4.trans k5⟩
          · repeat' (first | simp only [evr, nextP_norm, evd, evq, beq_self_eq_true, cond_true, cond_false, reduceIte, Nat.reduceEqDiff, Nat.reduceAdd, Int.reduceBNe, Int.reduceBEq, Int.reduceLT, Int.reduceLE, Int.reduceEq, evh, evp, Nat.reduceLeDiff, Nat.reduceSub, Nat.reduceBEq, typs, em, ne2, qm4, qb4, qf4, f3, f4, f5, f6, f7, fb] | refine kCond2_by (fun hc => ?_) (fun hc => ?_) <;> try simp only [hc] | refine kPick_by (fun hc => ?_) (fun hc => ?_) <;> try simp only [hc] | refine kWant_by (fun hc => ?_) (fun hc => ?_) <;> try simp only [hc])
            exact ⟨by rw [if_pos c5] <;> rfl, K4⟩
        have f7 : (m.kind == 5) = false := by simp [c5]
        repeat' (first | simp only [evr, nextP_norm, evd, evq, beq_self_eq_true, cond_true, cond_false, reduceIte, Nat.reduceEqDiff, Nat.reduceAdd, Int.reduceBNe, Int.reduceBEq, Int.reduceLT, Int.reduceLE, Int.reduceEq, evh, evp, Nat.reduceLeDiff, Nat.reduceSub, Nat.reduceBEq, typs, em, ne2, qm4, qb4, qf4, f3, f4, f5, f6, f7] | refine kCond2_by (fun hc => ?_) (fun hc => ?_) <;> try simp only [hc] | refine kPick_by (fun hc => ?_) (fun hc => ?_) <;> try simp only [hc] | refine kWant_by (fun hc => ?_) (fun hc => ?_) <;> try simp only [hc])
        exact ⟨by rw [if_neg c5], K4⟩
end
end Go.Proofs.YtncmgiddcefpcaaGreatDoor
