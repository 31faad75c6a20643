/- JudgeNow: the walk: true at any mark, flags and brackets. -/
import Derived.Test.YtncmgiddcefpcaaGreatDoorConJn
namespace Go.Proofs.YtncmgiddcefpcaaGreatDoor
open Go Go.Ev Go.Con
set_option linter.unusedSimpArgs false
set_option linter.unusedVariables false
set_option maxRecDepth 100000
theorem tm_newJ {h : Hp} {b : Nat} {t : Tm} (hb : b < h.next) (hg : h.get b = some (.row (tmC t) 65 (.rw 0 []))) : TmSl h (.slice (some ⟨b, 0, none⟩) 1 2) [t] :=
  .inr ⟨b, 0, 1, 2, tmC t, rfl, by decide, hb, rowOf_rw hg, rfl, rfl⟩
theorem mk_newJ {h : Hp} {b : Nat} {t : Mk} (hb : b < h.next) (hg : h.get b = some (.row (mkC t) 60 (.rw 0 []))) : MkSl h (.slice (some ⟨b, 0, none⟩) 1 2) [t] :=
  .inr ⟨b, 0, 1, 2, mkC t, rfl, by decide, hb, rowOf_rw hg, rfl, rfl⟩
theorem us_newJ {h : Hp} {b : Nat} {s : ByteArray} (hb : b < h.next) (hg : h.get b = some (.row [.string s] 9 (.rw 0 []))) : StrSl h (.slice (some ⟨b, 0, none⟩) 1 2) [s] :=
  .inr ⟨b, 0, 1, 2, [.string s], rfl, by decide, hb, rowOf_rw hg, rfl, rfl⟩
theorem TreeAt.hac {h : Hp} {F : Nat → Prop} {T : Hi} {bt : Nat} (t : TreeAt h F T bt) (u : Int) (b : Bn) (hb : T.byUID u = some b) : b.acl.length ≤ 1000000000 := by
  obtain ⟨_, _, _, _, t⟩ := t
  unfold Hi.byUID at hb
  obtain ⟨i, _, rfl⟩ := Option.map_eq_some_iff.1 hb
  exact t.acl i
theorem rjf {h : Hp} {G : Nat → Prop} {R : Hi} {br : Nat} (r : RefAt h G R br) (hL : R.L.length ≤ 1000000000) {us : List ByteArray} {vu : Value} (su : StrSl h vu us) (hu : us.length ≤ 1000000000) (m : Mk) :
    Meets kon 31 [ptrV br, vu, .agg (mkC m).toArray] h fun v h' => v = .bool (jFine R us m) ∧ Keep h h' := by
  obtain ⟨c, vB, vL, vD, cs, hF, r, ok, ha⟩ := r
  exact rjfine_spec r ok hL su hu m fun b hb => by
    unfold Hi.byUID at hb
    obtain ⟨i, _, rfl⟩ := Option.map_eq_some_iff.1 hb
    exact ha i
set_option maxHeartbeats 4000000 in
theorem jn_meets (m0 : Mk) (f : Fl) (b : Bk) (h : Hp) : Meets kon 6 [.agg #[.int .i64 m0.proc, .int .i64 m0.kind, .int .i64 m0.uid, .int .i64 m0.off, .int .i64 m0.at_, .int .i64 m0.before, .int .i64 m0.after], .agg #[.bool f.r, .bool f.w, .bool f.e], .agg #[.int .i64 b.r1, .int .i64 b.r2, .int .i64 b.r3, .int .i64 b.g]] h fun v _ => v = .bool true := by
  have aw := fun h Q => awake_call (f := 27) rfl h Q
  have ep : ∀ n : Nat, (some (⟨n, 0, none⟩ : Addr) == none) = false := fun n => rfl
  refine Meets.mk rfl (by kernel_rfl) Tryz.func6 rfl (congrArg Array.toList Tryz.results6) ?_
  repeat' (first | simp only [evr, nextP_norm, evd, evq, beq_self_eq_true, cond_true, cond_false, reduceIte, Nat.reduceEqDiff, Nat.reduceAdd, Int.reduceBNe, Int.reduceBEq, Int.reduceLT, Int.reduceLE, Int.reduceEq, evh, evp, Nat.reduceLeDiff, Nat.reduceSub, Nat.reduceBEq, typs, aw] | refine kCond2_by (fun hc => ?_) (fun hc => ?_) <;> try simp only [hc] | refine kPick_by (fun hc => ?_) (fun hc => ?_) <;> try simp only [hc] | refine kWant_by (fun hc => ?_) (fun hc => ?_) <;> try simp only [hc])
  generalize hh : Hp.push _ _ = h0
  have gm : h0.get h.next = some (.row (mkC m0) 60 (.rw 0 [])) := by rw [← hh, Hp.get_push_lt (show h.next < ((h.push _).push _).next from Nat.lt_succ_of_lt (Nat.lt_succ_self _)), Hp.get_push_lt (Nat.lt_succ_self _)]; exact Hp.get_push_self _ _
  have gf : h0.get (h.next + 1) = some (obF f) := by rw [← hh, Hp.get_push_lt (Nat.lt_succ_self _)]; exact Hp.get_push_self (h.push _) _
  have gb : h0.get (h.next + 2) = some (obB b) := by rw [← hh]; exact Hp.get_push_self ((h.push _).push _) _
  have n0 : h0.next = h.next + 3 := by rw [← hh]; rfl
  clear hh
  refine callP_meets (tNew_spec h0) ?_
  rintro _ h1 ⟨F, bt, rfl, k1, t1, fF⟩
  unfold ptrV
  have qb := rowOf_rw ((k1.2 _ (by omega)).trans gb)
  have hm := (refRingMayX b h1).call
  cases hb : bkMay b with
  | false =>
    rw [hb] at hm
    repeat' (first | simp only [evr, nextP_norm, evd, evq, beq_self_eq_true, cond_true, cond_false, reduceIte, Nat.reduceEqDiff, Nat.reduceAdd, Int.reduceBNe, Int.reduceBEq, Int.reduceLT, Int.reduceLE, Int.reduceEq, evh, evp, Nat.reduceLeDiff, Nat.reduceSub, Nat.reduceBEq, typs, qb, hm] | refine kCond2_by (fun hc => ?_) (fun hc => ?_) <;> try simp only [hc] | refine kPick_by (fun hc => ?_) (fun hc => ?_) <;> try simp only [hc] | refine kWant_by (fun hc => ?_) (fun hc => ?_) <;> try simp only [hc])
  | true =>
    rw [hb] at hm
    have gm1 := (k1.2 _ (by omega)).trans gm
    unfold mkC at gm1
    have qm := rowOf_rw gm1
    have n1 := k1.1
    unfold obB at hm
    have d1 : (h.next = h1.next) = False := eq_false (by omega)
    have d2 : (h.next = h1.next + 1) = False := eq_false (by omega)
    have d3 : (h1.next + 1 = h.next) = False := eq_false (by omega)
    repeat' (first | simp only [evr, nextP_norm, evd, evq, beq_self_eq_true, cond_true, cond_false, reduceIte, Nat.reduceEqDiff, Nat.reduceAdd, Int.reduceBNe, Int.reduceBEq, Int.reduceLT, Int.reduceLE, Int.reduceEq, evh, evp, Nat.reduceLeDiff, Nat.reduceSub, Nat.reduceBEq, typs, qb, hm, qm, gm1, d1, d2, d3, if_false] | refine kCond2_by (fun hc => ?_) (fun hc => ?_) <;> try simp only [hc] | refine kPick_by (fun hc => ?_) (fun hc => ?_) <;> try simp only [hc] | refine kWant_by (fun hc => ?_) (fun hc => ?_) <;> try simp only [hc])
    generalize hh : Hp.push (Hp.set _ _ _) _ = H2
    have m2 : H2.next = h1.next + 3 := by rw [← hh]; rfl
    have s2 : ∀ k, k < h1.next → k ≠ h.next → H2.get k = h1.get k := fun k hk hne => by
      rw [← hh, Hp.get_push_lt (by simp only [Hp.next_set, Hp.next_push]; omega), Hp.get_set_ne hne, Hp.get_set_ne hne, Hp.get_set_ne (by omega), Hp.get_push_lt (by simp only [Hp.next_push]; omega), Hp.get_push_lt hk]
    have gm2 : H2.get h.next = some (.row [.int .i64 0, .int .i64 m0.kind, .int .i64 1, .int .i64 m0.off, .int .i64 m0.at_, .int .i64 m0.before, .int .i64 m0.after] 60 (.rw 0 [])) := by
      rw [← hh, Hp.get_push_lt (by simp only [Hp.next_set, Hp.next_push]; omega)]; exact Hp.get_set_self _ _ _
    have ga2 : H2.get (h1.next + 1) = some (.row [.bool true, .bool true, .bool true] 62 (.rw 0 [])) := by
      rw [← hh, Hp.get_push_lt (by simp only [Hp.next_set, Hp.next_push]; omega), Hp.get_set_ne (by omega), Hp.get_set_ne (by omega)]; exact Hp.get_set_self _ _ _
    have gt2 : H2.get (h1.next + 2) = some (.row (tmC ⟨nmU, ⟨true, true, true⟩⟩) 65 (.rw 0 [])) := by
      rw [← hh]; exact Hp.get_push_self (((Hp.push _ _).set _ _).set _ _ |>.set _ _) _
    clear hh
    have t2 := t1.keep (h' := H2) (by omega) fun k hk => s2 k (t1.ltF' hk) (by have := fF k hk; omega)
    refine callP_meets (tAdd_spec t2 (by decide) (by decide) (b := jb ⟨true, true, true⟩ ⟨0, 7, 7, 0⟩) (tm_newJ (by omega) gt2) (by decide) 0 nmA) ?_
    rintro _ h3 ⟨rfl, F', t3, u3⟩
    rw [jn_add] at t3 ⊢
    have m3 := u3.next
    have o3 : ∀ k, k < H2.next → (k < h0.next ∨ h1.next ≤ k) → h3.get k = H2.get k := fun k hk ho => u3.same k hk fun hf => by have := fF k hf; have := t1.ltF' hf; omega
    have gm3 := (o3 _ (by omega) (.inl (by omega))).trans gm2
    have qm3 := rowOf_rw gm3
    have d4 : (h.next = h3.next) = False := eq_false (by omega)
    repeat' (first | simp only [evr, nextP_norm, evd, evq, beq_self_eq_true, cond_true, cond_false, reduceIte, Nat.reduceEqDiff, Nat.reduceAdd, Int.reduceBNe, Int.reduceBEq, Int.reduceLT, Int.reduceLE, Int.reduceEq, evh, evp, Nat.reduceLeDiff, Nat.reduceSub, Nat.reduceBEq, typs, qm3, d4] | refine kCond2_by (fun hc => ?_) (fun hc => ?_) <;> try simp only [hc] | refine kPick_by (fun hc => ?_) (fun hc => ?_) <;> try simp only [hc] | refine kWant_by (fun hc => ?_) (fun hc => ?_) <;> try simp only [hc])
    generalize hh : Hp.push (Hp.push h3 _) _ = H4
    have k4 : Keep h3 H4 := by rw [← hh]; exact (Keep.push _ _).pushed
    have m4 : H4.next = h3.next + 2 := by rw [← hh]; rfl
    have gu4 : H4.get h3.next = some (.row [.string nmU] 9 (.rw 0 [])) := by rw [← hh, Hp.get_push_lt (Nat.lt_succ_self _)]; exact Hp.get_push_self _ _
    have gk4 : H4.get (h3.next + 1) = some (.row (mkC ⟨0, m0.kind, 1, m0.off, m0.at_, m0.before, m0.after⟩) 60 (.rw 0 [])) := by rw [← hh]; exact Hp.get_push_self (h3.push _) _
    clear hh
    have t4 := t3.keeps k4
    refine callP_meets (jFine_spec t4 (us_newJ (by omega) gu4) (by decide) (TreeAt.hac t4) (mk_newJ (by omega) gk4) (by simp)) ?_
    rintro _ h5 ⟨rfl, k5⟩
    rw [fine_one]
    generalize hm1 : (⟨0, m0.kind, 1, m0.off, m0.at_, m0.before, m0.after⟩ : Mk) = m1 at *
    repeat' (first | simp only [evr, nextP_norm, evd, evq, beq_self_eq_true, cond_true, cond_false, reduceIte, Nat.reduceEqDiff, Nat.reduceAdd, Int.reduceBNe, Int.reduceBEq, Int.reduceLT, Int.reduceLE, Int.reduceEq, evh, evp, Nat.reduceLeDiff, Nat.reduceSub, Nat.reduceBEq, typs] | refine kCond2_by (fun hc => ?_) (fun hc => ?_) <;> try simp only [hc] | refine kPick_by (fun hc => ?_) (fun hc => ?_) <;> try simp only [hc] | refine kWant_by (fun hc => ?_) (fun hc => ?_) <;> try simp only [hc])
    refine callP_meets (rNew_spec h5) ?_
    rintro _ h6 ⟨G, br, rfl, k6, r6, fG⟩
    have m5 := k5.1
    have m6 := k6.1
    have K36 : Keep h3 h6 := (k4.trans k5).trans k6
    have x6 : Two h6 (fun k => k < h0.next ∨ k = h1.next + 1) F' G _ _ bt br := ⟨(t4.keeps k5).keeps k6, r6, fun k hf hg => by have := (t4.keeps k5).ltF' hf; have := fG k hg; omega, fun k hk => ⟨fun hf => by
      rcases u3.own k hf with h9 | h9
      · have := fF k h9; have := t1.ltF' h9; omega
      · omega, fun hg => by have := fG k hg; omega, by omega⟩⟩
    have gm6 := (K36.2 _ (by omega)).trans gm3
    have gf6 := (K36.2 _ (by omega)).trans ((o3 _ (by omega) (.inl (by omega))).trans ((s2 _ (by omega) (by omega)).trans ((k1.2 _ (by omega)).trans gf)))
    have gb6 := (K36.2 _ (by omega)).trans ((o3 _ (by omega) (.inl (by omega))).trans ((s2 _ (by omega) (by omega)).trans ((k1.2 _ (by omega)).trans gb)))
    have ga6 := (K36.2 _ (by omega)).trans ((o3 _ (by omega) (.inr (by omega))).trans ga2)
    have qa6 := rowOf_rw ga6
    repeat' (first | simp only [evr, nextP_norm, evd, evq, beq_self_eq_true, cond_true, cond_false, reduceIte, Nat.reduceEqDiff, Nat.reduceAdd, Int.reduceBNe, Int.reduceBEq, Int.reduceLT, Int.reduceLE, Int.reduceEq, evh, evp, Nat.reduceLeDiff, Nat.reduceSub, Nat.reduceBEq, typs, qa6] | refine kCond2_by (fun hc => ?_) (fun hc => ?_) <;> try simp only [hc] | refine kPick_by (fun hc => ?_) (fun hc => ?_) <;> try simp only [hc] | refine kWant_by (fun hc => ?_) (fun hc => ?_) <;> try simp only [hc])
    generalize hh : Hp.push h6 _ = h7
    have k7 : Keep h6 h7 := by rw [← hh]; exact Keep.push _ _
    have gt7 : h7.get h6.next = some (.row (tmC ⟨nmU, ⟨true, true, true⟩⟩) 65 (.rw 0 [])) := by rw [← hh]; exact Hp.get_push_self _ _
    have m7 : h7.next = h6.next + 1 := by rw [← hh]; rfl
    clear hh
    have x7 := x6.keeps k7
    refine callP_meets (rAdd_spec x7.r (by decide) (by decide) (b := jb ⟨true, true, true⟩ ⟨0, 7, 7, 0⟩) (tm_newJ (by omega) gt7) (by decide) 0 nmA) ?_
    rintro _ h8 ⟨rfl, G', r8, u8⟩
    rw [jn_add] at r8 ⊢
    obtain ⟨x8, o8⟩ := x7.ref u8 r8
    have m8 := u8.next
    have K67 := fun k (hk : k < h0.next ∨ k = h1.next + 1) => (o8 k hk).trans (k7.2 k (x6.p k hk).2.2)
    have gm8 := (K67 _ (.inl (by omega))).trans gm6
    have gf8 := (K67 _ (.inl (by omega))).trans gf6
    have gb8 := (K67 _ (.inl (by omega))).trans gb6
    have qm8 := rowOf_rw gm8
    have d8 : (h.next = h8.next) = False := eq_false (by omega)
    repeat' (first | simp only [evr, nextP_norm, evd, evq, beq_self_eq_true, cond_true, cond_false, reduceIte, Nat.reduceEqDiff, Nat.reduceAdd, Int.reduceBNe, Int.reduceBEq, Int.reduceLT, Int.reduceLE, Int.reduceEq, evh, evp, Nat.reduceLeDiff, Nat.reduceSub, Nat.reduceBEq, typs, qm8, d8] | refine kCond2_by (fun hc => ?_) (fun hc => ?_) <;> try simp only [hc] | refine kPick_by (fun hc => ?_) (fun hc => ?_) <;> try simp only [hc] | refine kWant_by (fun hc => ?_) (fun hc => ?_) <;> try simp only [hc])
    generalize hh : Hp.push h8 _ = h9
    have k9 : Keep h8 h9 := by rw [← hh]; exact Keep.push _ _
    have gu9 : h9.get h8.next = some (.row [.string nmU] 9 (.rw 0 [])) := by rw [← hh]; exact Hp.get_push_self _ _
    have m9 : h9.next = h8.next + 1 := by rw [← hh]; rfl
    clear hh
    have x9 := x8.keeps k9
    refine callP_meets (rjf x9.r (by decide) (us_newJ (by omega) gu9) (by decide) ⟨0, m0.kind, 1, m0.off, m0.at_, m0.before, m0.after⟩) ?_
    rintro _ h10 ⟨rfl, k10⟩
    rw [hm1]
    have x10 := x9.keeps k10
    have m10 := k10.1
    have K8 := k9.trans k10
    have gm10 := (K8.2 _ (by omega)).trans gm8
    have gf10 := (K8.2 _ (by omega)).trans gf8
    have gb10 := (K8.2 _ (by omega)).trans gb8
    unfold obF at gf10
    unfold obB at gb10
    have qf10 := rowOf_rw gf10
    repeat' (first | simp only [evr, nextP_norm, evd, evq, beq_self_eq_true, cond_true, cond_false, reduceIte, Nat.reduceEqDiff, Nat.reduceAdd, Int.reduceBNe, Int.reduceBEq, Int.reduceLT, Int.reduceLE, Int.reduceEq, evh, evp, Nat.reduceLeDiff, Nat.reduceSub, Nat.reduceBEq, typs, qf10] | refine kCond2_by (fun hc => ?_) (fun hc => ?_) <;> try simp only [hc] | refine kPick_by (fun hc => ?_) (fun hc => ?_) <;> try simp only [hc] | refine kWant_by (fun hc => ?_) (fun hc => ?_) <;> try simp only [hc])
    generalize hh : Hp.push h10 _ = h11
    have k11 : Keep h10 h11 := by rw [← hh]; exact Keep.push _ _
    have gt11 : h11.get h10.next = some (.row (tmC ⟨nmU, f⟩) 65 (.rw 0 [])) := by rw [← hh]; exact Hp.get_push_self _ _
    have m11 : h11.next = h10.next + 1 := by rw [← hh]; rfl
    clear hh
    have x11 := x10.keeps k11
    refine callP_meets (tAccess_spec x11.t 0 nmA (tm_newJ (by omega) gt11) (show 1 ≤ 1000000000 by decide)) ?_
    rintro _ h12 ⟨rfl, F12, t12, u12⟩
    rw [jn_access] at t12 ⊢
    obtain ⟨x12, o12⟩ := x11.tree u12 t12
    have m12 := u12.next
    have gb12 := (o12 _ (.inl (by omega))).trans ((k11.2 _ (by omega)).trans gb10)
    have gf12 := (o12 _ (.inl (by omega))).trans ((k11.2 _ (by omega)).trans gf10)
    have gm12 := (o12 _ (.inl (by omega))).trans ((k11.2 _ (by omega)).trans gm10)
    have qb12 := rowOf_rw gb12
    repeat' (first | simp only [evr, nextP_norm, evd, evq, beq_self_eq_true, cond_true, cond_false, reduceIte, Nat.reduceEqDiff, Nat.reduceAdd, Int.reduceBNe, Int.reduceBEq, Int.reduceLT, Int.reduceLE, Int.reduceEq, evh, evp, Nat.reduceLeDiff, Nat.reduceSub, Nat.reduceBEq, typs, qb12] | refine kCond2_by (fun hc => ?_) (fun hc => ?_) <;> try simp only [hc] | refine kPick_by (fun hc => ?_) (fun hc => ?_) <;> try simp only [hc] | refine kWant_by (fun hc => ?_) (fun hc => ?_) <;> try simp only [hc])
    refine callP_meets (tRinged_spec x12.t 0 nmA b) ?_
    rintro _ h13 ⟨rfl, F13, t13, u13⟩
    rw [jn_ringed _ _ _ hb] at t13 ⊢
    obtain ⟨x13, o13⟩ := x12.tree u13 t13
    have m13 := u13.next
    have gb13 := (o13 _ (.inl (by omega))).trans gb12
    have gf13 := (o13 _ (.inl (by omega))).trans gf12
    have gm13 := (o13 _ (.inl (by omega))).trans gm12
    have qf13 := rowOf_rw gf13
    repeat' (first | simp only [evr, nextP_norm, evd, evq, beq_self_eq_true, cond_true, cond_false, reduceIte, Nat.reduceEqDiff, Nat.reduceAdd, Int.reduceBNe, Int.reduceBEq, Int.reduceLT, Int.reduceLE, Int.reduceEq, evh, evp, Nat.reduceLeDiff, Nat.reduceSub, Nat.reduceBEq, typs, qf13] | refine kCond2_by (fun hc => ?_) (fun hc => ?_) <;> try simp only [hc] | refine kPick_by (fun hc => ?_) (fun hc => ?_) <;> try simp only [hc] | refine kWant_by (fun hc => ?_) (fun hc => ?_) <;> try simp only [hc])
    generalize hh : Hp.push h13 _ = h14
    have k14 : Keep h13 h14 := by rw [← hh]; exact Keep.push _ _
    have gt14 : h14.get h13.next = some (.row (tmC ⟨nmU, f⟩) 65 (.rw 0 [])) := by rw [← hh]; exact Hp.get_push_self _ _
    have m14 : h14.next = h13.next + 1 := by rw [← hh]; rfl
    clear hh
    have x14 := x13.keeps k14
    refine callP_meets (rAccess_spec x14.r (show 1 ≤ 1000000000 by decide) (tm_newJ (by omega) gt14) (show 1 ≤ 1000000000 by decide) 0 nmA) ?_
    rintro _ h15 ⟨rfl, G15, r15, u15⟩
    rw [jn_access] at r15 ⊢
    obtain ⟨x15, o15⟩ := x14.ref u15 r15
    have m15 := u15.next
    have gb15 := (o15 _ (.inl (by omega))).trans ((k14.2 _ (by omega)).trans gb13)
    have gm15 := (o15 _ (.inl (by omega))).trans ((k14.2 _ (by omega)).trans gm13)
    have qb15 := rowOf_rw gb15
    repeat' (first | simp only [evr, nextP_norm, evd, evq, beq_self_eq_true, cond_true, cond_false, reduceIte, Nat.reduceEqDiff, Nat.reduceAdd, Int.reduceBNe, Int.reduceBEq, Int.reduceLT, Int.reduceLE, Int.reduceEq, evh, evp, Nat.reduceLeDiff, Nat.reduceSub, Nat.reduceBEq, typs, qb15] | refine kCond2_by (fun hc => ?_) (fun hc => ?_) <;> try simp only [hc] | refine kPick_by (fun hc => ?_) (fun hc => ?_) <;> try simp only [hc] | refine kWant_by (fun hc => ?_) (fun hc => ?_) <;> try simp only [hc])
    refine callP_meets (rRinged_spec x15.r (show 1 ≤ 1000000000 by decide) b 0 nmA) ?_
    rintro _ h16 ⟨rfl, G16, r16, u16⟩
    rw [jn_ringed _ _ _ hb] at r16 ⊢
    obtain ⟨x16, o16⟩ := x15.ref u16 r16
    have m16 := u16.next
    have gm16 := (o16 _ (.inl (by omega))).trans gm15
    have qm16 := rowOf_rw gm16
    have d16 : (h.next = h16.next) = False := eq_false (by omega)
    repeat' (first | simp only [evr, nextP_norm, evd, evq, beq_self_eq_true, cond_true, cond_false, reduceIte, Nat.reduceEqDiff, Nat.reduceAdd, Int.reduceBNe, Int.reduceBEq, Int.reduceLT, Int.reduceLE, Int.reduceEq, evh, evp, Nat.reduceLeDiff, Nat.reduceSub, Nat.reduceBEq, typs, qm16, d16] | refine kCond2_by (fun hc => ?_) (fun hc => ?_) <;> try simp only [hc] | refine kPick_by (fun hc => ?_) (fun hc => ?_) <;> try simp only [hc] | refine kWant_by (fun hc => ?_) (fun hc => ?_) <;> try simp only [hc])
    generalize hh : Hp.push (Hp.push h16 _) _ = h17
    have k17 : Keep h16 h17 := by rw [← hh]; exact (Keep.push _ _).pushed
    have m17 : h17.next = h16.next + 2 := by rw [← hh]; rfl
    have gu17 : h17.get h16.next = some (.row [.string nmU] 9 (.rw 0 [])) := by rw [← hh, Hp.get_push_lt (Nat.lt_succ_self _)]; exact Hp.get_push_self _ _
    have gk17 : h17.get (h16.next + 1) = some (.row (mkC m1) 60 (.rw 0 [])) := by rw [← hh, ← hm1]; exact Hp.get_push_self (h16.push _) _
    clear hh
    have x17 := x16.keeps k17
    refine callP_meets (jFine_spec x17.t (us_newJ (by omega) gu17) (by decide) (TreeAt.hac x17.t) (mk_newJ (by omega) gk17) (by simp)) ?_
    rintro _ h18 ⟨rfl, k18⟩
    rw [fine_one]
    have x18 := x17.keeps k18
    have m18 := k18.1
    have gm18 := ((k17.trans k18).2 _ (by omega)).trans gm16
    repeat' (first | simp only [evr, nextP_norm, evd, evq, beq_self_eq_true, cond_true, cond_false, reduceIte, Nat.reduceEqDiff, Nat.reduceAdd, Int.reduceBNe, Int.reduceBEq, Int.reduceLT, Int.reduceLE, Int.reduceEq, evh, evp, Nat.reduceLeDiff, Nat.reduceSub, Nat.reduceBEq, typs] | refine kCond2_by (fun hc => ?_) (fun hc => ?_) <;> try simp only [hc] | refine kPick_by (fun hc => ?_) (fun hc => ?_) <;> try simp only [hc] | refine kWant_by (fun hc => ?_) (fun hc => ?_) <;> try simp only [hc])
    refine callP_meets (tDelete_spec x18.t (show 1 ≤ 1000000000 by decide) 0 nmA) ?_
    rw [jn_delete]
    rintro _ h19 ⟨⟨sl19, rfl, _⟩, F19, t19, u19⟩
    obtain ⟨x19, o19⟩ := x18.tree u19 t19
    have m19 := u19.next
    have gm19 := (o19 _ (.inl (by omega))).trans gm18
    have qm19 := rowOf_rw gm19
    have d19 : (h.next = h19.next) = False := eq_false (by omega)
    repeat' (first | simp only [evr, nextP_norm, evd, evq, beq_self_eq_true, cond_true, cond_false, reduceIte, Nat.reduceEqDiff, Nat.reduceAdd, Int.reduceBNe, Int.reduceBEq, Int.reduceLT, Int.reduceLE, Int.reduceEq, evh, evp, Nat.reduceLeDiff, Nat.reduceSub, Nat.reduceBEq, typs, qm19, d19] | refine kCond2_by (fun hc => ?_) (fun hc => ?_) <;> try simp only [hc] | refine kPick_by (fun hc => ?_) (fun hc => ?_) <;> try simp only [hc] | refine kWant_by (fun hc => ?_) (fun hc => ?_) <;> try simp only [hc])
    generalize hh : Hp.push (Hp.push h19 _) _ = h20
    have k20 : Keep h19 h20 := by rw [← hh]; exact (Keep.push _ _).pushed
    have m20 : h20.next = h19.next + 2 := by rw [← hh]; rfl
    have gu20 : h20.get h19.next = some (.row [.string nmU] 9 (.rw 0 [])) := by rw [← hh, Hp.get_push_lt (Nat.lt_succ_self _)]; exact Hp.get_push_self _ _
    have gk20 : h20.get (h19.next + 1) = some (.row (mkC m1) 60 (.rw 0 [])) := by rw [← hh, ← hm1]; exact Hp.get_push_self (h19.push _) _
    clear hh
    have x20 := x19.keeps k20
    refine callP_meets (jFine_spec x20.t (us_newJ (by omega) gu20) (by decide) (TreeAt.hac x20.t) (mk_newJ (by omega) gk20) (by simp)) ?_
    rw [jn_gone]
    rintro _ h21 ⟨rfl, k21⟩
    have x21 := x20.keeps k21
    have m21 := k21.1
    have gm21 := ((k20.trans k21).2 _ (by omega)).trans gm19
    have qm21 := rowOf_rw gm21
    have d21 : (h.next = h21.next) = False := eq_false (by omega)
    repeat' (first | simp only [evr, nextP_norm, evd, evq, beq_self_eq_true, cond_true, cond_false, reduceIte, Nat.reduceEqDiff, Nat.reduceAdd, Int.reduceBNe, Int.reduceBEq, Int.reduceLT, Int.reduceLE, Int.reduceEq, evh, evp, Nat.reduceLeDiff, Nat.reduceSub, Nat.reduceBEq, typs, qm21, d21] | refine kCond2_by (fun hc => ?_) (fun hc => ?_) <;> try simp only [hc] | refine kPick_by (fun hc => ?_) (fun hc => ?_) <;> try simp only [hc] | refine kWant_by (fun hc => ?_) (fun hc => ?_) <;> try simp only [hc])
    generalize hh : Hp.push h21 _ = h22
    have k22 : Keep h21 h22 := by rw [← hh]; exact Keep.push _ _
    have gu22 : h22.get h21.next = some (.row [.string nmU] 9 (.rw 0 [])) := by rw [← hh]; exact Hp.get_push_self _ _
    have m22 : h22.next = h21.next + 1 := by rw [← hh]; rfl
    clear hh
    have x22 := x21.keeps k22
    refine callP_meets (rjf x22.r (show 1 ≤ 1000000000 by decide) (us_newJ (by omega) gu22) (by decide) ⟨0, m0.kind, 1, m0.off, m0.at_, m0.before, m0.after⟩) ?_
    rintro _ h23 ⟨rfl, k23⟩
    rw [hm1]
    repeat' (first | simp only [evr, nextP_norm, evd, evq, beq_self_eq_true, cond_true, cond_false, reduceIte, Nat.reduceEqDiff, Nat.reduceAdd, Int.reduceBNe, Int.reduceBEq, Int.reduceLT, Int.reduceLE, Int.reduceEq, evh, evp, Nat.reduceLeDiff, Nat.reduceSub, Nat.reduceBEq, typs] | refine kCond2_by (fun hc => ?_) (fun hc => ?_) <;> try simp only [hc] | refine kPick_by (fun hc => ?_) (fun hc => ?_) <;> try simp only [hc] | refine kWant_by (fun hc => ?_) (fun hc => ?_) <;> try simp only [hc])
end Go.Proofs.YtncmgiddcefpcaaGreatDoor
