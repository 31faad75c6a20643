/- Texts joined: what the claim needs of them. No condition. -/
import Derived.Test.YtncmgiddcefpcaaGreatDoorBin6
import Derived.Test.YtncmgiddcefpcaaGreatDoorBin10
import Derived.Test.YtncmgiddcefpcaaGreatDoorBin8
namespace Go.Proofs.YtncmgiddcefpcaaGreatDoor
open Go Go.Ev Go.Con
set_option linter.unusedSimpArgs false
set_option linter.unusedVariables false
set_option maxRecDepth 100000
def ddC (d : Dd) (sl : Value) : List Value := [.int .i64 d.act, .int .i64 d.dir, .string d.name, .string d.more] ++ bnC d.b sl
theorem TmTy.slAt' {h : Hp} {F : Nat → Prop} {v : Value} {l : List Tm} (s : TmTy h F v l) : TmSl h v l := SlTy.slAt s
def DoP (h : Hp) (P : Nat → Prop) (T : Hi) (bt br : Nat) (v : Value) (h' : Hp) : Prop := v = .bool true ∧ ∃ F' G', Two h' P F' G' T T bt br ∧ h.next ≤ h'.next ∧ ∀ k, P k → h'.get k = h.get k
set_option maxHeartbeats 4000000 in
theorem do_spec {h : Hp} {P F G : Nat → Prop} {T : Hi} {bt br : Nat} (x : Two h P F G T T bt br) (few : T.Few 1000) (d : Dd) {sl : Value} (hs : ∀ h', h.next ≤ h'.next → (∀ k, P k → h'.get k = h.get k) → TmSl h' sl d.b.acl) (hl : d.b.acl.length ≤ 1000000000) :
    Meets kon 15 [ptrV bt, ptrV br, .agg (ddC d sl).toArray] h (DoP h P (T.step d) bt br) := by
  obtain ⟨c1, c2⟩ := TmSl.cell (hs h (Nat.le_refl _) fun _ _ => rfl)
  have hL := few.1
  have hB := few.2
  unfold ddC bnC ptrV
  refine Meets.mk rfl (by kernel_rfl) Tryz.func15 rfl (congrArg Array.toList Tryz.results15) ?_
  simp only [evr, evd, evq, beq_self_eq_true, cond_true, cond_false, reduceIte, Nat.reduceEqDiff, Nat.reduceAdd, Int.reduceBNe, Int.reduceBEq, Int.reduceLT, Int.reduceLE, Int.reduceEq, evh, evp, Nat.reduceLeDiff, Nat.reduceSub, Nat.reduceBEq, typs, c1, c2]
  rw [nextP_norm]
  generalize hh : Hp.push _ _ = H
  have kH : Keep h H := by rw [← hh]; exact Keep.push _ _
  have nH : H.next = h.next + 1 := by rw [← hh]; rfl
  have gd : H.get h.next = some (.row (ddC d sl) 36 (.rw 0 [])) := by rw [← hh]; exact Hp.get_push_self _ _
  clear hh
  have qd := rowOf_rw gd
  have Q : ∀ {h'}, h'.get h.next = H.get h.next → rowOf h' h.next = rowOf H h.next := fun e => (rowOf_rw (e.trans gd)).trans (rowOf_rw gd).symm
  unfold ddC bnC at qd
  have x0 : Two H (fun k => P k ∨ k = h.next) F G T T bt br := (x.keeps kH).more (by omega) (fun hf => by have := x.t.ltF' hf; omega) (fun hg => by have := x.r.lt hg; omega)
  refine Wp_cut (fun fr => fr.get 0 = some (.pointer (some ⟨bt, 0, none⟩)) ∧ fr.get 1 = some (.pointer (some ⟨br, 0, none⟩)) ∧ fr.get 5 = some (.pointer (some ⟨h.next, 0, none⟩)) ∧ fr.get 6 = some (.bool false)) ?_ ?_
  · simp only [evr, nextP_norm, evd, evq, beq_self_eq_true, cond_true, cond_false, reduceIte, Nat.reduceEqDiff, Nat.reduceAdd, Int.reduceBNe, Int.reduceBEq, Int.reduceLT, Int.reduceLE, Int.reduceEq, typs]
  rintro fr ⟨g0, g1, g5, g6⟩
  have sl0 : ∀ {h'}, H.next ≤ h'.next → (∀ k, P k ∨ k = h.next → h'.get k = H.get k) → TmSl h' sl d.b.acl := fun {h'} hn he => hs h' (by omega) fun k hk => (he k (.inl hk)).trans (kH.2 k (x.p k hk).2.2)
  -- the end, from both trees
  have fin : ∀ {h' : Hp} {F' G' : Nat → Prop}, Two h' (fun k => P k ∨ k = h.next) F' G' (T.step d) (T.step d) bt br → H.next ≤ h'.next → (∀ k, P k ∨ k = h.next → h'.get k = H.get k) → DoP h P (T.step d) bt br (.bool true) h' := fun {h' F' G'} y hn hs =>
    ⟨rfl, F', G', ⟨y.t, y.r, y.dj, fun k hk => y.p k (.inl hk)⟩, by omega, fun k hk => (hs k (.inl hk)).trans (kH.2 k (x.p k hk).2.2)⟩
  by_cases e1 : d.act ≤ 4
  · have f1 : decide (d.act ≤ 4) = true := decide_eq_true e1
    have st : T.step d = (T.add d.dir d.name d.b).1 := by unfold Hi.step; rw [if_pos e1]
    rw [st] at fin ⊢
    repeat' (first | simp only [evr, nextP_norm, evd, evq, beq_self_eq_true, cond_true, cond_false, reduceIte, Nat.reduceEqDiff, Nat.reduceAdd, Int.reduceBNe, Int.reduceBEq, Int.reduceLT, Int.reduceLE, Int.reduceEq, evh, evp, Nat.reduceLeDiff, Nat.reduceSub, Nat.reduceBEq, typs, g0, g1, g5, g6, qd, f1] | refine kCond2_by (fun hc => ?_) (fun hc => ?_) <;> try simp only [hc] | refine kPick_by (fun hc => ?_) (fun hc => ?_) <;> try simp only [hc] | refine kWant_by (fun hc => ?_) (fun hc => ?_) <;> try simp only [hc])
    refine Wp_drawE [0, 0, 1, 0, 1, 0, 1, 3, 4, 0, 0, 0, 0, 0] (KR.mk (by kernel_rfl)) ?_
    repeat' (first | simp only [evr, nextP_norm, evd, evq, beq_self_eq_true, cond_true, cond_false, reduceIte, Nat.reduceEqDiff, Nat.reduceAdd, Int.reduceBNe, Int.reduceBEq, Int.reduceLT, Int.reduceLE, Int.reduceEq, evh, evp, Nat.reduceLeDiff, Nat.reduceSub, Nat.reduceBEq, typs, g0, g1, g5, g6, qd] | refine kCond2_by (fun hc => ?_) (fun hc => ?_) <;> try simp only [hc] | refine kPick_by (fun hc => ?_) (fun hc => ?_) <;> try simp only [hc] | refine kWant_by (fun hc => ?_) (fun hc => ?_) <;> try simp only [hc])
    have := made_spec (h := H) (x := d.b) (sl0 (Nat.le_refl _) fun _ _ => rfl)
    unfold bnC at this
    refine callP_meets this ?_
    rintro _ h1 ⟨rfl, k1⟩
    have x1 := x0.keeps k1
    have q1 := (Q (k1.2 _ (by omega))).trans qd
    repeat' (first | simp only [evr, nextP_norm, evd, evq, beq_self_eq_true, cond_true, cond_false, reduceIte, Nat.reduceEqDiff, Nat.reduceAdd, Int.reduceBNe, Int.reduceBEq, Int.reduceLT, Int.reduceLE, Int.reduceEq, evh, evp, Nat.reduceLeDiff, Nat.reduceSub, Nat.reduceBEq, typs, g0, g1, g5, g6, qd, q1] | refine kCond2_by (fun hc => ?_) (fun hc => ?_) <;> try simp only [hc] | refine kPick_by (fun hc => ?_) (fun hc => ?_) <;> try simp only [hc] | refine kWant_by (fun hc => ?_) (fun hc => ?_) <;> try simp only [hc])
    have := tAdd_spec x1.t (Nat.le_trans hL (by decide)) (Nat.le_trans hB (by decide)) (sl0 k1.1 fun k hk => k1.2 k (x0.p k hk).2.2) hl d.dir d.name
    unfold ptrV bnC at this
    refine callP_meets this ?_
    rintro _ h2 ⟨rfl, F2, t2, u2⟩
    obtain ⟨x2, o2⟩ := x1.tree u2 t2
    have n2 := u2.next
    have n1 := k1.1
    have q2 := (Q ((o2 _ (.inr rfl)).trans (k1.2 _ (by omega)))).trans qd
    have O2 : ∀ k, P k ∨ k = h.next → h2.get k = H.get k := fun k hk => (o2 k hk).trans (k1.2 k (x0.p k hk).2.2)
    repeat' (first | simp only [evr, nextP_norm, evd, evq, beq_self_eq_true, cond_true, cond_false, reduceIte, Nat.reduceEqDiff, Nat.reduceAdd, Int.reduceBNe, Int.reduceBEq, Int.reduceLT, Int.reduceLE, Int.reduceEq, evh, evp, Nat.reduceLeDiff, Nat.reduceSub, Nat.reduceBEq, typs, g0, g1, g5, g6, q2, qd] | refine kCond2_by (fun hc => ?_) (fun hc => ?_) <;> try simp only [hc] | refine kPick_by (fun hc => ?_) (fun hc => ?_) <;> try simp only [hc] | refine kWant_by (fun hc => ?_) (fun hc => ?_) <;> try simp only [hc])
    have := rAdd_spec x2.r (Nat.le_trans hL (by decide)) (Nat.le_trans hB (by decide)) (sl0 (by omega) O2) hl d.dir d.name
    unfold ptrV bnC at this
    refine callP_meets this ?_
    rintro _ h3 ⟨rfl, G3, r3, u3⟩
    obtain ⟨x3, o3⟩ := x2.ref u3 r3
    have n3 := u3.next
    repeat' (first | simp only [evr, nextP_norm, evd, evq, beq_self_eq_true, cond_true, cond_false, reduceIte, Nat.reduceEqDiff, Nat.reduceAdd, Int.reduceBNe, Int.reduceBEq, Int.reduceLT, Int.reduceLE, Int.reduceEq, evh, evp, Nat.reduceLeDiff, Nat.reduceSub, Nat.reduceBEq, typs, g0, g1, g5, g6, q2, qd] | refine kCond2_by (fun hc => ?_) (fun hc => ?_) <;> try simp only [hc] | refine kPick_by (fun hc => ?_) (fun hc => ?_) <;> try simp only [hc] | refine kWant_by (fun hc => ?_) (fun hc => ?_) <;> try simp only [hc])
    exact fin x3 (by omega) fun k hk => (o3 k hk).trans (O2 k hk)
  have f1 : decide (d.act ≤ 4) = false := decide_eq_false e1
  by_cases e5 : d.act = 5
  · have f5 : (d.act == 5) = true := by simp [e5]
    have st : T.step d = (T.name d.dir d.name d.more).1 := by unfold Hi.step; rw [if_neg e1, if_pos e5]
    rw [st] at fin ⊢
    repeat' (first | simp only [evr, nextP_norm, evd, evq, beq_self_eq_true, cond_true, cond_false, reduceIte, Nat.reduceEqDiff, Nat.reduceAdd, Int.reduceBNe, Int.reduceBEq, Int.reduceLT, Int.reduceLE, Int.reduceEq, evh, evp, Nat.reduceLeDiff, Nat.reduceSub, Nat.reduceBEq, typs, g0, g1, g5, g6, qd, f1, f5] | refine kCond2_by (fun hc => ?_) (fun hc => ?_) <;> try simp only [hc] | refine kPick_by (fun hc => ?_) (fun hc => ?_) <;> try simp only [hc] | refine kWant_by (fun hc => ?_) (fun hc => ?_) <;> try simp only [hc])
    refine Wp_drawE [0, 0, 1, 0, 1, 0, 1, 3, 0, 0, 1, 0, 1, 0, 1, 4, 0, 0] (KR.mk (by kernel_rfl)) ?_
    repeat' (first | simp only [evr, nextP_norm, evd, evq, beq_self_eq_true, cond_true, cond_false, reduceIte, Nat.reduceEqDiff, Nat.reduceAdd, Int.reduceBNe, Int.reduceBEq, Int.reduceLT, Int.reduceLE, Int.reduceEq, evh, evp, Nat.reduceLeDiff, Nat.reduceSub, Nat.reduceBEq, typs, g0, g1, g5, g6, qd] | refine kCond2_by (fun hc => ?_) (fun hc => ?_) <;> try simp only [hc] | refine kPick_by (fun hc => ?_) (fun hc => ?_) <;> try simp only [hc] | refine kWant_by (fun hc => ?_) (fun hc => ?_) <;> try simp only [hc])
    have := tName_spec x0.t (Nat.le_trans hL (by decide)) d.dir d.name d.more
    unfold ptrV at this
    refine callP_meets this ?_
    rintro _ h2 ⟨rfl, F2, t2, u2⟩
    obtain ⟨x2, o2⟩ := x0.tree u2 t2
    have n2 := u2.next
    have q2 := (Q (o2 _ (.inr rfl))).trans qd
    repeat' (first | simp only [evr, nextP_norm, evd, evq, beq_self_eq_true, cond_true, cond_false, reduceIte, Nat.reduceEqDiff, Nat.reduceAdd, Int.reduceBNe, Int.reduceBEq, Int.reduceLT, Int.reduceLE, Int.reduceEq, evh, evp, Nat.reduceLeDiff, Nat.reduceSub, Nat.reduceBEq, typs, g0, g1, g5, g6, q2, qd] | refine kCond2_by (fun hc => ?_) (fun hc => ?_) <;> try simp only [hc] | refine kPick_by (fun hc => ?_) (fun hc => ?_) <;> try simp only [hc] | refine kWant_by (fun hc => ?_) (fun hc => ?_) <;> try simp only [hc])
    have := rName_spec x2.r (Nat.le_trans hL (by decide)) d.dir d.name d.more
    unfold ptrV at this
    refine callP_meets this ?_
    rintro _ h3 ⟨rfl, G3, r3, u3⟩
    obtain ⟨x3, o3⟩ := x2.ref u3 r3
    have n3 := u3.next
    have q3 := (Q ((o3 _ (.inr rfl)).trans (o2 _ (.inr rfl)))).trans qd
    repeat' (first | simp only [evr, nextP_norm, evd, evq, beq_self_eq_true, cond_true, cond_false, reduceIte, Nat.reduceEqDiff, Nat.reduceAdd, Int.reduceBNe, Int.reduceBEq, Int.reduceLT, Int.reduceLE, Int.reduceEq, evh, evp, Nat.reduceLeDiff, Nat.reduceSub, Nat.reduceBEq, typs, g0, g1, g5, g6, q3, q2, qd] | refine kCond2_by (fun hc => ?_) (fun hc => ?_) <;> try simp only [hc] | refine kPick_by (fun hc => ?_) (fun hc => ?_) <;> try simp only [hc] | refine kWant_by (fun hc => ?_) (fun hc => ?_) <;> try simp only [hc])
    exact fin x3 (by omega) fun k hk => (o3 k hk).trans (o2 k hk)
  have f5 : (d.act == 5) = false := by simp [e5]
  by_cases e6 : d.act = 6
  · have f6 : (d.act == 6) = true := by simp [e6]
    have st : T.step d = (T.unname d.dir d.name).1 := by unfold Hi.step; rw [if_neg e1, if_neg e5, if_pos e6]
    rw [st] at fin ⊢
    repeat' (first | simp only [evr, nextP_norm, evd, evq, beq_self_eq_true, cond_true, cond_false, reduceIte, Nat.reduceEqDiff, Nat.reduceAdd, Int.reduceBNe, Int.reduceBEq, Int.reduceLT, Int.reduceLE, Int.reduceEq, evh, evp, Nat.reduceLeDiff, Nat.reduceSub, Nat.reduceBEq, typs, g0, g1, g5, g6, qd, f1, f5, f6] | refine kCond2_by (fun hc => ?_) (fun hc => ?_) <;> try simp only [hc] | refine kPick_by (fun hc => ?_) (fun hc => ?_) <;> try simp only [hc] | refine kWant_by (fun hc => ?_) (fun hc => ?_) <;> try simp only [hc])
    refine Wp_drawE [0, 0, 1, 0, 1, 3, 0, 0, 1, 0, 1, 4, 0, 0] (KR.mk (by kernel_rfl)) ?_
    repeat' (first | simp only [evr, nextP_norm, evd, evq, beq_self_eq_true, cond_true, cond_false, reduceIte, Nat.reduceEqDiff, Nat.reduceAdd, Int.reduceBNe, Int.reduceBEq, Int.reduceLT, Int.reduceLE, Int.reduceEq, evh, evp, Nat.reduceLeDiff, Nat.reduceSub, Nat.reduceBEq, typs, g0, g1, g5, g6, qd] | refine kCond2_by (fun hc => ?_) (fun hc => ?_) <;> try simp only [hc] | refine kPick_by (fun hc => ?_) (fun hc => ?_) <;> try simp only [hc] | refine kWant_by (fun hc => ?_) (fun hc => ?_) <;> try simp only [hc])
    have := tUnname_spec x0.t (Nat.le_trans hL (by decide)) d.dir d.name
    unfold ptrV at this
    refine callP_meets this ?_
    rintro _ h2 ⟨rfl, F2, t2, u2⟩
    obtain ⟨x2, o2⟩ := x0.tree u2 t2
    have n2 := u2.next
    have q2 := (Q (o2 _ (.inr rfl))).trans qd
    repeat' (first | simp only [evr, nextP_norm, evd, evq, beq_self_eq_true, cond_true, cond_false, reduceIte, Nat.reduceEqDiff, Nat.reduceAdd, Int.reduceBNe, Int.reduceBEq, Int.reduceLT, Int.reduceLE, Int.reduceEq, evh, evp, Nat.reduceLeDiff, Nat.reduceSub, Nat.reduceBEq, typs, g0, g1, g5, g6, q2, qd] | refine kCond2_by (fun hc => ?_) (fun hc => ?_) <;> try simp only [hc] | refine kPick_by (fun hc => ?_) (fun hc => ?_) <;> try simp only [hc] | refine kWant_by (fun hc => ?_) (fun hc => ?_) <;> try simp only [hc])
    have := rUnname_spec x2.r (Nat.le_trans hL (by decide)) d.dir d.name
    unfold ptrV at this
    refine callP_meets this ?_
    rintro _ h3 ⟨rfl, G3, r3, u3⟩
    obtain ⟨x3, o3⟩ := x2.ref u3 r3
    have n3 := u3.next
    have q3 := (Q ((o3 _ (.inr rfl)).trans (o2 _ (.inr rfl)))).trans qd
    repeat' (first | simp only [evr, nextP_norm, evd, evq, beq_self_eq_true, cond_true, cond_false, reduceIte, Nat.reduceEqDiff, Nat.reduceAdd, Int.reduceBNe, Int.reduceBEq, Int.reduceLT, Int.reduceLE, Int.reduceEq, evh, evp, Nat.reduceLeDiff, Nat.reduceSub, Nat.reduceBEq, typs, g0, g1, g5, g6, q3, q2, qd] | refine kCond2_by (fun hc => ?_) (fun hc => ?_) <;> try simp only [hc] | refine kPick_by (fun hc => ?_) (fun hc => ?_) <;> try simp only [hc] | refine kWant_by (fun hc => ?_) (fun hc => ?_) <;> try simp only [hc])
    exact fin x3 (by omega) fun k hk => (o3 k hk).trans (o2 k hk)
  have f6 : (d.act == 6) = false := by simp [e6]
  by_cases e7 : d.act = 7
  · have f7 : (d.act == 7) = true := by simp [e7]
    have st : T.step d = (T.delete d.dir d.name).1 := by unfold Hi.step; rw [if_neg e1, if_neg e5, if_neg e6, if_pos e7]
    rw [st] at fin ⊢
    repeat' (first | simp only [evr, nextP_norm, evd, evq, beq_self_eq_true, cond_true, cond_false, reduceIte, Nat.reduceEqDiff, Nat.reduceAdd, Int.reduceBNe, Int.reduceBEq, Int.reduceLT, Int.reduceLE, Int.reduceEq, evh, evp, Nat.reduceLeDiff, Nat.reduceSub, Nat.reduceBEq, typs, g0, g1, g5, g6, qd, f1, f5, f6, f7] | refine kCond2_by (fun hc => ?_) (fun hc => ?_) <;> try simp only [hc] | refine kPick_by (fun hc => ?_) (fun hc => ?_) <;> try simp only [hc] | refine kWant_by (fun hc => ?_) (fun hc => ?_) <;> try simp only [hc])
    have hd : (T.delete d.dir d.name).2.1.acl.length ≤ 1000000000 := by
      obtain ⟨_, _, _, _, t⟩ := x0.t
      unfold Hi.delete
      split
      · simp [noBn]
      · split
        · simp [noBn]
        · exact t.acl _
    have := tDelete_spec x0.t (Nat.le_trans hL (by decide)) d.dir d.name
    unfold ptrV at this
    refine callP_meets this ?_
    rintro _ h2 ⟨⟨s2, rfl, w2⟩, F2, t2, u2⟩
    obtain ⟨x2, o2⟩ := x0.tree u2 t2
    have n2 := u2.next
    obtain ⟨z1, z2⟩ := TmSl.cell w2.slAt'
    unfold bnC
    simp only [evr, evd, evq, beq_self_eq_true, cond_true, cond_false, reduceIte, Nat.reduceEqDiff, Nat.reduceAdd, Int.reduceBNe, Int.reduceBEq, Int.reduceLT, Int.reduceLE, Int.reduceEq, evh, evp, Nat.reduceLeDiff, Nat.reduceSub, Nat.reduceBEq, typs, g0, g1, g5, g6, z1, z2]
    rw [nextP_norm]
    generalize hh : Hp.set _ _ _ = H3
    have k3 : Keep h2 H3 := by rw [← hh]; exact (Keep.push _ _).set (Nat.le_refl _)
    have n3 : H3.next = h2.next + 1 := by rw [← hh]; rfl
    have a3 : H3.get h2.next = some (.row (bnC (T.delete d.dir d.name).2.1 s2) 40 (.rw 0 [])) := by rw [← hh]; exact Hp.get_set_self _ _ _
    clear hh
    have x3 := (x2.keeps k3).more (b := h2.next) (by omega) (fun hf => by have := x2.t.ltF' hf; omega) (fun hg => by have := x2.r.lt hg; omega)
    have w3 : TmTy H3 (fun k => H.next ≤ k ∧ k < h2.next) s2 (T.delete d.dir d.name).2.1.acl := by
      have := SlTy.within w2
      exact SlTy.keepF this k3.1 fun k hk => k3.2 k hk.2
    have q3 := (Q ((k3.2 _ (by omega)).trans (o2 _ (.inr rfl)))).trans qd
    repeat' (first | simp only [evr, nextP_norm, evd, evq, beq_self_eq_true, cond_true, cond_false, reduceIte, Nat.reduceEqDiff, Nat.reduceAdd, Int.reduceBNe, Int.reduceBEq, Int.reduceLT, Int.reduceLE, Int.reduceEq, evh, evp, Nat.reduceLeDiff, Nat.reduceSub, Nat.reduceBEq, typs, g0, g1, g5, g6, q3] | refine kCond2_by (fun hc => ?_) (fun hc => ?_) <;> try simp only [hc] | refine kPick_by (fun hc => ?_) (fun hc => ?_) <;> try simp only [hc] | refine kWant_by (fun hc => ?_) (fun hc => ?_) <;> try simp only [hc])
    have := rDelete_spec x3.r (Nat.le_trans hL (by decide)) d.dir d.name
    unfold ptrV at this
    refine callP_meets this ?_
    rintro _ h4 ⟨s4, G4, rfl, w4, r4, u4⟩
    obtain ⟨x4, o4⟩ := x3.ref u4 r4
    have n4 := u4.next
    obtain ⟨y1, y2⟩ := TmSl.cell w4.slAt'
    have w4' : TmTy h4 (fun k => H.next ≤ k ∧ k < h2.next) s2 (T.delete d.dir d.name).2.1.acl := SlTy.keepF w3 n4 fun k hk => u4.same k (by omega) fun hg => by have := x0.r.lt hg; omega
    unfold bnC
    simp only [evr, evd, evq, beq_self_eq_true, cond_true, cond_false, reduceIte, Nat.reduceEqDiff, Nat.reduceAdd, Int.reduceBNe, Int.reduceBEq, Int.reduceLT, Int.reduceLE, Int.reduceEq, evh, evp, Nat.reduceLeDiff, Nat.reduceSub, Nat.reduceBEq, typs, g0, g1, g5, g6, y1, y2]
    rw [nextP_norm]
    generalize hh : Hp.set _ _ _ = H5
    have k5 : Keep h4 H5 := by rw [← hh]; exact (Keep.push _ _).set (Nat.le_refl _)
    have n5 : H5.next = h4.next + 1 := by rw [← hh]; rfl
    have b5 : H5.get h4.next = some (.row (bnC (T.delete d.dir d.name).2.1 s4) 34 (.rw 0 [])) := by rw [← hh]; exact Hp.get_set_self _ _ _
    clear hh
    have qb := rowOf_rw b5
    have qa := rowOf_rw ((k5.2 _ (by omega)).trans ((o4 _ (.inr rfl)).trans a3))
    unfold bnC at qa qb
    repeat' (first | simp only [evr, nextP_norm, evd, evq, beq_self_eq_true, cond_true, cond_false, reduceIte, Nat.reduceEqDiff, Nat.reduceAdd, Int.reduceBNe, Int.reduceBEq, Int.reduceLT, Int.reduceLE, Int.reduceEq, evh, evp, Nat.reduceLeDiff, Nat.reduceSub, Nat.reduceBEq, typs, g0, g1, g5, g6, qa, qb] | refine kCond2_by (fun hc => ?_) (fun hc => ?_) <;> try simp only [hc] | refine kPick_by (fun hc => ?_) (fun hc => ?_) <;> try simp only [hc] | refine kWant_by (fun hc => ?_) (fun hc => ?_) <;> try simp only [hc])
    refine Wp_drawE [0, 0, 0, 0, 1, 3, 1, 4, 0, 0] (KR.mk (by kernel_rfl)) ?_
    repeat' (first | simp only [evr, nextP_norm, evd, evq, beq_self_eq_true, cond_true, cond_false, reduceIte, Nat.reduceEqDiff, Nat.reduceAdd, Int.reduceBNe, Int.reduceBEq, Int.reduceLT, Int.reduceLE, Int.reduceEq, evh, evp, Nat.reduceLeDiff, Nat.reduceSub, Nat.reduceBEq, typs, g0, g1, g5, g6, qa, qb] | refine kCond2_by (fun hc => ?_) (fun hc => ?_) <;> try simp only [hc] | refine kPick_by (fun hc => ?_) (fun hc => ?_) <;> try simp only [hc] | refine kWant_by (fun hc => ?_) (fun hc => ?_) <;> try simp only [hc])
    have := model_spec (h := H5) (x := (T.delete d.dir d.name).2.1) (SlAt.keep w4'.slAt' k5)
    unfold bnC at this
    refine callP_meets this ?_
    rintro _ h6 ⟨rfl, k6⟩
    have qa6 := rowOf_rw ((k6.2 _ (by omega)).trans ((k5.2 _ (by omega)).trans ((o4 _ (.inr rfl)).trans a3)))
    have qb6 := rowOf_rw ((k6.2 _ (by omega)).trans b5)
    unfold bnC at qa6 qb6
    repeat' (first | simp only [evr, nextP_norm, evd, evq, beq_self_eq_true, cond_true, cond_false, reduceIte, Nat.reduceEqDiff, Nat.reduceAdd, Int.reduceBNe, Int.reduceBEq, Int.reduceLT, Int.reduceLE, Int.reduceEq, evh, evp, Nat.reduceLeDiff, Nat.reduceSub, Nat.reduceBEq, typs, g0, g1, g5, g6, qa, qb, qa6, qb6] | refine kCond2_by (fun hc => ?_) (fun hc => ?_) <;> try simp only [hc] | refine kPick_by (fun hc => ?_) (fun hc => ?_) <;> try simp only [hc] | refine kWant_by (fun hc => ?_) (fun hc => ?_) <;> try simp only [hc])
    have := sameBranch_spec (SlAt.keep (SlAt.keep w4'.slAt' k5) k6) (SlAt.keep (SlAt.keep w4.slAt' k5) k6) hd hd
    unfold bnC at this
    refine callP_meets this ?_
    rintro _ h7 ⟨rfl, k7⟩
    have qa7 := rowOf_rw ((k7.2 _ (by have := k6.1; omega)).trans ((k6.2 _ (by omega)).trans ((k5.2 _ (by omega)).trans ((o4 _ (.inr rfl)).trans a3))))
    have qb7 := rowOf_rw ((k7.2 _ (by have := k6.1; omega)).trans ((k6.2 _ (by omega)).trans b5))
    unfold bnC at qa7 qb7
    have tt : decide ((T.delete d.dir d.name).2.1 = (T.delete d.dir d.name).2.1) = true := decide_eq_true rfl
    repeat' (first | simp only [evr, nextP_norm, evd, evq, beq_self_eq_true, cond_true, cond_false, reduceIte, Nat.reduceEqDiff, Nat.reduceAdd, Int.reduceBNe, Int.reduceBEq, Int.reduceLT, Int.reduceLE, Int.reduceEq, evh, evp, Nat.reduceLeDiff, Nat.reduceSub, Nat.reduceBEq, typs, g0, g1, g5, g6, qa, qb, qa6, qb6, qa7, qb7, tt] | refine kCond2_by (fun hc => ?_) (fun hc => ?_) <;> try simp only [hc] | refine kPick_by (fun hc => ?_) (fun hc => ?_) <;> try simp only [hc] | refine kWant_by (fun hc => ?_) (fun hc => ?_) <;> try simp only [hc])
    have x7 := ((x4.keeps k5).keeps k6).keeps k7
    have n6 := k6.1
    have n7 := k7.1
    exact fin ⟨x7.t, x7.r, x7.dj, fun k hk => x7.p k (.inl hk)⟩ (by omega) fun k hk => by
      have := (x0.p k hk).2.2
      exact (k7.2 k (by omega)).trans ((k6.2 k (by omega)).trans ((k5.2 k (by omega)).trans ((o4 k (.inl hk)).trans ((k3.2 k (by omega)).trans (o2 k hk)))))
  have f7 : (d.act == 7) = false := by simp [e7]
  by_cases e8 : d.act = 8
  · have f8 : (d.act == 8) = true := by simp [e8]
    have st : T.step d = (T.access d.dir d.name d.b.acl).1 := by unfold Hi.step; rw [if_neg e1, if_neg e5, if_neg e6, if_neg e7, if_pos e8]
    rw [st] at fin ⊢
    repeat' (first | simp only [evr, nextP_norm, evd, evq, beq_self_eq_true, cond_true, cond_false, reduceIte, Nat.reduceEqDiff, Nat.reduceAdd, Int.reduceBNe, Int.reduceBEq, Int.reduceLT, Int.reduceLE, Int.reduceEq, evh, evp, Nat.reduceLeDiff, Nat.reduceSub, Nat.reduceBEq, typs, g0, g1, g5, g6, qd, f1, f5, f6, f7, f8] | refine kCond2_by (fun hc => ?_) (fun hc => ?_) <;> try simp only [hc] | refine kPick_by (fun hc => ?_) (fun hc => ?_) <;> try simp only [hc] | refine kWant_by (fun hc => ?_) (fun hc => ?_) <;> try simp only [hc])
    refine Wp_drawE [0, 0, 1, 0, 1, 0, 0, 1, 3, 0, 0, 1, 0, 1, 0, 0, 1, 4, 0, 0] (KR.mk (by kernel_rfl)) ?_
    repeat' (first | simp only [evr, nextP_norm, evd, evq, beq_self_eq_true, cond_true, cond_false, reduceIte, Nat.reduceEqDiff, Nat.reduceAdd, Int.reduceBNe, Int.reduceBEq, Int.reduceLT, Int.reduceLE, Int.reduceEq, evh, evp, Nat.reduceLeDiff, Nat.reduceSub, Nat.reduceBEq, typs, g0, g1, g5, g6, qd] | refine kCond2_by (fun hc => ?_) (fun hc => ?_) <;> try simp only [hc] | refine kPick_by (fun hc => ?_) (fun hc => ?_) <;> try simp only [hc] | refine kWant_by (fun hc => ?_) (fun hc => ?_) <;> try simp only [hc])
    have := tAccess_spec x0.t d.dir d.name (sl0 (Nat.le_refl _) fun _ _ => rfl) hl
    unfold ptrV at this
    refine callP_meets this ?_
    rintro _ h2 ⟨rfl, F2, t2, u2⟩
    obtain ⟨x2, o2⟩ := x0.tree u2 t2
    have n2 := u2.next
    have q2 := (Q (o2 _ (.inr rfl))).trans qd
    repeat' (first | simp only [evr, nextP_norm, evd, evq, beq_self_eq_true, cond_true, cond_false, reduceIte, Nat.reduceEqDiff, Nat.reduceAdd, Int.reduceBNe, Int.reduceBEq, Int.reduceLT, Int.reduceLE, Int.reduceEq, evh, evp, Nat.reduceLeDiff, Nat.reduceSub, Nat.reduceBEq, typs, g0, g1, g5, g6, q2, qd] | refine kCond2_by (fun hc => ?_) (fun hc => ?_) <;> try simp only [hc] | refine kPick_by (fun hc => ?_) (fun hc => ?_) <;> try simp only [hc] | refine kWant_by (fun hc => ?_) (fun hc => ?_) <;> try simp only [hc])
    have := rAccess_spec x2.r (Nat.le_trans hL (by decide)) (sl0 n2 o2) hl d.dir d.name
    unfold ptrV at this
    refine callP_meets this ?_
    rintro _ h3 ⟨rfl, G3, r3, u3⟩
    obtain ⟨x3, o3⟩ := x2.ref u3 r3
    have n3 := u3.next
    have q3 := (Q ((o3 _ (.inr rfl)).trans (o2 _ (.inr rfl)))).trans qd
    repeat' (first | simp only [evr, nextP_norm, evd, evq, beq_self_eq_true, cond_true, cond_false, reduceIte, Nat.reduceEqDiff, Nat.reduceAdd, Int.reduceBNe, Int.reduceBEq, Int.reduceLT, Int.reduceLE, Int.reduceEq, evh, evp, Nat.reduceLeDiff, Nat.reduceSub, Nat.reduceBEq, typs, g0, g1, g5, g6, q3, q2, qd] | refine kCond2_by (fun hc => ?_) (fun hc => ?_) <;> try simp only [hc] | refine kPick_by (fun hc => ?_) (fun hc => ?_) <;> try simp only [hc] | refine kWant_by (fun hc => ?_) (fun hc => ?_) <;> try simp only [hc])
    exact fin x3 (by omega) fun k hk => (o3 k hk).trans (o2 k hk)
  have f8 : (d.act == 8) = false := by simp [e8]
  have st : T.step d = (T.ringed d.dir d.name d.b.b).1 := by unfold Hi.step; rw [if_neg e1, if_neg e5, if_neg e6, if_neg e7, if_neg e8]
  rw [st] at fin ⊢
  repeat' (first | simp only [evr, nextP_norm, evd, evq, beq_self_eq_true, cond_true, cond_false, reduceIte, Nat.reduceEqDiff, Nat.reduceAdd, Int.reduceBNe, Int.reduceBEq, Int.reduceLT, Int.reduceLE, Int.reduceEq, evh, evp, Nat.reduceLeDiff, Nat.reduceSub, Nat.reduceBEq, typs, g0, g1, g5, g6, qd, f1, f5, f6, f7, f8] | refine kCond2_by (fun hc => ?_) (fun hc => ?_) <;> try simp only [hc] | refine kPick_by (fun hc => ?_) (fun hc => ?_) <;> try simp only [hc] | refine kWant_by (fun hc => ?_) (fun hc => ?_) <;> try simp only [hc])
  refine Wp_drawE [0, 0, 1, 0, 1, 0, 0, 1, 3, 0, 0, 1, 0, 1, 0, 0, 1, 4, 0, 0] (KR.mk (by kernel_rfl)) ?_
  repeat' (first | simp only [evr, nextP_norm, evd, evq, beq_self_eq_true, cond_true, cond_false, reduceIte, Nat.reduceEqDiff, Nat.reduceAdd, Int.reduceBNe, Int.reduceBEq, Int.reduceLT, Int.reduceLE, Int.reduceEq, evh, evp, Nat.reduceLeDiff, Nat.reduceSub, Nat.reduceBEq, typs, g0, g1, g5, g6, qd] | refine kCond2_by (fun hc => ?_) (fun hc => ?_) <;> try simp only [hc] | refine kPick_by (fun hc => ?_) (fun hc => ?_) <;> try simp only [hc] | refine kWant_by (fun hc => ?_) (fun hc => ?_) <;> try simp only [hc])
  have := tRinged_spec x0.t d.dir d.name d.b.b
  unfold ptrV bkV at this
  refine callP_meets this ?_
  rintro _ h2 ⟨rfl, F2, t2, u2⟩
  obtain ⟨x2, o2⟩ := x0.tree u2 t2
  have n2 := u2.next
  have q2 := (Q (o2 _ (.inr rfl))).trans qd
  repeat' (first | simp only [evr, nextP_norm, evd, evq, beq_self_eq_true, cond_true, cond_false, reduceIte, Nat.reduceEqDiff, Nat.reduceAdd, Int.reduceBNe, Int.reduceBEq, Int.reduceLT, Int.reduceLE, Int.reduceEq, evh, evp, Nat.reduceLeDiff, Nat.reduceSub, Nat.reduceBEq, typs, g0, g1, g5, g6, q2, qd] | refine kCond2_by (fun hc => ?_) (fun hc => ?_) <;> try simp only [hc] | refine kPick_by (fun hc => ?_) (fun hc => ?_) <;> try simp only [hc] | refine kWant_by (fun hc => ?_) (fun hc => ?_) <;> try simp only [hc])
  have := rRinged_spec x2.r (Nat.le_trans hL (by decide)) d.b.b d.dir d.name
  unfold ptrV at this
  refine callP_meets this ?_
  rintro _ h3 ⟨rfl, G3, r3, u3⟩
  obtain ⟨x3, o3⟩ := x2.ref u3 r3
  have n3 := u3.next
  have q3 := (Q ((o3 _ (.inr rfl)).trans (o2 _ (.inr rfl)))).trans qd
  repeat' (first | simp only [evr, nextP_norm, evd, evq, beq_self_eq_true, cond_true, cond_false, reduceIte, Nat.reduceEqDiff, Nat.reduceAdd, Int.reduceBNe, Int.reduceBEq, Int.reduceLT, Int.reduceLE, Int.reduceEq, evh, evp, Nat.reduceLeDiff, Nat.reduceSub, Nat.reduceBEq, typs, g0, g1, g5, g6, q3, q2, qd] | refine kCond2_by (fun hc => ?_) (fun hc => ?_) <;> try simp only [hc] | refine kPick_by (fun hc => ?_) (fun hc => ?_) <;> try simp only [hc] | refine kWant_by (fun hc => ?_) (fun hc => ?_) <;> try simp only [hc])
  exact fin x3 (by omega) fun k hk => (o3 k hk).trans (o2 k hk)
end Go.Proofs.YtncmgiddcefpcaaGreatDoor
namespace Go.Proofs.YtncmgiddcefpcaaGreatDoor
open Go Go.Ev Go.Con
set_option linter.unusedSimpArgs false
set_option linter.unusedVariables false
set_option maxRecDepth 100000
def DdSl (h : Hp) (v : Value) (l : List Dd) : Prop := ∃ cs, SlAt h 14 v cs ∧ cs.length = l.length * 14 ∧ ∀ i d, l[i]? = some d → ∃ sl, (cs.drop (i * 14)).take 14 = ddC d sl ∧ TmSl h sl d.b.acl
section
variable {h : Hp} {v : Value} {l : List Dd}
theorem DdSl.keep {h' : Hp} (s : DdSl h v l) (k : Keep h h') : DdSl h' v l := by
  obtain ⟨cs, h1, h2, h3⟩ := s
  exact ⟨cs, SlAt.keep h1 k, h2, fun i d hi => by obtain ⟨sl, e1, e2⟩ := h3 i d hi; exact ⟨sl, e1, SlAt.keep e2 k⟩⟩
theorem DdSl.len (s : DdSl h v l) : evLen kon.P 22 v = some (.int .i64 l.length) := by
  obtain ⟨cs, s, hc, _⟩ := s
  rcases s with ⟨rfl, hl⟩ | ⟨b, o, k, c, all, rfl, h2, h3, h4, h5, h6⟩
  · rw [hl] at hc
    have : l = [] := List.length_eq_zero_iff.1 (by simp at hc; omega)
    subst this; exact evLen_slice (e := 36) (by kernel_rfl)
  · have : k = l.length := by omega
    subst this
    exact evLen_slice (e := 36) (by kernel_rfl)
theorem DdSl.at (s : DdSl h v l) {i : Nat} {d : Dd} (hi : l[i]? = some d) : ∃ b o all sl, evIndexAddr kon.P 22 v (.int .i64 i) = some (.pointer (some ⟨b, o, none⟩)) ∧ b < h.next ∧
    rowOf h b = some all ∧ o + 14 ≤ all.length ∧ (all.drop o).take 14 = ddC d sl ∧ TmSl h sl d.b.acl := by
  have hlt : i < l.length := (List.getElem?_eq_some_iff.1 hi).1
  obtain ⟨cs, s, hc, ha⟩ := s
  obtain ⟨sl, e1, e2⟩ := ha i d hi
  rcases s with ⟨rfl, hl⟩ | ⟨b, o, k, c, all, rfl, h2, h3, h4, h5, h6⟩
  · rw [hl] at hc; simp at hc; omega
  · have hk : l.length = k := by omega
    subst hk
    have hz : o + l.length * 14 ≤ all.length := by
      have := congrArg List.length h6
      rw [List.length_take, List.length_drop, hc] at this; omega
    refine ⟨b, o + i * 14, all, sl, ?_, h3, h4, by omega, ?_, e2⟩
    · have := L_indexAddr (C := kon) (t := 22) (e := 36) (n := 14) (by kernel_rfl) (by kernel_rfl) b o l.length c .i64 i (by omega) (by omega)
      simpa using this
    · rw [← e1, ← h6, List.drop_take, List.take_take, List.drop_drop]
      congr 1; omega
theorem dd_cell {all : List Value} {o : Nat} {d : Dd} {sl : Value} (h : (all.drop o).take 14 = ddC d sl) : all[o + 2]? = some (.string d.name) ∧ all[o + 3]? = some (.string d.more) ∧ all[o + 4 + 3]? = some (.string d.b.link) ∧ all[o + 4 + 5]? = some sl := by
  have e : ∀ j, j < 14 → all[o + j]? = (ddC d sl)[j]? := fun j hj => by rw [← h, List.getElem?_take, if_pos hj, List.getElem?_drop]
  exact ⟨e 2 (by decide), e 3 (by decide), e 7 (by decide), e 9 (by decide)⟩
end
def smallD (d : Dd) : Bool := decide (d.name.size ≤ 200) && decide (d.more.size ≤ 200) && decide (d.b.link.size ≤ 400) && decide (d.b.acl.length ≤ 40)
def small (l : List Dd) : Bool := decide (l.length ≤ 121) && l.all smallD
set_option maxHeartbeats 4000000 in
theorem small_spec {h : Hp} {v : Value} {l : List Dd} (s : DdSl h v l) : Meets kon 12 [v] h fun u h' => u = .bool (small l) ∧ h' = h := by
  have ll := s.len
  refine Meets.mk rfl (by kernel_rfl) Tryz.func12 rfl (congrArg Array.toList Tryz.results12) ?_
  repeat' (first | simp only [evr, nextP_norm, evd, evq, beq_self_eq_true, cond_true, cond_false, reduceIte, Nat.reduceEqDiff, Nat.reduceAdd, Int.reduceBNe, Int.reduceBEq, Int.reduceLT, Int.reduceLE, Int.reduceEq, evh, evp, Nat.reduceLeDiff, Nat.reduceSub, Nat.reduceBEq, typs] | refine kCond2_by (fun hc => ?_) (fun hc => ?_) <;> try simp only [hc] | refine kPick_by (fun hc => ?_) (fun hc => ?_) <;> try simp only [hc] | refine kWant_by (fun hc => ?_) (fun hc => ?_) <;> try simp only [hc])
  refine Wp_loop (fun k fr h' => h' = h ∧ ∃ i : Nat, k = l.length - i ∧ i ≤ l.length ∧ i ≤ 121 ∧ fr.get 0 = some v ∧ fr.get 3 = some (.int .i64 i) ∧ ∀ x ∈ l.take i, smallD x = true) l.length ⟨rfl, 0, rfl, Nat.zero_le _, Nat.zero_le _, ?_, ?_, by simp⟩ ?_
  · repeat' (first | simp only [evr, nextP_norm, evd, evq, beq_self_eq_true, cond_true, cond_false, reduceIte, Nat.reduceEqDiff, Nat.reduceAdd, Int.reduceBNe, Int.reduceBEq, Int.reduceLT, Int.reduceLE, Int.reduceEq, evh, evp, Nat.reduceLeDiff, Nat.reduceSub, Nat.reduceBEq, typs] | refine kCond2_by (fun hc => ?_) (fun hc => ?_) <;> try simp only [hc] | refine kPick_by (fun hc => ?_) (fun hc => ?_) <;> try simp only [hc] | refine kWant_by (fun hc => ?_) (fun hc => ?_) <;> try simp only [hc])
  · repeat' (first | simp only [evr, nextP_norm, evd, evq, beq_self_eq_true, cond_true, cond_false, reduceIte, Nat.reduceEqDiff, Nat.reduceAdd, Int.reduceBNe, Int.reduceBEq, Int.reduceLT, Int.reduceLE, Int.reduceEq, evh, evp, Nat.reduceLeDiff, Nat.reduceSub, Nat.reduceBEq, typs] | refine kCond2_by (fun hc => ?_) (fun hc => ?_) <;> try simp only [hc] | refine kPick_by (fun hc => ?_) (fun hc => ?_) <;> try simp only [hc] | refine kWant_by (fun hc => ?_) (fun hc => ?_) <;> try simp only [hc])
    rfl
  rintro k fr h1 ⟨he, i, rfl, hi, h121, r0, r3, hp⟩
  rw [he]
  clear he
  by_cases h3 : i < l.length
  · have f3 : decide ((i : Int) < (l.length : Int)) = true := decide_eq_true (by omega)
    obtain ⟨b, o, all, sl, pa, hb, hr, hz, hc, hs⟩ := s.at (List.getElem?_eq_getElem h3)
    obtain ⟨q2, q3, q7, q9⟩ := dd_cell hc
    have le := TmSl.len hs
    have no : smallD l[i] = false → Value.bool false = .bool (small l) := fun e => by
      have : small l = false := by
        unfold small
        rw [Bool.and_eq_false_iff]; right
        rw [List.all_eq_false]; exact ⟨_, List.getElem_mem h3, by simp [e]⟩
      rw [this]
    have yes : small l = true → ∀ x ∈ l, smallD x = true := fun e => by unfold small at e; rw [Bool.and_eq_true, List.all_eq_true] at e; exact e.2
    by_cases h4 : i = 121
    · subst h4
      have f4 : decide ((120 : Int) < ((121 : Nat) : Int)) = true := rfl
      repeat' (first | simp only [evr, nextP_norm, evd, evq, beq_self_eq_true, cond_true, cond_false, reduceIte, Nat.reduceEqDiff, Nat.reduceAdd, Int.reduceBNe, Int.reduceBEq, Int.reduceLT, Int.reduceLE, Int.reduceEq, evh, evp, Nat.reduceLeDiff, Nat.reduceSub, Nat.reduceBEq, typs, r0, r3, ll, f3, f4] | refine kCond2_by (fun hc => ?_) (fun hc => ?_) <;> try simp only [hc] | refine kPick_by (fun hc => ?_) (fun hc => ?_) <;> try simp only [hc] | refine kWant_by (fun hc => ?_) (fun hc => ?_) <;> try simp only [hc])
      rw [show small l = false from by unfold small; rw [Bool.and_eq_false_iff]; left; simp; omega]
    have f4 : decide ((120 : Int) < (i : Int)) = false := decide_eq_false (by omega)
    by_cases h5 : ¬ l[i].name.size ≤ 200
    · have f5 : decide ((200 : Int) < (l[i].name.size : Int)) = true := decide_eq_true (by omega)
      repeat' (first | simp only [evr, nextP_norm, evd, evq, beq_self_eq_true, cond_true, cond_false, reduceIte, Nat.reduceEqDiff, Nat.reduceAdd, Int.reduceBNe, Int.reduceBEq, Int.reduceLT, Int.reduceLE, Int.reduceEq, evh, evp, Nat.reduceLeDiff, Nat.reduceSub, Nat.reduceBEq, typs, r0, r3, ll, f3, f4, pa, hr, q2, f5] | refine kCond2_by (fun hc => ?_) (fun hc => ?_) <;> try simp only [hc] | refine kPick_by (fun hc => ?_) (fun hc => ?_) <;> try simp only [hc] | refine kWant_by (fun hc => ?_) (fun hc => ?_) <;> try simp only [hc])
      exact no (by unfold smallD; simp [h5])
    have f5 : decide ((200 : Int) < (l[i].name.size : Int)) = false := decide_eq_false (by omega)
    by_cases h6 : ¬ l[i].more.size ≤ 200
    · have f6 : decide ((200 : Int) < (l[i].more.size : Int)) = true := decide_eq_true (by omega)
      repeat' (first | simp only [evr, nextP_norm, evd, evq, beq_self_eq_true, cond_true, cond_false, reduceIte, Nat.reduceEqDiff, Nat.reduceAdd, Int.reduceBNe, Int.reduceBEq, Int.reduceLT, Int.reduceLE, Int.reduceEq, evh, evp, Nat.reduceLeDiff, Nat.reduceSub, Nat.reduceBEq, typs, r0, r3, ll, f3, f4, pa, hr, q2, f5, q3, f6] | refine kCond2_by (fun hc => ?_) (fun hc => ?_) <;> try simp only [hc] | refine kPick_by (fun hc => ?_) (fun hc => ?_) <;> try simp only [hc] | refine kWant_by (fun hc => ?_) (fun hc => ?_) <;> try simp only [hc])
      exact no (by unfold smallD; simp [h6])
    have f6 : decide ((200 : Int) < (l[i].more.size : Int)) = false := decide_eq_false (by omega)
    by_cases h7 : ¬ l[i].b.link.size ≤ 400
    · have f7 : decide ((400 : Int) < (l[i].b.link.size : Int)) = true := decide_eq_true (by omega)
      repeat' (first | simp only [evr, nextP_norm, evd, evq, beq_self_eq_true, cond_true, cond_false, reduceIte, Nat.reduceEqDiff, Nat.reduceAdd, Int.reduceBNe, Int.reduceBEq, Int.reduceLT, Int.reduceLE, Int.reduceEq, evh, evp, Nat.reduceLeDiff, Nat.reduceSub, Nat.reduceBEq, typs, r0, r3, ll, f3, f4, pa, hr, q2, f5, q3, f6, q7, f7] | refine kCond2_by (fun hc => ?_) (fun hc => ?_) <;> try simp only [hc] | refine kPick_by (fun hc => ?_) (fun hc => ?_) <;> try simp only [hc] | refine kWant_by (fun hc => ?_) (fun hc => ?_) <;> try simp only [hc])
      exact no (by unfold smallD; simp [h7])
    have f7 : decide ((400 : Int) < (l[i].b.link.size : Int)) = false := decide_eq_false (by omega)
    by_cases h8 : ¬ l[i].b.acl.length ≤ 40
    · have f8 : decide ((40 : Int) < (l[i].b.acl.length : Int)) = true := decide_eq_true (by omega)
      repeat' (first | simp only [evr, nextP_norm, evd, evq, beq_self_eq_true, cond_true, cond_false, reduceIte, Nat.reduceEqDiff, Nat.reduceAdd, Int.reduceBNe, Int.reduceBEq, Int.reduceLT, Int.reduceLE, Int.reduceEq, evh, evp, Nat.reduceLeDiff, Nat.reduceSub, Nat.reduceBEq, typs, r0, r3, ll, f3, f4, pa, hr, q2, f5, q3, f6, q7, f7, q9, le, f8] | refine kCond2_by (fun hc => ?_) (fun hc => ?_) <;> try simp only [hc] | refine kPick_by (fun hc => ?_) (fun hc => ?_) <;> try simp only [hc] | refine kWant_by (fun hc => ?_) (fun hc => ?_) <;> try simp only [hc])
      exact no (by unfold smallD; simp [h8])
    have f8 : decide ((40 : Int) < (l[i].b.acl.length : Int)) = false := decide_eq_false (by omega)
    have wi : IntKind.i64.wrap ((i : Int) + 1) = ((i + 1 : Nat) : Int) := by rw [wrap64 (by omega) (by omega)]; omega
    have ok : smallD l[i] = true := by simp only [Decidable.not_not] at h5 h6 h7 h8; unfold smallD; simp [h5, h6, h7, h8]
    repeat' (first | simp only [evr, nextP_norm, evd, evq, beq_self_eq_true, cond_true, cond_false, reduceIte, Nat.reduceEqDiff, Nat.reduceAdd, Int.reduceBNe, Int.reduceBEq, Int.reduceLT, Int.reduceLE, Int.reduceEq, evh, evp, Nat.reduceLeDiff, Nat.reduceSub, Nat.reduceBEq, typs, r0, r3, ll, f3, f4, pa, hr, q2, f5, q3, f6, q7, f7, q9, le, f8, wi] | refine kCond2_by (fun hc => ?_) (fun hc => ?_) <;> try simp only [hc] | refine kPick_by (fun hc => ?_) (fun hc => ?_) <;> try simp only [hc] | refine kWant_by (fun hc => ?_) (fun hc => ?_) <;> try simp only [hc])
    refine ⟨l.length - (i + 1), by omega, i + 1, rfl, by omega, by omega, rfl, fun x hx => ?_⟩
    rw [List.take_add_one, List.getElem?_eq_getElem h3, List.mem_append] at hx
    rcases hx with hx | hx
    · exact hp x hx
    · simp at hx; rw [hx]; exact ok
  · have f3 : decide ((i : Int) < (l.length : Int)) = false := decide_eq_false (by omega)
    repeat' (first | simp only [evr, nextP_norm, evd, evq, beq_self_eq_true, cond_true, cond_false, reduceIte, Nat.reduceEqDiff, Nat.reduceAdd, Int.reduceBNe, Int.reduceBEq, Int.reduceLT, Int.reduceLE, Int.reduceEq, evh, evp, Nat.reduceLeDiff, Nat.reduceSub, Nat.reduceBEq, typs, r0, r3, ll, f3] | refine kCond2_by (fun hc => ?_) (fun hc => ?_) <;> try simp only [hc] | refine kPick_by (fun hc => ?_) (fun hc => ?_) <;> try simp only [hc] | refine kWant_by (fun hc => ?_) (fun hc => ?_) <;> try simp only [hc])
    have : small l = true := by
      unfold small
      rw [Bool.and_eq_true, List.all_eq_true]
      exact ⟨decide_eq_true (by omega), fun x hx => hp x (by rw [List.take_of_length_le (by omega)]; exact hx)⟩
    rw [this]
end Go.Proofs.YtncmgiddcefpcaaGreatDoor
namespace Go.Proofs.YtncmgiddcefpcaaGreatDoor
open Go Go.Ev Go.Con
set_option linter.unusedSimpArgs false
set_option linter.unusedVariables false
set_option maxRecDepth 100000
structure Both (h0 H : Hp) (T : Hi) (bt br n : Nat) : Prop where
  k : Keep h0 H
  few : T.Few n
  kin : T.Kin
  two : ∃ F G, Two H (fun k => k < h0.next) F G T T bt br
section
variable {h0 H h' : Hp} {T : Hi} {bt br n : Nat}
theorem Both.keeps (x : Both h0 H T bt br n) (k : Keep H h') : Both h0 h' T bt br n := by
  obtain ⟨a, b, c, F, G, w⟩ := x
  exact ⟨a.trans k, b, c, F, G, w.keeps k⟩
theorem Both.t (x : Both h0 H T bt br n) : ∃ F, TreeAt H F T bt := by obtain ⟨_, _, _, F, G, w⟩ := x; exact ⟨F, w.t⟩
theorem Both.r (x : Both h0 H T bt br n) : ∃ G, RefAt H G T br := by obtain ⟨_, _, _, F, G, w⟩ := x; exact ⟨G, w.r⟩
theorem Both.ok (x : Both h0 H T bt br n) : T.Ok := by obtain ⟨_, _, _, F, G, w⟩ := x; obtain ⟨_, _, _, _, t⟩ := w.t; exact t.ok
theorem Both.kinds (x : Both h0 H T bt br n) : T.Kinds := x.kin.kinds x.ok
theorem Both.acl (x : Both h0 H T bt br n) : ∀ i, (T.br i).acl.length ≤ 1000000000 := by obtain ⟨_, _, _, F, G, w⟩ := x; obtain ⟨_, _, _, _, t⟩ := w.t; exact t.acl
theorem both_start {h1 h2 : Hp} {F G : Nat → Prop} (k1 : Keep h0 h1) (t : TreeAt h1 F newHi bt) (hF : ∀ k, F k → h0.next ≤ k) (k2 : Keep h1 h2) (r : RefAt h2 G newHi br) (hG : ∀ k, G k → h1.next ≤ k) : Both h0 h2 newHi bt br 0 :=
  ⟨k1.trans k2, Hi.newHi_few, Hi.newHi_kin, F, G, Two.start k1 t hF k2 r hG⟩
theorem both_do (x : Both h0 H T bt br n) (hn : n ≤ 1000) (d : Dd) {sl : Value} (hs : TmSl h0 sl d.b.acl) (hl : d.b.acl.length ≤ 1000000000) :
    Meets kon 15 [ptrV bt, ptrV br, .agg (ddC d sl).toArray] H fun v h' => v = .bool true ∧ Both h0 h' (T.step d) bt br (n + 1) := by
  obtain ⟨a, b, c, F, G, w⟩ := x
  refine (do_spec w (b.mono hn) d (fun h' h1 h2 => SlAt.keep hs ⟨Nat.le_trans a.1 h1, fun k hk => (h2 k hk).trans (a.2 k hk)⟩) hl).mono ?_
  rintro v h' ⟨rfl, F', G', w', h1, h2⟩
  exact ⟨rfl, ⟨Nat.le_trans a.1 h1, fun k hk => (h2 k hk).trans (a.2 k hk)⟩, b.step d, c.step d, F', G', w'⟩
end
theorem small_len {l : List Dd} (h : small l = true) : l.length ≤ 121 ∧ ∀ d ∈ l, d.b.acl.length ≤ 1000000000 := by
  unfold small at h
  rw [Bool.and_eq_true, List.all_eq_true] at h
  refine ⟨of_decide_eq_true h.1, fun d hd => ?_⟩
  have := h.2 d hd
  unfold smallD at this
  simp only [Bool.and_eq_true, decide_eq_true_eq] at this
  omega
theorem steps_take {l : List Dd} {i : Nat} (h : i < l.length) : newHi.steps (l.take (i + 1)) = (newHi.steps (l.take i)).step l[i] := by
  rw [List.take_add_one, List.getElem?_eq_getElem h]; exact Hi.steps_app _ _ _
end Go.Proofs.YtncmgiddcefpcaaGreatDoor
namespace Go.Con
open Go
set_option linter.unusedSimpArgs false
set_option linter.unusedVariables false
theorem look_acl {T : Hi} (hT : ∀ i, (T.br i).acl.length ≤ 1000000000) {d : Int} {n : ByteArray} {b : Bn} (h : T.look d n = some b) : b.acl.length ≤ 1000000000 := by
  unfold Hi.look at h
  obtain ⟨i, _, rfl⟩ := Option.map_eq_some_iff.1 h
  exact hT i
theorem walkK_acl {T : Hi} (hT : ∀ i, (T.br i).acl.length ≤ 1000000000) (k : Nat) (d : Int) (ps : List ByteArray) : (walkK T k d ps).1.1.acl.length ≤ 1000000000 := by
  fun_induction walkK T k d ps with
  | case6 k d n b hb h3 => exact look_acl hT hb
  | case5 => assumption
  | case8 => assumption
  | _ => simp [rootB, noBn]
end Go.Con
namespace Go.Con
open Go
set_option linter.unusedSimpArgs false
set_option linter.unusedVariables false
structure Rl where
  kind : Int
  path : ByteArray
def ruleOne (r : Rl) : Bool := if r.kind = 1 ∨ r.kind = 2 then decide (r.path = ByteArray.empty) else if r.kind = 3 then (split r.path).isSome else false
def rulesMay (l : List Rl) : Bool := l.all ruleOne && decide (l.length ≤ 8)
def ruleDir (T : Hi) (work : ByteArray) (from_ : Int) (r : Rl) : Option Int :=
  if r.kind = 1 then (if 0 ≤ from_ then some from_ else none)
  else if (dirK T (if r.kind = 2 then work else r.path)).2 = 0 then some (dirK T (if r.kind = 2 then work else r.path)).1 else none
def ruleHit (T : Hi) (work : ByteArray) (from_ : Int) (name : ByteArray) (r : Rl) : Option Bn := match ruleDir T work from_ r with
  | none => none
  | some d => if (walkK T 8 d [name]).1.2 = 0 ∧ (walkK T 8 d [name]).1.1.kind = 1 then some (walkK T 8 d [name]).1.1 else none
def rulesFind (T : Hi) (l : List Rl) (work : ByteArray) (from_ : Int) (name : ByteArray) : Bn × Int :=
  if rulesMay l = false then (noBn, 1) else if mayN name = false then (noBn, 3) else match l.findSome? (ruleHit T work from_ name) with
    | some b => (b, 0)
    | none => (noBn, 4)
theorem rulesFind_hit {T : Hi} {l : List Rl} {work : ByteArray} {from_ : Int} {name : ByteArray} (h1 : rulesMay l = true) (h2 : mayN name = true) {j : Nat} (hj : j < l.length) (hp : ∀ r ∈ l.take j, ruleHit T work from_ name r = none) {b : Bn} (h : ruleHit T work from_ name l[j] = some b) :
    rulesFind T l work from_ name = (b, 0) := by
  unfold rulesFind
  rw [if_neg (by simp [h1]), if_neg (by simp [h2])]
  have : l.findSome? (ruleHit T work from_ name) = some b := by
    rw [← List.take_append_drop j l, List.findSome?_append, List.findSome?_eq_none_iff.2 hp, List.drop_eq_getElem_cons hj, List.findSome?_cons, h]; rfl
  rw [this]
theorem rulesFind_none {T : Hi} {l : List Rl} {work : ByteArray} {from_ : Int} {name : ByteArray} (h1 : rulesMay l = true) (h2 : mayN name = true) (hp : ∀ r ∈ l, ruleHit T work from_ name r = none) : rulesFind T l work from_ name = (noBn, 4) := by
  unfold rulesFind
  rw [if_neg (by simp [h1]), if_neg (by simp [h2]), List.findSome?_eq_none_iff.2 hp]
theorem ruleHit_acl {T : Hi} (hT : ∀ i, (T.br i).acl.length ≤ 1000000000) {work : ByteArray} {from_ : Int} {name : ByteArray} {r : Rl} {b : Bn} (h : ruleHit T work from_ name r = some b) : b.acl.length ≤ 1000000000 ∧ b.kind = 1 := by
  unfold ruleHit at h
  split at h
  · simp at h
  · split at h
    · rename_i d _ hh
      simp only [Option.some.injEq] at h
      rw [← h]; exact ⟨walkK_acl hT _ _ _, hh.2⟩
    · simp at h
theorem rulesFind_acl {T : Hi} (hT : ∀ i, (T.br i).acl.length ≤ 1000000000) (l : List Rl) (work : ByteArray) (from_ : Int) (name : ByteArray) : (rulesFind T l work from_ name).1.acl.length ≤ 1000000000 := by
  unfold rulesFind
  split
  · simp [noBn]
  · split
    · simp [noBn]
    · split
      · rename_i b hb
        obtain ⟨r, _, hr⟩ := List.exists_of_findSome?_eq_some hb
        exact (ruleHit_acl hT hr).1
      · simp [noBn]
end Go.Con
namespace Go.Proofs.YtncmgiddcefpcaaGreatDoor
open Go Go.Ev Go.Con
set_option linter.unusedSimpArgs false
set_option linter.unusedVariables false
set_option maxRecDepth 100000
theorem app_strA {h0 : Nat} {h : Hp} {v x : Value} {ps qs : List ByteArray} (g : StrGr h0 h v ps) (hh : h0 ≤ h.next) (hx : StrSl h x qs) (hb : ps.length + qs.length ≤ 1000000000) :
    ∃ v' h', evAppend kon.P 46 v x h = some (v', h') ∧ StrGr h0 h' v' (ps ++ qs) ∧ Kept h0 h h' := by
  by_cases hq : 1 ≤ qs.length
  · exact app_str g hh hx hq hb
  · have : qs = [] := List.length_eq_zero_iff.1 (by omega)
    subst this
    obtain ⟨j, e1, e2, e3⟩ := SlAt.cells hx
    have hj : j = 0 := by simpa [strs] using e3.symm
    subst hj
    refine ⟨v, h, ?_, by rw [List.append_nil]; exact g, Kept.refl _ _⟩
    have h1 : tSliceElem kon.P 46 = some 9 := by kernel_rfl
    have h2 : tSize kon.P 9 = some 1 := by kernel_rfl
    have h3 : tBytes kon.P 9 = some 16 := by kernel_rfl
    have h4 : tZero kon.P 9 = some (.string ByteArray.empty) := by kernel_rfl
    rcases g with ⟨rfl, hn⟩ | ⟨b, k, base, olds, y, rfl, hy, hk, hk1, hb', hg, hbase, hb0, holds⟩
    · unfold evAppend
      simp only [h1, h2, h3, h4, e1, Option.bind_some, cond_false, BEq.rfl, cond_true]
      rfl
    · unfold evAppend
      simp only [h1, h2, h3, h4, e1, Option.bind_some, cond_false, BEq.rfl, cond_true]
      rfl
def But (b : Nat) (h h' : Hp) : Prop := h.next ≤ h'.next ∧ ∀ k, k < h.next → k ≠ b → h'.get k = h.get k
theorem But.refl (b : Nat) (h : Hp) : But b h h := ⟨Nat.le_refl _, fun _ _ _ => rfl⟩
theorem But.trans {b : Nat} {a c d : Hp} (x : But b a c) (y : But b c d) : But b a d := ⟨Nat.le_trans x.1 y.1, fun k hk hb => (y.2 k (Nat.lt_of_lt_of_le hk x.1) hb).trans (x.2 k hk hb)⟩
theorem But.keep {b : Nat} {a c d : Hp} (x : But b a c) (y : Keep c d) : But b a d := ⟨Nat.le_trans x.1 y.1, fun k hk hb => (y.2 k (Nat.lt_of_lt_of_le hk x.1)).trans (x.2 k hk hb)⟩
theorem But.set (b : Nat) (h : Hp) (o : Ob) : But b h (h.set b o) := ⟨Nat.le_refl _, fun k _ hb => Hp.get_set_ne hb⟩
theorem StrSl.but {b : Nat} {h h' : Hp} {v : Value} {l : List ByteArray} (s : StrSl h v l) (x : But b h h') (hb : ∀ c k j, v ≠ .slice (some ⟨b, c, none⟩) k j) : StrSl h' v l := by
  rcases s with s | ⟨b', o, j, c, all, h1, h2, h3, h4, h5, h6⟩
  · exact .inl s
  · have hne : b' ≠ b := by rintro rfl; exact hb _ _ _ h1
    exact .inr ⟨b', o, j, c, all, h1, h2, Nat.lt_of_lt_of_le h3 x.1, by rw [rowOf_same (x.2 b' h3 hne)]; exact h4, h5, h6⟩
def wayC (bt : Nat) (d : Int) (v : Value) (m : Nat) : List Value := [.pointer (some ⟨bt, 0, none⟩), .int .i64 d, v, .int .i64 m]
structure StrW (h : Hp) (bw : Nat) (v : Value) (ps : List ByteArray) : Prop where
  s : StrSl h v ps
  ne : ∀ c k j, v ≠ .slice (some ⟨bw, c, none⟩) k j
theorem StrW.but {b : Nat} {h h' : Hp} {v : Value} {l : List ByteArray} (s : StrW h b v l) (x : But b h h') : StrW h' b v l := ⟨s.s.but x s.ne, s.ne⟩
theorem StrW.back {h : Hp} {bw : Nat} {v : Value} {n : ByteArray} {ps : List ByteArray} (s : StrW h bw v (n :: ps)) : ∃ u, evSlice kon.P 46 v (some (.int .i64 1)) none none = some u ∧ StrW h bw u ps := by
  obtain ⟨s, ne⟩ := s
  rcases s with ⟨rfl, hp⟩ | ⟨b, o, k, c, all, rfl, h2, h3, h4, h5, h6⟩
  · simp [strs] at hp
  · have hk : (n :: ps).length = k := by rw [strs_len] at h5; omega
    subst hk
    refine ⟨_, (L_sliceSl (C := kon) (t := 46) (e := 9) (n := 1) (by kernel_rfl) (by kernel_rfl)).1 b o (n :: ps).length c .i64 1 (by omega) (by simp; omega) h2, .inr ⟨b, o + 1 * 1, (n :: ps).length - 1, capTail c 1, all, rfl, by unfold capTail; omega, h3, h4, by rw [strs_len]; simp, ?_⟩, ?_⟩
    · have : strs ps = (strs (n :: ps)).drop 1 := by simp [strs]
      rw [this, ← h6, List.drop_take, List.drop_drop]
      congr 1
    · intro c' k' j' e
      simp only [Value.slice.injEq, Option.some.injEq, Addr.mk.injEq] at e
      exact ne o (n :: ps).length c (by rw [e.1.1])
theorem StrW.cell {h : Hp} {bw : Nat} {v : Value} {ps : List ByteArray} (s : StrW h bw v ps) : isCell v = true ∧ v.cells = #[v] := by rcases s.s with ⟨rfl, _⟩ | ⟨b, o, k, c, all, rfl, _⟩ <;> exact ⟨rfl, rfl⟩
set_option maxHeartbeats 2000000 in
theorem follow_spec {h : Hp} {bw bt m k : Nat} {d : Int} {v : Value} {qs : List ByteArray} (hr : h.get bw = some (.row (wayC bt d v m) 120 (.rw 0 []))) (hb : bw < h.next) (hk : k + m = 8) (s : StrW h bw v qs) (hq : qs.length ≤ 1000000) (p : ByteArray) :
    Meets kon 86 [.pointer (some ⟨bw, 0, none⟩), .string p] h fun u h' => But bw h h' ∧ match k, split p with
      | 0, _ => u = .int .i64 14
      | _ + 1, none => u = .int .i64 3
      | _ + 1, some l => u = .int .i64 0 ∧ ∃ v', h'.get bw = some (.row (wayC bt 0 v' (m + 1)) 120 (.rw 0 [])) ∧ StrW h' bw v' (l ++ qs) := by
  have q := rowOf_rw hr
  unfold wayC at hr q
  have wm : IntKind.i64.wrap ((m : Int) + 1) = ((m + 1 : Nat) : Int) := by rw [wrap64 (by omega) (by omega)]; omega
  refine Meets.mk rfl (by kernel_rfl) Tryz.func86 rfl (congrArg Array.toList Tryz.results86) ?_
  simp only [evr, evd, evq, beq_self_eq_true, cond_true, cond_false, reduceIte, Nat.reduceEqDiff, Nat.reduceAdd, Int.reduceBNe, Int.reduceBEq, Int.reduceLT, Int.reduceLE, Int.reduceEq, evh, evp, Nat.reduceLeDiff, Nat.reduceSub, Nat.reduceBEq, typs]
  rw [nextP_norm]
  simp only [evr, evd, evq, beq_self_eq_true, cond_true, cond_false, reduceIte, Nat.reduceEqDiff, Nat.reduceAdd, Int.reduceBNe, Int.reduceBEq, Int.reduceLT, Int.reduceLE, Int.reduceEq, evh, evp, Nat.reduceLeDiff, Nat.reduceSub, Nat.reduceBEq, typs, hr, q, wm]
  rw [nextP_norm]
  generalize hh : Hp.set _ _ _ = H1
  have b1 : But bw h H1 := by rw [← hh]; exact But.set _ _ _
  have n1 : H1.next = h.next := by rw [← hh]; rfl
  have g1 : H1.get bw = some (.row (wayC bt d v (m + 1)) 120 (.rw 0 [])) := by rw [← hh]; exact Hp.get_set_self _ _ _
  clear hh
  have q1 := rowOf_rw g1
  unfold wayC at g1 q1
  have s1 := s.but b1
  obtain ⟨c1, c2⟩ := s.cell
  cases k with
  | zero =>
    have f1 : decide ((8 : Int) < ((m + 1 : Nat) : Int)) = true := decide_eq_true (by omega)
    repeat' (first | simp only [evr, nextP_norm, evd, evq, beq_self_eq_true, cond_true, cond_false, reduceIte, Nat.reduceEqDiff, Nat.reduceAdd, Int.reduceBNe, Int.reduceBEq, Int.reduceLT, Int.reduceLE, Int.reduceEq, evh, evp, Nat.reduceLeDiff, Nat.reduceSub, Nat.reduceBEq, typs, q1, f1] | refine kCond2_by (fun hc => ?_) (fun hc => ?_) <;> try simp only [hc] | refine kPick_by (fun hc => ?_) (fun hc => ?_) <;> try simp only [hc] | refine kWant_by (fun hc => ?_) (fun hc => ?_) <;> try simp only [hc])
    exact b1
  | succ k =>
    have f1 : decide ((8 : Int) < ((m + 1 : Nat) : Int)) = false := decide_eq_false (by omega)
    repeat' (first | simp only [evr, nextP_norm, evd, evq, beq_self_eq_true, cond_true, cond_false, reduceIte, Nat.reduceEqDiff, Nat.reduceAdd, Int.reduceBNe, Int.reduceBEq, Int.reduceLT, Int.reduceLE, Int.reduceEq, evh, evp, Nat.reduceLeDiff, Nat.reduceSub, Nat.reduceBEq, typs, q1, f1] | refine kCond2_by (fun hc => ?_) (fun hc => ?_) <;> try simp only [hc] | refine kPick_by (fun hc => ?_) (fun hc => ?_) <;> try simp only [hc] | refine kWant_by (fun hc => ?_) (fun hc => ?_) <;> try simp only [hc])
    refine callP_meets (split_spec p H1) ?_
    rintro u H2 ⟨k2, hu⟩
    cases hs : split p with
    | none =>
      rw [hs] at hu
      simp only at hu
      subst hu
      repeat' (first | simp only [evr, nextP_norm, evd, evq, beq_self_eq_true, cond_true, cond_false, reduceIte, Nat.reduceEqDiff, Nat.reduceAdd, Int.reduceBNe, Int.reduceBEq, Int.reduceLT, Int.reduceLE, Int.reduceEq, evh, evp, Nat.reduceLeDiff, Nat.reduceSub, Nat.reduceBEq, typs] | refine kCond2_by (fun hc => ?_) (fun hc => ?_) <;> try simp only [hc] | refine kPick_by (fun hc => ?_) (fun hc => ?_) <;> try simp only [hc] | refine kWant_by (fun hc => ?_) (fun hc => ?_) <;> try simp only [hc])
      exact b1.keep k2
    | some l =>
      rw [hs] at hu
      simp only at hu
      obtain ⟨sl, rfl, g⟩ := hu
      obtain ⟨_, hl16, _, _⟩ := split_all hs
      obtain ⟨v', H3, ea, g', kp⟩ := app_strA g k2.1 (SlAt.keep s1.s k2) (by omega)
      have n2 := k2.1
      have n3 := kp.1
      have q2 := (k2.row (by omega)).trans q1
      have g3 : H3.get bw = _ := (kp.2 bw (by omega)).trans ((k2.2 bw (by omega)).trans g1)
      have q3 := rowOf_rw g3
      have e1 : isCell v' = true ∧ v'.cells = #[v'] := by rcases g' with ⟨rfl, _⟩ | ⟨b, k, base, olds, x, rfl, _⟩ <;> exact ⟨rfl, rfl⟩
      obtain ⟨e1, e2⟩ := e1
      repeat' (first | simp only [evr, nextP_norm, evd, evq, beq_self_eq_true, cond_true, cond_false, reduceIte, Nat.reduceEqDiff, Nat.reduceAdd, Int.reduceBNe, Int.reduceBEq, Int.reduceLT, Int.reduceLE, Int.reduceEq, evh, evp, Nat.reduceLeDiff, Nat.reduceSub, Nat.reduceBEq, typs, q2, ea, g3, q3, c1, c2, e1, e2] | refine kCond2_by (fun hc => ?_) (fun hc => ?_) <;> try simp only [hc] | refine kPick_by (fun hc => ?_) (fun hc => ?_) <;> try simp only [hc] | refine kWant_by (fun hc => ?_) (fun hc => ?_) <;> try simp only [hc])
      have K13 : Keep H1 H3 := ⟨Nat.le_trans n2 n3, fun j hj => (kp.2 j hj).trans (k2.2 j hj)⟩
      have w3 : StrW H3 bw v' (l ++ qs) := ⟨g'.slAt, fun c k j e => by
        rcases g' with ⟨rfl, _⟩ | ⟨b, k', base, olds, x, rfl, _, _, _, _, _, _, hb0, _⟩
        · cases e
        · simp only [Value.slice.injEq, Option.some.injEq, Addr.mk.injEq] at e
          omega⟩
      exact ⟨((b1.keep K13).trans (But.set _ _ _)).trans (But.set _ _ _), v', rfl, (w3.but (But.set _ _ _)).but (But.set _ _ _)⟩
theorem root_spec (h : Hp) : Meets kon 87 [] h fun v h' => v = .agg (bnC rootB (.slice none 0 0)).toArray ∧ Keep h h' := by
  refine Meets.mk rfl (by kernel_rfl) Tryz.func87 rfl (congrArg Array.toList Tryz.results87) ?_
  simp only [evr, evd, evq, beq_self_eq_true, cond_true, cond_false, reduceIte, Nat.reduceEqDiff, Nat.reduceAdd, Int.reduceBNe, Int.reduceBEq, Int.reduceLT, Int.reduceLE, Int.reduceEq, evh, evp, Nat.reduceLeDiff, Nat.reduceSub, Nat.reduceBEq, typs]
  rw [nextP_norm]
  generalize hh : Hp.push _ _ = H
  have kH : Keep h H := by rw [← hh]; exact Keep.push _ _
  have gy : H.get h.next = some (.row [.int .i64 0, .int .i64 0, .int .i64 0, .string ByteArray.empty, .bool false, .slice none 0 0, .int .i64 0, .int .i64 0, .int .i64 0, .int .i64 0] 40 (.rw 0 [])) := by rw [← hh]; exact Hp.get_push_self _ _
  clear hh
  have qy := rowOf_rw gy
  have eb : evBuild kon.P 40 [(0, .int .i64 2)] = some (.agg #[.int .i64 2, .int .i64 0, .int .i64 0, .string ByteArray.empty, .bool false, .slice none 0 0, .int .i64 0, .int .i64 0, .int .i64 0, .int .i64 0]) := by kernel_rfl
  repeat' (first | simp only [evr, nextP_norm, evd, evq, beq_self_eq_true, cond_true, cond_false, reduceIte, Nat.reduceEqDiff, Nat.reduceAdd, Int.reduceBNe, Int.reduceBEq, Int.reduceLT, Int.reduceLE, Int.reduceEq, evh, evp, Nat.reduceLeDiff, Nat.reduceSub, Nat.reduceBEq, typs, eb, gy, qy] | refine kCond2_by (fun hc => ?_) (fun hc => ?_) <;> try simp only [hc] | refine kPick_by (fun hc => ?_) (fun hc => ?_) <;> try simp only [hc] | refine kWant_by (fun hc => ?_) (fun hc => ?_) <;> try simp only [hc])
  exact ⟨rfl, kH.set (Nat.le_refl _)⟩
end Go.Proofs.YtncmgiddcefpcaaGreatDoor
namespace Go.Proofs.YtncmgiddcefpcaaGreatDoor
open Go Go.Ev Go.Con
set_option linter.unusedSimpArgs false
set_option linter.unusedVariables false
set_option maxRecDepth 100000
theorem SlTy.more {h : Hp} {F F' : Nat → Prop} {e n : Nat} {v : Value} {cs : List Value} (s : SlTy h F e n v cs) (hF : ∀ k, F k → F' k) : SlTy h F' e n v cs := by
  rcases s with s | ⟨b, o, k, c, all, st, h1, h2, hb, h3, h4, h5⟩
  · exact .inl s
  · exact .inr ⟨b, o, k, c, all, st, h1, h2, hF b hb, h3, h4, h5⟩
theorem zero_build : evBuild kon.P 40 [] = some (.agg #[.int .i64 0, .int .i64 0, .int .i64 0, .string ByteArray.empty, .bool false, .slice none 0 0, .int .i64 0, .int .i64 0, .int .i64 0, .int .i64 0]) := by kernel_rfl
set_option maxHeartbeats 4000000 in
theorem last_spec {h : Hp} {F : Nat → Prop} {T : Hi} {bt bw m k : Nat} {d : Int} {v : Value} {ps : List ByteArray} (t : TreeAt h F T bt) (hr : h.get bw = some (.row (wayC bt d v m) 120 (.rw 0 []))) (hb : bw < h.next) (hbF : ¬ F bw) (hk : k + m = 8) (s : StrW h bw v ps) (hz : ps.length + 16 * k ≤ 1000) :
    Meets kon 56 [.pointer (some ⟨bw, 0, none⟩)] h fun u h' => ∃ sl, u = .tuple #[.agg (bnC (walkK T k d ps).1.1 sl).toArray, .int .i64 (walkK T k d ps).1.2] ∧ TmTy h' (fun j => h.next ≤ j) sl (walkK T k d ps).1.1.acl ∧ But bw h h' := by
  generalize hR : (walkK T k d ps).1 = R
  refine Meets.mk rfl (by kernel_rfl) Tryz.func56 rfl (congrArg Array.toList Tryz.results56) ?_
  simp only [evr, evd, evq, beq_self_eq_true, cond_true, cond_false, reduceIte, Nat.reduceEqDiff, Nat.reduceAdd, Int.reduceBNe, Int.reduceBEq, Int.reduceLT, Int.reduceLE, Int.reduceEq, evh, evp, Nat.reduceLeDiff, Nat.reduceSub, Nat.reduceBEq, typs]
  rw [nextP_norm]
  generalize hh : Hp.push _ _ = H0
  have k0 : Keep h H0 := by rw [← hh]; exact Keep.push _ _
  have n0 : H0.next = h.next + 1 := by rw [← hh]; rfl
  have z0 : H0.get h.next = some (.row [.int .i64 0, .int .i64 0, .int .i64 0, .string ByteArray.empty, .bool false, .slice none 0 0, .int .i64 0, .int .i64 0, .int .i64 0, .int .i64 0] 40 (.rw 0 [])) := by rw [← hh]; exact Hp.get_push_self _ _
  clear hh
  repeat' (first | simp only [evr, nextP_norm, evd, evq, beq_self_eq_true, cond_true, cond_false, reduceIte, Nat.reduceEqDiff, Nat.reduceAdd, Int.reduceBNe, Int.reduceBEq, Int.reduceLT, Int.reduceLE, Int.reduceEq, evh, evp, Nat.reduceLeDiff, Nat.reduceSub, Nat.reduceBEq, typs] | refine kCond2_by (fun hc => ?_) (fun hc => ?_) <;> try simp only [hc] | refine kPick_by (fun hc => ?_) (fun hc => ?_) <;> try simp only [hc] | refine kWant_by (fun hc => ?_) (fun hc => ?_) <;> try simp only [hc])
  refine Wp_loop (fun N fr h' => ∃ (k' m' : Nat) (d' : Int) (v' : Value) (ps' : List ByteArray), N = 17 * k' + ps'.length ∧ k' + m' = 8 ∧ (walkK T k' d' ps').1 = R ∧ h'.get bw = some (.row (wayC bt d' v' m') 120 (.rw 0 [])) ∧ StrW h' bw v' ps' ∧ ps'.length + 16 * k' ≤ 1000 ∧ But bw H0 h' ∧
    fr.get 0 = some (.pointer (some ⟨bw, 0, none⟩)) ∧ fr.get 2 = some (.pointer (some ⟨h.next, 0, none⟩)) ∧ fr.get 3 = some (.int .i64 0)) (17 * k + ps.length) ⟨k, m, d, v, ps, rfl, hk, hR, (k0.2 bw hb).trans hr, s.but ⟨k0.1, fun j hj _ => k0.2 j hj⟩, hz, But.refl _ _, ?_, ?_, ?_⟩ ?_
  · repeat' (first | simp only [evr, nextP_norm, evd, evq, beq_self_eq_true, cond_true, cond_false, reduceIte, Nat.reduceEqDiff, Nat.reduceAdd, Int.reduceBNe, Int.reduceBEq, Int.reduceLT, Int.reduceLE, Int.reduceEq, evh, evp, Nat.reduceLeDiff, Nat.reduceSub, Nat.reduceBEq, typs] | refine kCond2_by (fun hc => ?_) (fun hc => ?_) <;> try simp only [hc] | refine kPick_by (fun hc => ?_) (fun hc => ?_) <;> try simp only [hc] | refine kWant_by (fun hc => ?_) (fun hc => ?_) <;> try simp only [hc])
  · repeat' (first | simp only [evr, nextP_norm, evd, evq, beq_self_eq_true, cond_true, cond_false, reduceIte, Nat.reduceEqDiff, Nat.reduceAdd, Int.reduceBNe, Int.reduceBEq, Int.reduceLT, Int.reduceLE, Int.reduceEq, evh, evp, Nat.reduceLeDiff, Nat.reduceSub, Nat.reduceBEq, typs] | refine kCond2_by (fun hc => ?_) (fun hc => ?_) <;> try simp only [hc] | refine kPick_by (fun hc => ?_) (fun hc => ?_) <;> try simp only [hc] | refine kWant_by (fun hc => ?_) (fun hc => ?_) <;> try simp only [hc])
  · repeat' (first | simp only [evr, nextP_norm, evd, evq, beq_self_eq_true, cond_true, cond_false, reduceIte, Nat.reduceEqDiff, Nat.reduceAdd, Int.reduceBNe, Int.reduceBEq, Int.reduceLT, Int.reduceLE, Int.reduceEq, evh, evp, Nat.reduceLeDiff, Nat.reduceSub, Nat.reduceBEq, typs] | refine kCond2_by (fun hc => ?_) (fun hc => ?_) <;> try simp only [hc] | refine kPick_by (fun hc => ?_) (fun hc => ?_) <;> try simp only [hc] | refine kWant_by (fun hc => ?_) (fun hc => ?_) <;> try simp only [hc])
  clear hr s hk hz hR
  rintro N fr H ⟨k', m', d', v', ps', rfl, hk, hR, hr, s, hz, bu, g0, g2, g3⟩
  have nH := bu.1
  have tH : TreeAt H F T bt := t.keep (by omega) fun j hj => (bu.2 j (by have := t.ltF' hj; omega) (by rintro rfl; exact hbF hj)).trans (k0.2 j (t.ltF' hj))
  have zH : H.get h.next = _ := (bu.2 h.next (by omega) (by omega)).trans z0
  have qz := rowOf_rw zH
  have q := rowOf_rw hr
  unfold wayC at q hr
  have ls := StrSl.len s.s
  -- the end: the result's block is set
  have fin : ∀ {H' : Hp} {o : Ob}, Keep H H' → But bw h (H'.set h.next o) := fun {H' o} kk => ⟨by rw [Hp.next_set]; have := kk.1; omega, fun j hj hne => by
    rw [Hp.get_set_ne (by omega)]; exact (kk.2 j (by omega)).trans ((bu.2 j (by omega) hne).trans (k0.2 j hj))⟩
  cases ps' with
  | nil =>
    rw [walkK_nil] at hR
    have f1 : decide ((0 : Int) < ((0 : Nat) : Int)) = false := rfl
    repeat' (first | simp only [evr, nextP_norm, evd, evq, beq_self_eq_true, cond_true, cond_false, reduceIte, Nat.reduceEqDiff, Nat.reduceAdd, Int.reduceBNe, Int.reduceBEq, Int.reduceLT, Int.reduceLE, Int.reduceEq, evh, evp, Nat.reduceLeDiff, Nat.reduceSub, Nat.reduceBEq, typs, g0, g2, g3, q, ls, f1] | refine kCond2_by (fun hc => ?_) (fun hc => ?_) <;> try simp only [hc] | refine kPick_by (fun hc => ?_) (fun hc => ?_) <;> try simp only [hc] | refine kWant_by (fun hc => ?_) (fun hc => ?_) <;> try simp only [hc])
    refine callP_meets (root_spec H) ?_
    rintro _ H2 ⟨rfl, k2⟩
    unfold bnC rootB noBk
    have zH2 := (k2.2 _ (by omega)).trans zH
    have qz2 := rowOf_rw zH2
    repeat' (first | simp only [evr, nextP_norm, evd, evq, beq_self_eq_true, cond_true, cond_false, reduceIte, Nat.reduceEqDiff, Nat.reduceAdd, Int.reduceBNe, Int.reduceBEq, Int.reduceLT, Int.reduceLE, Int.reduceEq, evh, evp, Nat.reduceLeDiff, Nat.reduceSub, Nat.reduceBEq, typs, g0, g2, g3, zH2, qz2] | refine kCond2_by (fun hc => ?_) (fun hc => ?_) <;> try simp only [hc] | refine kPick_by (fun hc => ?_) (fun hc => ?_) <;> try simp only [hc] | refine kWant_by (fun hc => ?_) (fun hc => ?_) <;> try simp only [hc])
    subst hR
    exact ⟨.slice none 0 0, rfl, .inl ⟨rfl, rfl⟩, fin k2⟩
  | cons n qs =>
    have ls : evLen kon.P 46 v' = some (.int .i64 ((qs.length + 1 : Nat) : Int)) := ls
    have f1 : decide ((0 : Int) < ((qs.length + 1 : Nat) : Int)) = true := decide_eq_true (by omega)
    obtain ⟨pb, po, pall, a1, a2, a3⟩ := StrSl.at2 s.s (i := 0) (x := n) rfl
    have a1 : evIndexAddr kon.P 46 v' (.int .i64 0) = some (.pointer (some ⟨pb, po, none⟩)) := a1
    repeat' (first | simp only [evr, nextP_norm, evd, evq, beq_self_eq_true, cond_true, cond_false, reduceIte, Nat.reduceEqDiff, Nat.reduceAdd, Int.reduceBNe, Int.reduceBEq, Int.reduceLT, Int.reduceLE, Int.reduceEq, evh, evp, Nat.reduceLeDiff, Nat.reduceSub, Nat.reduceBEq, typs, g0, g2, g3, q, ls, f1, a1, a2, a3] | refine kCond2_by (fun hc => ?_) (fun hc => ?_) <;> try simp only [hc] | refine kPick_by (fun hc => ?_) (fun hc => ?_) <;> try simp only [hc] | refine kWant_by (fun hc => ?_) (fun hc => ?_) <;> try simp only [hc])
    refine Wp_drawE [0, 0, 0, 1, 0, 0, 0, 1, 0, 4, 0, 0, 0, 2, 4, 0] (KR.mk (by kernel_rfl)) ?_
    repeat' (first | simp only [evr, nextP_norm, evd, evq, beq_self_eq_true, cond_true, cond_false, reduceIte, Nat.reduceEqDiff, Nat.reduceAdd, Int.reduceBNe, Int.reduceBEq, Int.reduceLT, Int.reduceLE, Int.reduceEq, evh, evp, Nat.reduceLeDiff, Nat.reduceSub, Nat.reduceBEq, typs, g0, g2, g3, q] | refine kCond2_by (fun hc => ?_) (fun hc => ?_) <;> try simp only [hc] | refine kPick_by (fun hc => ?_) (fun hc => ?_) <;> try simp only [hc] | refine kWant_by (fun hc => ?_) (fun hc => ?_) <;> try simp only [hc])
    have lk := tLook_spec tH d' n
    unfold ptrV at lk
    refine callP_meets lk ?_
    rintro _ H2 ⟨k2, hv⟩
    have n2 := k2.1
    have q2 := (k2.row (by omega)).trans q
    have dne : (bw = H2.next) = False := eq_false (by omega)
    rw [walkK_cons] at hR
    cases hl : T.look d' n with
    | none =>
      rw [hl] at hv hR
      simp only at hv hR
      subst hv
      unfold noneV
      simp only [evr, evd, evq, beq_self_eq_true, cond_true, cond_false, reduceIte, Nat.reduceEqDiff, Nat.reduceAdd, Int.reduceBNe, Int.reduceBEq, Int.reduceLT, Int.reduceLE, Int.reduceEq, evh, evp, Nat.reduceLeDiff, Nat.reduceSub, Nat.reduceBEq, typs, g0, g2, g3, q, q2, dne, if_false]
      rw [nextP_norm]
      generalize hh : Hp.set _ _ _ = H3
      have k3 : Keep H2 H3 := by rw [← hh]; exact (Keep.push _ _).set (Nat.le_refl _)
      clear hh
      have zH3 := (k3.2 _ (by omega)).trans ((k2.2 _ (by omega)).trans zH)
      have qz3 := rowOf_rw zH3
      repeat' (first | simp only [evr, nextP_norm, evd, evq, beq_self_eq_true, cond_true, cond_false, reduceIte, Nat.reduceEqDiff, Nat.reduceAdd, Int.reduceBNe, Int.reduceBEq, Int.reduceLT, Int.reduceLE, Int.reduceEq, evh, evp, Nat.reduceLeDiff, Nat.reduceSub, Nat.reduceBEq, typs, g0, g2, g3, zero_build, zH3, qz3] | refine kCond2_by (fun hc => ?_) (fun hc => ?_) <;> try simp only [hc] | refine kPick_by (fun hc => ?_) (fun hc => ?_) <;> try simp only [hc] | refine kWant_by (fun hc => ?_) (fun hc => ?_) <;> try simp only [hc])
      subst hR
      exact ⟨.slice none 0 0, rfl, .inl ⟨rfl, rfl⟩, fin (k2.trans k3)⟩
    | some b =>
      rw [hl] at hv hR
      simp only at hv hR
      obtain ⟨sl, rfl, ty⟩ := hv
      obtain ⟨c1, c2⟩ := TmTy.cell ty
      unfold outV bnC
      simp only [evr, evd, evq, beq_self_eq_true, cond_true, cond_false, reduceIte, Nat.reduceEqDiff, Nat.reduceAdd, Int.reduceBNe, Int.reduceBEq, Int.reduceLT, Int.reduceLE, Int.reduceEq, evh, evp, Nat.reduceLeDiff, Nat.reduceSub, Nat.reduceBEq, typs, g0, g2, g3, q, q2, dne, if_false, c1, c2]
      rw [nextP_norm]
      generalize hh : Hp.set _ _ _ = H3
      have k3 : Keep H2 H3 := by rw [← hh]; exact (Keep.push _ _).set (Nat.le_refl _)
      have n3 : H3.next = H2.next + 1 := by rw [← hh]; rfl
      have g6 : H3.get H2.next = some (.row (bnC b sl) 40 (.rw 0 [])) := by rw [← hh]; exact Hp.get_set_self _ _ _
      clear hh
      have k23 := k2.trans k3
      have zH3 := (k3.2 _ (by omega)).trans ((k2.2 _ (by omega)).trans zH)
      have r3 := (k23.2 bw (by omega)).trans hr
      have q3 := rowOf_rw r3
      have ty3 : TmTy H3 (fun j => h.next < j) sl b.acl := SlTy.more (SlTy.keepF (SlTy.within ty) k3.1 fun j hj => k3.2 j hj.2) fun j hj => by have := hj.1; omega
      obtain ⟨u, eu, su⟩ := (s.but ⟨k23.1, fun j hj _ => k23.2 j hj⟩).back
      obtain ⟨e1, e2⟩ := su.cell
      obtain ⟨w1, w2⟩ := s.cell
      repeat' (first | simp only [evr, nextP_norm, evd, evq, beq_self_eq_true, cond_true, cond_false, reduceIte, Nat.reduceEqDiff, Nat.reduceAdd, Int.reduceBNe, Int.reduceBEq, Int.reduceLT, Int.reduceLE, Int.reduceEq, evh, evp, Nat.reduceLeDiff, Nat.reduceSub, Nat.reduceBEq, typs] | refine kCond2_by (fun hc => ?_) (fun hc => ?_) <;> try simp only [hc] | refine kPick_by (fun hc => ?_) (fun hc => ?_) <;> try simp only [hc] | refine kWant_by (fun hc => ?_) (fun hc => ?_) <;> try simp only [hc])
      simp only [evr, evd, evq, beq_self_eq_true, cond_true, cond_false, reduceIte, Nat.reduceEqDiff, Nat.reduceAdd, Int.reduceBNe, Int.reduceBEq, Int.reduceLT, Int.reduceLE, Int.reduceEq, evh, evp, Nat.reduceLeDiff, Nat.reduceSub, Nat.reduceBEq, typs, g0, g2, g3, q3, eu, r3, e1, e2, w1, w2]
      rw [nextP_norm]
      generalize hh : Hp.set _ _ _ = H4
      have b34 : But bw H3 H4 := by rw [← hh]; exact But.set _ _ _
      have n4 : H4.next = H3.next := by rw [← hh]; rfl
      have r4 : H4.get bw = some (.row (wayC bt d' u m') 120 (.rw 0 [])) := by rw [← hh]; exact Hp.get_set_self _ _ _
      clear hh
      have su4 := su.but b34
      have q6 := rowOf_rw ((b34.2 _ (by omega) (by omega)).trans g6)
      have ty4 : TmTy H4 (fun j => h.next < j ∧ j < H3.next) sl b.acl := SlTy.keepF (SlTy.within ty3) b34.1 fun j hj => b34.2 j hj.2 (by omega)
      have bu4 : But bw H0 H4 := (bu.keep k23).trans b34
      have bn : ∀ {H' : Hp} {o : Ob}, But bw H4 H' → But bw h (H'.set h.next o) := fun {H' o} kk => ⟨by rw [Hp.next_set]; have := kk.1; omega, fun j hj hne => by
        rw [Hp.get_set_ne (by omega)]; exact (kk.2 j (by omega) hne).trans ((bu4.2 j (by omega) hne).trans (k0.2 j hj))⟩
      have zH4 := (b34.2 _ (by omega) (by omega)).trans zH3
      have q4 := rowOf_rw r4
      unfold bnC at q6
      unfold wayC at q4
      by_cases h3 : b.kind = 3
      · have f3 : (b.kind == 3) = true := by simp [h3]
        rw [if_pos h3] at hR
        repeat' (first | simp only [evr, nextP_norm, evd, evq, beq_self_eq_true, cond_true, cond_false, reduceIte, Nat.reduceEqDiff, Nat.reduceAdd, Int.reduceBNe, Int.reduceBEq, Int.reduceLT, Int.reduceLE, Int.reduceEq, evh, evp, Nat.reduceLeDiff, Nat.reduceSub, Nat.reduceBEq, typs, g0, g2, g3, q6, f3] | refine kCond2_by (fun hc => ?_) (fun hc => ?_) <;> try simp only [hc] | refine kPick_by (fun hc => ?_) (fun hc => ?_) <;> try simp only [hc] | refine kWant_by (fun hc => ?_) (fun hc => ?_) <;> try simp only [hc])
        refine callP_meets (follow_spec r4 (by omega) hk su4 (by simp at hz; omega) b.link) ?_
        rintro u' H5 ⟨b5, hu⟩
        have n5 := b5.1
        have zH5 := (b5.2 _ (by omega) (by omega)).trans zH4
        have qz5 := rowOf_rw zH5
        cases k' with
        | zero =>
          simp only at hu hR
          subst hu
          repeat' (first | simp only [evr, nextP_norm, evd, evq, beq_self_eq_true, cond_true, cond_false, reduceIte, Nat.reduceEqDiff, Nat.reduceAdd, Int.reduceBNe, Int.reduceBEq, Int.reduceLT, Int.reduceLE, Int.reduceEq, evh, evp, Nat.reduceLeDiff, Nat.reduceSub, Nat.reduceBEq, typs, g0, g2, g3, zero_build, zH5, qz5] | refine kCond2_by (fun hc => ?_) (fun hc => ?_) <;> try simp only [hc] | refine kPick_by (fun hc => ?_) (fun hc => ?_) <;> try simp only [hc] | refine kWant_by (fun hc => ?_) (fun hc => ?_) <;> try simp only [hc])
          subst hR
          exact ⟨.slice none 0 0, rfl, .inl ⟨rfl, rfl⟩, bn b5⟩
        | succ k' =>
          cases hs : split b.link with
          | none =>
            rw [hs] at hu hR
            simp only at hu hR
            subst hu
            repeat' (first | simp only [evr, nextP_norm, evd, evq, beq_self_eq_true, cond_true, cond_false, reduceIte, Nat.reduceEqDiff, Nat.reduceAdd, Int.reduceBNe, Int.reduceBEq, Int.reduceLT, Int.reduceLE, Int.reduceEq, evh, evp, Nat.reduceLeDiff, Nat.reduceSub, Nat.reduceBEq, typs, g0, g2, g3, zero_build, zH5, qz5] | refine kCond2_by (fun hc => ?_) (fun hc => ?_) <;> try simp only [hc] | refine kPick_by (fun hc => ?_) (fun hc => ?_) <;> try simp only [hc] | refine kWant_by (fun hc => ?_) (fun hc => ?_) <;> try simp only [hc])
            subst hR
            exact ⟨.slice none 0 0, rfl, .inl ⟨rfl, rfl⟩, bn b5⟩
          | some l =>
            rw [hs] at hu hR
            simp only at hu hR
            obtain ⟨rfl, v'', r5, s5⟩ := hu
            obtain ⟨_, hl16, _, _⟩ := split_all hs
            repeat' (first | simp only [evr, nextP_norm, evd, evq, beq_self_eq_true, cond_true, cond_false, reduceIte, Nat.reduceEqDiff, Nat.reduceAdd, Int.reduceBNe, Int.reduceBEq, Int.reduceLT, Int.reduceLE, Int.reduceEq, evh, evp, Nat.reduceLeDiff, Nat.reduceSub, Nat.reduceBEq, typs, g0, g2, g3] | refine kCond2_by (fun hc => ?_) (fun hc => ?_) <;> try simp only [hc] | refine kPick_by (fun hc => ?_) (fun hc => ?_) <;> try simp only [hc] | refine kWant_by (fun hc => ?_) (fun hc => ?_) <;> try simp only [hc])
            have hll : (l ++ qs).length ≤ 16 + qs.length := by rw [List.length_append]; omega
            have hz' : qs.length + 1 + 16 * (k' + 1) ≤ 1000 := by simpa using hz
            exact ⟨17 * k' + (l ++ qs).length, by omega, k', m' + 1, 0, v'', l ++ qs, rfl, by omega, hR, r5, s5, by omega, bu4.trans b5⟩
      · have f3 : (b.kind == 3) = false := by simp [h3]
        rw [if_neg h3] at hR
        generalize he : (((qs.length + 1 : Nat) : Int) == 1) = eb
        cases qs with
        | nil =>
          rw [if_pos rfl] at hR
          have f5 : eb = true := by rw [← he]; rfl
          have qz4 := rowOf_rw zH4
          repeat' (first | simp only [evr, nextP_norm, evd, evq, beq_self_eq_true, cond_true, cond_false, reduceIte, Nat.reduceEqDiff, Nat.reduceAdd, Int.reduceBNe, Int.reduceBEq, Int.reduceLT, Int.reduceLE, Int.reduceEq, evh, evp, Nat.reduceLeDiff, Nat.reduceSub, Nat.reduceBEq, typs, g0, g2, g3, q6, f3, f5, zH4, qz4, c1, c2] | refine kCond2_by (fun hc => ?_) (fun hc => ?_) <;> try simp only [hc] | refine kPick_by (fun hc => ?_) (fun hc => ?_) <;> try simp only [hc] | refine kWant_by (fun hc => ?_) (fun hc => ?_) <;> try simp only [hc])
          subst hR
          exact ⟨sl, rfl, SlTy.more (SlTy.keepF ty4 (Nat.le_refl _) fun j hj => Hp.get_set_ne (by have := hj.1; omega)) fun j hj => Nat.le_of_lt hj.1, bn (But.refl _ _)⟩
        | cons n' qs =>
          rw [if_neg (by simp)] at hR
          have f5 : eb = false := by rw [← he]; simp; omega
          have qz4 := rowOf_rw zH4
          by_cases h1 : b.kind = 1
          · rw [if_pos h1] at hR
            have f1 : (b.kind == 1) = true := by simp [h1]
            repeat' (first | simp only [evr, nextP_norm, evd, evq, beq_self_eq_true, cond_true, cond_false, reduceIte, Nat.reduceEqDiff, Nat.reduceAdd, Int.reduceBNe, Int.reduceBEq, Int.reduceLT, Int.reduceLE, Int.reduceEq, evh, evp, Nat.reduceLeDiff, Nat.reduceSub, Nat.reduceBEq, typs, g0, g2, g3, q6, f3, f5, f1, zH4, qz4, zero_build] | refine kCond2_by (fun hc => ?_) (fun hc => ?_) <;> try simp only [hc] | refine kPick_by (fun hc => ?_) (fun hc => ?_) <;> try simp only [hc] | refine kWant_by (fun hc => ?_) (fun hc => ?_) <;> try simp only [hc])
            subst hR
            exact ⟨.slice none 0 0, rfl, .inl ⟨rfl, rfl⟩, bn (But.refl _ _)⟩
          · rw [if_neg h1] at hR
            have f1 : (b.kind == 1) = false := by simp [h1]
            have r4' := r4
            unfold wayC at r4'
            repeat' (first | simp only [evr, nextP_norm, evd, evq, beq_self_eq_true, cond_true, cond_false, reduceIte, Nat.reduceEqDiff, Nat.reduceAdd, Int.reduceBNe, Int.reduceBEq, Int.reduceLT, Int.reduceLE, Int.reduceEq, evh, evp, Nat.reduceLeDiff, Nat.reduceSub, Nat.reduceBEq, typs, g0, g2, g3, q6, f3, f5, f1, zH4, qz4, q4, r4', e1, e2] | refine kCond2_by (fun hc => ?_) (fun hc => ?_) <;> try simp only [hc] | refine kPick_by (fun hc => ?_) (fun hc => ?_) <;> try simp only [hc] | refine kWant_by (fun hc => ?_) (fun hc => ?_) <;> try simp only [hc])
            have hz' : qs.length + 1 + 1 + 16 * k' ≤ 1000 := by simpa using hz
            refine ⟨17 * k' + (n' :: qs).length, by simp, k', m', b.dir, u, n' :: qs, rfl, hk, hR, ?_, su4.but (But.set _ _ _), by simp; omega, bu4.trans (But.set _ _ _)⟩
            rfl
end Go.Proofs.YtncmgiddcefpcaaGreatDoor
namespace Go.Proofs.YtncmgiddcefpcaaGreatDoor
open Go Go.Ev Go.Con
set_option linter.unusedSimpArgs false
set_option linter.unusedVariables false
set_option maxRecDepth 100000
theorem begun_spec (bt : Nat) (p : ByteArray) (h : Hp) : Meets kon 55 [.pointer (some ⟨bt, 0, none⟩), .string p] h fun u h' => Keep h h' ∧ ∃ bw, h.next ≤ bw ∧ bw < h'.next ∧ match split p with
      | none => u = .tuple #[.pointer (some ⟨bw, 0, none⟩), .int .i64 3]
      | some l => u = .tuple #[.pointer (some ⟨bw, 0, none⟩), .int .i64 0] ∧ ∃ v, h'.get bw = some (.row (wayC bt 0 v 0) 120 (.rw 0 [])) ∧ StrW h' bw v l := by
  have ep : (some (⟨bt, 0, none⟩ : Addr) == none) = false := rfl
  refine Meets.mk rfl (by kernel_rfl) Tryz.func55 rfl (congrArg Array.toList Tryz.results55) ?_
  repeat' (first | simp only [evr, nextP_norm, evd, evq, beq_self_eq_true, cond_true, cond_false, reduceIte, Nat.reduceEqDiff, Nat.reduceAdd, Int.reduceBNe, Int.reduceBEq, Int.reduceLT, Int.reduceLE, Int.reduceEq, evh, evp, Nat.reduceLeDiff, Nat.reduceSub, Nat.reduceBEq, typs, ep] | refine kCond2_by (fun hc => ?_) (fun hc => ?_) <;> try simp only [hc] | refine kPick_by (fun hc => ?_) (fun hc => ?_) <;> try simp only [hc] | refine kWant_by (fun hc => ?_) (fun hc => ?_) <;> try simp only [hc])
  refine callP_meets (split_spec p h) ?_
  rintro u H2 ⟨k2, hu⟩
  have eb : ∀ v : Value, (v = .slice none 0 0 ∨ ∃ b o k c, v = .slice (some ⟨b, o, none⟩) k c) → evBuild kon.P 120 [(0, .pointer (some ⟨bt, 0, none⟩)), (2, v)] = some (.agg #[.pointer (some ⟨bt, 0, none⟩), .int .i64 0, v, .int .i64 0]) := by
    rintro v (rfl | ⟨b, o, k, c, rfl⟩) <;> kernel_rfl
  cases hs : split p with
  | none =>
    rw [hs] at hu
    simp only at hu
    subst hu
    repeat' (first | simp only [evr, nextP_norm, evd, evq, beq_self_eq_true, cond_true, cond_false, reduceIte, Nat.reduceEqDiff, Nat.reduceAdd, Int.reduceBNe, Int.reduceBEq, Int.reduceLT, Int.reduceLE, Int.reduceEq, evh, evp, Nat.reduceLeDiff, Nat.reduceSub, Nat.reduceBEq, typs, eb _ (.inl rfl)] | refine kCond2_by (fun hc => ?_) (fun hc => ?_) <;> try simp only [hc] | refine kPick_by (fun hc => ?_) (fun hc => ?_) <;> try simp only [hc] | refine kWant_by (fun hc => ?_) (fun hc => ?_) <;> try simp only [hc])
    exact ⟨k2.trans (Keep.push _ _), H2.next, k2.1, Nat.lt_succ_self _, rfl⟩
  | some l =>
    rw [hs] at hu
    simp only at hu
    obtain ⟨sl, rfl, g⟩ := hu
    have sw : StrSl H2 sl l := g.slAt
    have ec : isCell sl = true ∧ sl.cells = #[sl] := by rcases g with ⟨rfl, _⟩ | ⟨b, k, base, olds, x, rfl, _⟩ <;> exact ⟨rfl, rfl⟩
    obtain ⟨e1, e2⟩ := ec
    have es : sl = .slice none 0 0 ∨ ∃ b o k c, sl = .slice (some ⟨b, o, none⟩) k c := by rcases g with ⟨rfl, _⟩ | ⟨b, k, base, olds, x, rfl, _⟩; exact .inl rfl; exact .inr ⟨_, _, _, _, rfl⟩
    have hne : ∀ c k j, sl ≠ .slice (some ⟨H2.next, c, none⟩) k j := by
      rcases g with ⟨rfl, _⟩ | ⟨b, k, base, olds, x, rfl, _, _, _, hb, _⟩
      · intro c k j e; cases e
      · intro c k' j e
        simp only [Value.slice.injEq, Option.some.injEq, Addr.mk.injEq] at e
        omega
    repeat' (first | simp only [evr, nextP_norm, evd, evq, beq_self_eq_true, cond_true, cond_false, reduceIte, Nat.reduceEqDiff, Nat.reduceAdd, Int.reduceBNe, Int.reduceBEq, Int.reduceLT, Int.reduceLE, Int.reduceEq, evh, evp, Nat.reduceLeDiff, Nat.reduceSub, Nat.reduceBEq, typs, eb _ es, e1, e2] | refine kCond2_by (fun hc => ?_) (fun hc => ?_) <;> try simp only [hc] | refine kPick_by (fun hc => ?_) (fun hc => ?_) <;> try simp only [hc] | refine kWant_by (fun hc => ?_) (fun hc => ?_) <;> try simp only [hc])
    refine ⟨k2.trans (Keep.push _ _), H2.next, k2.1, Nat.lt_succ_self _, ?_⟩
    exact ⟨rfl, sl, if_pos rfl, SlAt.keep sw (Keep.push _ _), hne⟩
def FinP (h : Hp) (R : Bn × Int) (u : Value) (h' : Hp) : Prop := ∃ sl, u = .tuple #[.agg (bnC R.1 sl).toArray, .int .i64 R.2] ∧ TmTy h' (fun j => h.next ≤ j) sl R.1.acl ∧ Keep h h'
section
variable {h : Hp} {F : Nat → Prop} {T : Hi} {bt : Nat}
set_option maxHeartbeats 1000000 in
theorem wFind_spec (t : TreeAt h F T bt) (p : ByteArray) : Meets kon 17 [.pointer (some ⟨bt, 0, none⟩), .string p] h (FinP h (findK T 8 p).1) := by
  refine Meets.mk rfl (by kernel_rfl) Tryz.func17 rfl (congrArg Array.toList Tryz.results17) ?_
  simp only [evr, evd, evq, beq_self_eq_true, cond_true, cond_false, reduceIte, Nat.reduceEqDiff, Nat.reduceAdd, Int.reduceBNe, Int.reduceBEq, Int.reduceLT, Int.reduceLE, Int.reduceEq, evh, evp, Nat.reduceLeDiff, Nat.reduceSub, Nat.reduceBEq, typs]
  rw [nextP_norm]
  generalize hh : Hp.push _ _ = H0
  have k0 : Keep h H0 := by rw [← hh]; exact Keep.push _ _
  have n0 : H0.next = h.next + 1 := by rw [← hh]; rfl
  have z0 : H0.get h.next = some (.row [.int .i64 0, .int .i64 0, .int .i64 0, .string ByteArray.empty, .bool false, .slice none 0 0, .int .i64 0, .int .i64 0, .int .i64 0, .int .i64 0] 40 (.rw 0 [])) := by rw [← hh]; exact Hp.get_push_self _ _
  clear hh
  have t0 := t.keeps k0
  repeat' (first | simp only [evr, nextP_norm, evd, evq, beq_self_eq_true, cond_true, cond_false, reduceIte, Nat.reduceEqDiff, Nat.reduceAdd, Int.reduceBNe, Int.reduceBEq, Int.reduceLT, Int.reduceLE, Int.reduceEq, evh, evp, Nat.reduceLeDiff, Nat.reduceSub, Nat.reduceBEq, typs] | refine kCond2_by (fun hc => ?_) (fun hc => ?_) <;> try simp only [hc] | refine kPick_by (fun hc => ?_) (fun hc => ?_) <;> try simp only [hc] | refine kWant_by (fun hc => ?_) (fun hc => ?_) <;> try simp only [hc])
  refine callP_meets (begun_spec bt p H0) ?_
  rintro u H2 ⟨k2, bw, hb1, hb2, hu⟩
  have z2 := (k2.2 _ (by omega)).trans z0
  have q2 := rowOf_rw z2
  unfold findK
  cases hs : split p with
  | none =>
    rw [hs] at hu
    simp only at hu
    subst hu
    repeat' (first | simp only [evr, nextP_norm, evd, evq, beq_self_eq_true, cond_true, cond_false, reduceIte, Nat.reduceEqDiff, Nat.reduceAdd, Int.reduceBNe, Int.reduceBEq, Int.reduceLT, Int.reduceLE, Int.reduceEq, evh, evp, Nat.reduceLeDiff, Nat.reduceSub, Nat.reduceBEq, typs, zero_build, z2, q2] | refine kCond2_by (fun hc => ?_) (fun hc => ?_) <;> try simp only [hc] | refine kPick_by (fun hc => ?_) (fun hc => ?_) <;> try simp only [hc] | refine kWant_by (fun hc => ?_) (fun hc => ?_) <;> try simp only [hc])
    exact ⟨.slice none 0 0, rfl, .inl ⟨rfl, rfl⟩, ⟨by rw [Hp.next_set]; have := k2.1; omega, fun k hk => (Hp.get_set_ne (by omega)).trans ((k2.2 k (by omega)).trans (k0.2 k hk))⟩⟩
  | some l =>
    rw [hs] at hu
    simp only at hu
    obtain ⟨rfl, v, r2, s2⟩ := hu
    obtain ⟨_, hl16, _, _⟩ := split_all hs
    repeat' (first | simp only [evr, nextP_norm, evd, evq, beq_self_eq_true, cond_true, cond_false, reduceIte, Nat.reduceEqDiff, Nat.reduceAdd, Int.reduceBNe, Int.reduceBEq, Int.reduceLT, Int.reduceLE, Int.reduceEq, evh, evp, Nat.reduceLeDiff, Nat.reduceSub, Nat.reduceBEq, typs] | refine kCond2_by (fun hc => ?_) (fun hc => ?_) <;> try simp only [hc] | refine kPick_by (fun hc => ?_) (fun hc => ?_) <;> try simp only [hc] | refine kWant_by (fun hc => ?_) (fun hc => ?_) <;> try simp only [hc])
    refine callP_meets (last_spec (k := 8) (t0.keeps k2) r2 hb2 (fun hf => by have := t0.ltF' hf; omega) rfl s2 (by omega)) ?_
    rintro _ H3 ⟨sl, rfl, ty, b3⟩
    obtain ⟨c1, c2⟩ := TmTy.cell ty
    have n3 := b3.1
    have n2 := k2.1
    have z3 := (b3.2 _ (by omega) (by omega)).trans z2
    have q3 := rowOf_rw z3
    unfold bnC
    repeat' (first | simp only [evr, nextP_norm, evd, evq, beq_self_eq_true, cond_true, cond_false, reduceIte, Nat.reduceEqDiff, Nat.reduceAdd, Int.reduceBNe, Int.reduceBEq, Int.reduceLT, Int.reduceLE, Int.reduceEq, evh, evp, Nat.reduceLeDiff, Nat.reduceSub, Nat.reduceBEq, typs, z3, q3, c1, c2] | refine kCond2_by (fun hc => ?_) (fun hc => ?_) <;> try simp only [hc] | refine kPick_by (fun hc => ?_) (fun hc => ?_) <;> try simp only [hc] | refine kWant_by (fun hc => ?_) (fun hc => ?_) <;> try simp only [hc])
    exact ⟨sl, rfl, SlTy.more (SlTy.keepF ty (Nat.le_refl _) fun j hj => Hp.get_set_ne (by omega)) fun j hj => by omega, ⟨by rw [Hp.next_set]; omega, fun k hk => (Hp.get_set_ne (by omega)).trans ((b3.2 k (by omega) (by omega)).trans ((k2.2 k (by omega)).trans (k0.2 k hk)))⟩⟩
set_option maxHeartbeats 1000000 in
theorem wIn_spec (t : TreeAt h F T bt) (d : Int) (n : ByteArray) : Meets kon 25 [.pointer (some ⟨bt, 0, none⟩), .int .i64 d, .string n] h (FinP h (walkK T 8 d [n]).1) := by
  have ep : (some (⟨bt, 0, none⟩ : Addr) == none) = false := rfl
  refine Meets.mk rfl (by kernel_rfl) Tryz.func25 rfl (congrArg Array.toList Tryz.results25) ?_
  simp only [evr, evd, evq, beq_self_eq_true, cond_true, cond_false, reduceIte, Nat.reduceEqDiff, Nat.reduceAdd, Int.reduceBNe, Int.reduceBEq, Int.reduceLT, Int.reduceLE, Int.reduceEq, evh, evp, Nat.reduceLeDiff, Nat.reduceSub, Nat.reduceBEq, typs]
  rw [nextP_norm]
  generalize hh : Hp.push _ _ = H0
  have k0 : Keep h H0 := by rw [← hh]; exact Keep.push _ _
  have n0 : H0.next = h.next + 1 := by rw [← hh]; rfl
  have z0 : H0.get h.next = some (.row [.int .i64 0, .int .i64 0, .int .i64 0, .string ByteArray.empty, .bool false, .slice none 0 0, .int .i64 0, .int .i64 0, .int .i64 0, .int .i64 0] 40 (.rw 0 [])) := by rw [← hh]; exact Hp.get_push_self _ _
  clear hh
  have t0 := t.keeps k0
  repeat' (first | simp only [evr, nextP_norm, evd, evq, beq_self_eq_true, cond_true, cond_false, reduceIte, Nat.reduceEqDiff, Nat.reduceAdd, Int.reduceBNe, Int.reduceBEq, Int.reduceLT, Int.reduceLE, Int.reduceEq, evh, evp, Nat.reduceLeDiff, Nat.reduceSub, Nat.reduceBEq, typs, ep] | refine kCond2_by (fun hc => ?_) (fun hc => ?_) <;> try simp only [hc] | refine kPick_by (fun hc => ?_) (fun hc => ?_) <;> try simp only [hc] | refine kWant_by (fun hc => ?_) (fun hc => ?_) <;> try simp only [hc])
  generalize hh : Hp.push _ _ = H1
  have k1 : Keep H0 H1 := by rw [← hh]; exact (Keep.push _ _).pushed
  have n1 : H1.next = H0.next + 2 := by rw [← hh]; rfl
  have w1 : H1.get (H0.next + 1) = some (.row (wayC bt d (.slice (some ⟨H0.next, 0, none⟩) 1 2) 0) 120 (.rw 0 [])) := by rw [← hh]; exact Hp.get_push_self (H0.push _) _
  have s1 : StrW H1 (H0.next + 1) (.slice (some ⟨H0.next, 0, none⟩) 1 2) [n] := by
    refine ⟨.inr ⟨H0.next, 0, 1, 2, [.string n], rfl, by decide, by omega, ?_, rfl, rfl⟩, fun c k j e => ?_⟩
    · rw [← hh]; exact rowOf_rw (by rw [Hp.get_push_lt (Nat.lt_succ_self _)]; exact Hp.get_push_self _ _)
    · simp only [Value.slice.injEq, Option.some.injEq, Addr.mk.injEq] at e; omega
  clear hh
  refine callP_meets (last_spec (k := 8) (t0.keeps k1) w1 (by omega) (fun hf => by have := t0.ltF' hf; omega) rfl s1 (by simp)) ?_
  rintro _ H3 ⟨sl, rfl, ty, b3⟩
  obtain ⟨c1, c2⟩ := TmTy.cell ty
  have n3 := b3.1
  have z3 := (b3.2 _ (by omega) (by omega)).trans ((k1.2 _ (by omega)).trans z0)
  have q3 := rowOf_rw z3
  unfold bnC
  repeat' (first | simp only [evr, nextP_norm, evd, evq, beq_self_eq_true, cond_true, cond_false, reduceIte, Nat.reduceEqDiff, Nat.reduceAdd, Int.reduceBNe, Int.reduceBEq, Int.reduceLT, Int.reduceLE, Int.reduceEq, evh, evp, Nat.reduceLeDiff, Nat.reduceSub, Nat.reduceBEq, typs, z3, q3, c1, c2] | refine kCond2_by (fun hc => ?_) (fun hc => ?_) <;> try simp only [hc] | refine kPick_by (fun hc => ?_) (fun hc => ?_) <;> try simp only [hc] | refine kWant_by (fun hc => ?_) (fun hc => ?_) <;> try simp only [hc])
  exact ⟨sl, rfl, SlTy.more (SlTy.keepF ty (Nat.le_refl _) fun j hj => Hp.get_set_ne (by omega)) fun j hj => by omega, ⟨by rw [Hp.next_set]; omega, fun k hk => (Hp.get_set_ne (by omega)).trans ((b3.2 k (by omega) (by omega)).trans ((k1.2 k (by omega)).trans (k0.2 k hk)))⟩⟩
set_option maxHeartbeats 1000000 in
theorem wDir_spec (t : TreeAt h F T bt) (p : ByteArray) : Meets kon 20 [.pointer (some ⟨bt, 0, none⟩), .string p] h fun u h' => u = .tuple #[.int .i64 (dirK T p).1, .int .i64 (dirK T p).2] ∧ Keep h h' := by
  refine Meets.mk rfl (by kernel_rfl) Tryz.func20 rfl (congrArg Array.toList Tryz.results20) ?_
  repeat' (first | simp only [evr, nextP_norm, evd, evq, beq_self_eq_true, cond_true, cond_false, reduceIte, Nat.reduceEqDiff, Nat.reduceAdd, Int.reduceBNe, Int.reduceBEq, Int.reduceLT, Int.reduceLE, Int.reduceEq, evh, evp, Nat.reduceLeDiff, Nat.reduceSub, Nat.reduceBEq, typs] | refine kCond2_by (fun hc => ?_) (fun hc => ?_) <;> try simp only [hc] | refine kPick_by (fun hc => ?_) (fun hc => ?_) <;> try simp only [hc] | refine kWant_by (fun hc => ?_) (fun hc => ?_) <;> try simp only [hc])
  refine callP_meets (wFind_spec t p) ?_
  rintro _ H2 ⟨sl, rfl, ty, k2⟩
  obtain ⟨c1, c2⟩ := TmTy.cell ty
  have hD : dirK T p = if (findK T 8 p).1.2 ≠ 0 then (0, (findK T 8 p).1.2) else if (findK T 8 p).1.1.kind ≠ 2 then (0, 15) else ((findK T 8 p).1.1.dir, 0) := rfl
  rw [hD]
  clear hD
  generalize (findK T 8 p).1 = R at *
  unfold bnC
  simp only [evr, evd, evq, beq_self_eq_true, cond_true, cond_false, reduceIte, Nat.reduceEqDiff, Nat.reduceAdd, Int.reduceBNe, Int.reduceBEq, Int.reduceLT, Int.reduceLE, Int.reduceEq, evh, evp, Nat.reduceLeDiff, Nat.reduceSub, Nat.reduceBEq, typs, c1, c2]
  rw [nextP_norm]
  generalize hh : Hp.set _ _ _ = H3
  have k3 : Keep H2 H3 := by rw [← hh]; exact (Keep.push _ _).set (Nat.le_refl _)
  have q3 : rowOf H3 H2.next = some (bnC R.1 sl) := by rw [← hh]; exact rowOf_rw (Hp.get_set_self _ _ _)
  clear hh
  unfold bnC at q3
  by_cases h1 : R.2 = 0
  · have f1 : (R.2 != 0) = false := by simp [h1]
    rw [if_neg (by simp [h1])]
    by_cases h2 : R.1.kind = 2
    · have f2 : (R.1.kind != 2) = false := by simp [h2]
      rw [if_neg (by simp [h2])]
      repeat' (first | simp only [evr, nextP_norm, evd, evq, beq_self_eq_true, cond_true, cond_false, reduceIte, Nat.reduceEqDiff, Nat.reduceAdd, Int.reduceBNe, Int.reduceBEq, Int.reduceLT, Int.reduceLE, Int.reduceEq, evh, evp, Nat.reduceLeDiff, Nat.reduceSub, Nat.reduceBEq, typs, q3, f1, f2] | refine kCond2_by (fun hc => ?_) (fun hc => ?_) <;> try simp only [hc] | refine kPick_by (fun hc => ?_) (fun hc => ?_) <;> try simp only [hc] | refine kWant_by (fun hc => ?_) (fun hc => ?_) <;> try simp only [hc])
      exact k2.trans k3
    · have f2 : (R.1.kind != 2) = true := by simp [h2]
      rw [if_pos h2]
      repeat' (first | simp only [evr, nextP_norm, evd, evq, beq_self_eq_true, cond_true, cond_false, reduceIte, Nat.reduceEqDiff, Nat.reduceAdd, Int.reduceBNe, Int.reduceBEq, Int.reduceLT, Int.reduceLE, Int.reduceEq, evh, evp, Nat.reduceLeDiff, Nat.reduceSub, Nat.reduceBEq, typs, q3, f1, f2] | refine kCond2_by (fun hc => ?_) (fun hc => ?_) <;> try simp only [hc] | refine kPick_by (fun hc => ?_) (fun hc => ?_) <;> try simp only [hc] | refine kWant_by (fun hc => ?_) (fun hc => ?_) <;> try simp only [hc])
      exact k2.trans k3
  · have f1 : (R.2 != 0) = true := by simp [h1]
    rw [if_pos h1]
    repeat' (first | simp only [evr, nextP_norm, evd, evq, beq_self_eq_true, cond_true, cond_false, reduceIte, Nat.reduceEqDiff, Nat.reduceAdd, Int.reduceBNe, Int.reduceBEq, Int.reduceLT, Int.reduceLE, Int.reduceEq, evh, evp, Nat.reduceLeDiff, Nat.reduceSub, Nat.reduceBEq, typs, q3, f1] | refine kCond2_by (fun hc => ?_) (fun hc => ?_) <;> try simp only [hc] | refine kPick_by (fun hc => ?_) (fun hc => ?_) <;> try simp only [hc] | refine kWant_by (fun hc => ?_) (fun hc => ?_) <;> try simp only [hc])
    exact k2.trans k3
end
end Go.Proofs.YtncmgiddcefpcaaGreatDoor
namespace Go.Proofs.YtncmgiddcefpcaaGreatDoor
open Go Go.Ev Go.Con
set_option linter.unusedSimpArgs false
set_option linter.unusedVariables false
set_option maxRecDepth 100000
end Go.Proofs.YtncmgiddcefpcaaGreatDoor
namespace Go.Proofs.YtncmgiddcefpcaaGreatDoor
open Go Go.Ev Go.Con
set_option linter.unusedSimpArgs false
set_option linter.unusedVariables false
set_option maxRecDepth 100000
section
variable {G : Nat → Prop} {T : Hi} {br : Nat}
theorem But.new {h h' : Hp} {o : Ob} (b : But h.next (h.push o) h') : Keep h h' := ⟨Nat.le_trans (Nat.le_succ _) b.1, fun k hk => (b.2 k (Nat.lt_succ_of_lt hk) (by omega)).trans ((Keep.push h o).2 k hk)⟩
theorem RefAt.keeps {h h' : Hp} {G : Nat → Prop} {R : Hi} {br : Nat} (r : RefAt h G R br) (k : Keep h h') : RefAt h' G R br := r.keep k.1 fun j hj => k.2 j (r.lt hj)
end
end Go.Proofs.YtncmgiddcefpcaaGreatDoor
