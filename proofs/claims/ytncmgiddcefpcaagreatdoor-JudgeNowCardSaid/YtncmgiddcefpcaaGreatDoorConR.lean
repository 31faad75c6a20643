/- The reference's ListMay; brackets that are compared. -/
import Derived.Test.YtncmgiddcefpcaaGreatDoorConQ
namespace Go.Proofs.YtncmgiddcefpcaaGreatDoor
open Go Go.Ev Go.Con
set_option linter.unusedSimpArgs false
set_option linter.unusedVariables false
set_option maxRecDepth 100000
theorem refUser_spec (s : ByteArray) (h : Hp) : Meets kon 108 [.string s] h fun v h' => v = .bool (mayU s) ∧ h' = h := by
  refine Meets.mk rfl (by kernel_rfl) Tryz.func108 rfl (congrArg Array.toList Tryz.results108) ?_
  simp only [evr, nextP_norm, evd, evq, beq_self_eq_true, cond_true, cond_false, reduceIte, Nat.reduceEqDiff, Nat.reduceAdd, Int.reduceBNe, Int.reduceBEq, Int.reduceLT, Int.reduceLE, Int.reduceEq, typs, (plain_spec s 16 16 rfl (by omega) h).call]
theorem TmSl.user {h : Hp} {v : Value} {l : List Tm} (s : TmSl h v l) {i : Nat} {x : Tm} (hi : l[i]? = some x) : ∃ b o all, evIndexAddr kon.P 30 v (.int .i64 i) = some (.pointer (some ⟨b, o, none⟩)) ∧ b < h.next ∧
    rowOf h b = some all ∧ all[o]? = some (.string x.user) := by
  obtain ⟨b, o, all, h1, h2, h3, h4, h5⟩ := s.at hi
  refine ⟨b, o, all, h1, h2, h3, ?_⟩
  have := congrArg (fun c : List Value => c[0]?) h5
  simpa [tmC] using this
theorem evBin_leqS {P : Program} {t : TypeId} {xo yo : Operand} {s u : ByteArray} : evBin P .leq t xo yo (.string s) (.string u) = some (.bool !ltS u s) := by
  show some (Value.bool (Op.bytesLess s.toList u.toList || s.toList == u.toList)) = _
  rw [toList_data, toList_data, bless_lt, leS_not]; rfl
set_option maxHeartbeats 8000000 in
theorem refListMay_spec {h : Hp} {v : Value} {l : List Tm} (s : TmSl h v l) (hl : l.length ≤ 1000000000) : Meets kon 96 [v] h fun u h' => u = .bool (listMay l) ∧ h' = h := by
  refine Meets.mk rfl (by kernel_rfl) Tryz.func96 rfl (congrArg Array.toList Tryz.results96) ?_
  have la := s.len
  rcases Bool.eq_false_or_eq_true (decide ((16 : Int) < l.length)) with e1 | e1
  · simp only [evr, nextP_norm, evd, evq, beq_self_eq_true, cond_true, cond_false, reduceIte, Nat.reduceEqDiff, Nat.reduceAdd, Int.reduceBNe, Int.reduceBEq, Int.reduceLT, Int.reduceLE, Int.reduceEq, typs, la, e1]
    have : ¬ l.length ≤ 16 := by simp at e1; omega
    simp [listMay, this]
  simp only [evr, nextP_norm, evd, evq, beq_self_eq_true, cond_true, cond_false, reduceIte, Nat.reduceEqDiff, Nat.reduceAdd, Int.reduceBNe, Int.reduceBEq, Int.reduceLT, Int.reduceLE, Int.reduceEq, typs, la, e1]
  have h16 : l.length ≤ 16 := by simp at e1; omega
  refine Wp_loop (fun k fr h' => h' = h ∧ ∃ i : Nat, k = l.length - i ∧ i ≤ l.length ∧ fr.get 0 = some v ∧ fr.get 3 = some (.int .i64 i) ∧ (List.range i).all (okAt l) = true) l.length ⟨rfl, 0, rfl, Nat.zero_le _, ?_, ?_, rfl⟩ ?_
  · simp only [evr, nextP_norm, evd, evq, beq_self_eq_true, cond_true, cond_false, reduceIte, Nat.reduceEqDiff, Nat.reduceAdd, Int.reduceBNe, Int.reduceBEq, Int.reduceLT, Int.reduceLE, Int.reduceEq, typs]
  · simp only [evr, nextP_norm, evd, evq, beq_self_eq_true, cond_true, cond_false, reduceIte, Nat.reduceEqDiff, Nat.reduceAdd, Int.reduceBNe, Int.reduceBEq, Int.reduceLT, Int.reduceLE, Int.reduceEq, typs]
    rfl
  rintro k fr h' ⟨rfl, i, rfl, hi, g0, g3, hp⟩
  by_cases h3 : i < l.length
  · have e3 : decide ((i : Int) < l.length) = true := by simp; omega
    obtain ⟨x, hx⟩ : ∃ x, l[i]? = some x := ⟨_, List.getElem?_eq_getElem h3⟩
    obtain ⟨b, o, all, ha, hb, hr, hu⟩ := TmSl.user s hx
    have hx' := tmAt_eq hx
    simp only [evr, nextP_norm, evd, evq, beq_self_eq_true, cond_true, cond_false, reduceIte, Nat.reduceEqDiff, Nat.reduceAdd, Int.reduceBNe, Int.reduceBEq, Int.reduceLT, Int.reduceLE, Int.reduceEq, evh, evp, Nat.reduceLeDiff, Nat.reduceSub, Nat.reduceBEq, typs, la, g0, g3, e3]
    refine Wp_drawE [0, 0, 0, 0, 1, 0, 0, 0, 0, 0, 0, 1, 4, 0, 0, 0, 0, 0, 0, 0, 0, 0, 0, 1, 0, 0, 0, 0, 0, 1, 0, 0, 0] (KR.mk (by kernel_rfl)) ?_
    have hus := (refUser_spec x.user h').call
    have bad : okAt l i = false → listMay l = false := fun hk => by unfold listMay; rw [all_no h3 hk]; rfl
    have go : okAt l i = true → ∃ j, j < l.length - i ∧ h' = h' ∧ ∃ i', j = l.length - i' ∧ i' ≤ l.length ∧ ((i : Int) + 1 = (i' : Int)) ∧ (List.range i').all (okAt l) = true := fun hk =>
      ⟨l.length - (i + 1), by omega, rfl, i + 1, rfl, by omega, by omega, all_succ hp hk⟩
    have ws := wrap64 (x := (i : Int) + 1) (by omega) (by omega)
    have huT : userT x.user = (decide (x.user = (ByteArray.mk #[42])) || mayU x.user) := rfl
    cases i with
    | zero =>
      have hok : okAt l 0 = userT x.user := by unfold okAt; rw [hx']; simp
      rw [hok, huT] at bad go
      have e4 : decide ((0 : Int) < ((0 : Nat) : Int)) = false := rfl
      cases e5 : decide (x.user = (ByteArray.mk #[42])) <;> cases e6 : mayU x.user
      all_goals
        rw [e5, e6] at bad go
        rw [e6] at hus
        repeat' (first | simp only [evr, nextP_norm, evd, evq, beq_self_eq_true, cond_true, cond_false, reduceIte, Nat.reduceEqDiff, Nat.reduceAdd, Int.reduceBNe, Int.reduceBEq, Int.reduceLT, Int.reduceLE, Int.reduceEq, evh, evp, Nat.reduceLeDiff, Nat.reduceSub, Nat.reduceBEq, typs, g0, g3, ha, hr, hu, hus, e4, e5, ws] | refine kCond2_by (fun hc => ?_) (fun hc => ?_) <;> try simp only [hc] | refine kPick_by (fun hc => ?_) (fun hc => ?_) <;> try simp only [hc] | refine kWant_by (fun hc => ?_) (fun hc => ?_) <;> try simp only [hc])
        first
        | (rw [bad rfl])
        | (obtain ⟨j, j1, _, i', j2, j3, j4, j5⟩ := go rfl
           first | exact ⟨j, j1, i', j2, j3, by rw [← j4], j5⟩ | exact ⟨j, j1, i', j2, j3, j4, j5⟩)
    | succ j =>
      obtain ⟨y, hy⟩ : ∃ y, l[j]? = some y := ⟨_, List.getElem?_eq_getElem (by omega)⟩
      obtain ⟨b2, o2, all2, ha2, hb2, hr2, hu2⟩ := TmSl.user s hy
      have hy' := tmAt_eq hy
      have e4 : decide ((0 : Int) < ((j + 1 : Nat) : Int)) = true := decide_eq_true (by omega)
      have w1 : IntKind.i64.wrap (((j + 1 : Nat) : Int) - 1) = (j : Int) := by rw [wrap64 (by omega) (by omega)]; omega
      have hok : okAt l (j + 1) = (userT x.user && ltS y.user x.user) := by unfold okAt; rw [hx', Nat.add_sub_cancel, hy']; simp
      rw [hok, huT] at bad go
      cases e5 : decide (x.user = (ByteArray.mk #[42])) <;> cases e6 : mayU x.user <;> cases e7 : ltS y.user x.user
      all_goals
        rw [e5, e6, e7] at bad go
        rw [e6] at hus
        repeat' (first | simp only [evr, nextP_norm, evd, evq, beq_self_eq_true, cond_true, cond_false, reduceIte, Nat.reduceEqDiff, Nat.reduceAdd, Int.reduceBNe, Int.reduceBEq, Int.reduceLT, Int.reduceLE, Int.reduceEq, evh, evp, Nat.reduceLeDiff, Nat.reduceSub, Nat.reduceBEq, typs, g0, g3, ha, hr, hu, hus, e4, ha2, hr2, hu2, w1, e5, ws, evBin_leqS, e7] | refine kCond2_by (fun hc => ?_) (fun hc => ?_) <;> try simp only [hc] | refine kPick_by (fun hc => ?_) (fun hc => ?_) <;> try simp only [hc] | refine kWant_by (fun hc => ?_) (fun hc => ?_) <;> try simp only [hc])
        first
        | (rw [bad rfl])
        | (obtain ⟨j, j1, _, i', j2, j3, j4, j5⟩ := go rfl
           first | exact ⟨j, j1, i', j2, j3, by rw [← j4], j5⟩ | exact ⟨j, j1, i', j2, j3, j4, j5⟩)
  · have e3 : decide ((i : Int) < l.length) = false := by simp; omega
    have hi2 : i = l.length := by omega
    subst hi2
    simp only [evr, nextP_norm, evd, evq, beq_self_eq_true, cond_true, cond_false, reduceIte, Nat.reduceEqDiff, Nat.reduceAdd, Int.reduceBNe, Int.reduceBEq, Int.reduceLT, Int.reduceLE, Int.reduceEq, evh, evp, Nat.reduceLeDiff, Nat.reduceSub, Nat.reduceBEq, typs, la, g0, g3, e3]
    unfold listMay
    rw [hp]
    simp [h16]
end Go.Proofs.YtncmgiddcefpcaaGreatDoor
