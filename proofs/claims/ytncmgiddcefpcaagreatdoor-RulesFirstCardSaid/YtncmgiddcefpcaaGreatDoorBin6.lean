/- Texts joined: what the claim needs of them. No condition. -/
import Derived.Test.YtncmgiddcefpcaaGreatDoorBin4
import Derived.Test.YtncmgiddcefpcaaGreatDoorBin5
namespace Go.Proofs.YtncmgiddcefpcaaGreatDoor
open Go Go.Ev Go.Con
set_option linter.unusedSimpArgs false
set_option linter.unusedVariables false
set_option maxRecDepth 100000
def bkV (b : Bk) : Value := .agg #[.int .i64 b.r1, .int .i64 b.r2, .int .i64 b.r3, .int .i64 b.g]
def tmC (t : Tm) : List Value := [.string t.user, .bool t.f.r, .bool t.f.w, .bool t.f.e]
def tmV (t : Tm) : Value := .agg #[.string t.user, .bool t.f.r, .bool t.f.w, .bool t.f.e]
def tms (l : List Tm) : List Value := (l.map tmC).flatten
abbrev TmTy (h : Hp) (F : Nat → Prop) (v : Value) (l : List Tm) : Prop := SlTy h F 65 4 v (tms l)
abbrev TmSl (h : Hp) (v : Value) (l : List Tm) : Prop := SlAt h 4 v (tms l)
theorem tms_len (l : List Tm) : (tms l).length = l.length * 4 := by
  induction l with
  | nil => rfl
  | cons a l ih => simp only [tms, List.map_cons, List.flatten_cons, List.length_append] at ih ⊢; rw [ih]; simp [tmC]; omega
theorem tms_at (l : List Tm) {i : Nat} {x : Tm} (h : l[i]? = some x) : ((tms l).drop (i * 4)).take 4 = tmC x := by
  induction l generalizing i with
  | nil => simp at h
  | cons a l ih =>
    cases i with
    | zero =>
      simp at h; subst h
      simp [tms, tmC]
    | succ i =>
      have := ih (by simpa using h)
      have e : tms (a :: l) = tmC a ++ tms l := by simp [tms]
      rw [e, List.drop_append, show (tmC a).length = 4 from rfl, List.drop_eq_nil_of_le (by simp [tmC]; omega), List.nil_append, show (i + 1) * 4 - 4 = i * 4 by omega]
      exact this
theorem tms_cell (l : List Tm) : (tms l).all isCell = true := by
  rw [List.all_eq_true]; intro x hx
  simp only [tms, List.mem_flatten, List.mem_map] at hx
  obtain ⟨c, ⟨t, _, rfl⟩, hx⟩ := hx
  simp only [tmC, List.mem_cons, List.not_mem_nil, or_false] at hx
  rcases hx with rfl | rfl | rfl | rfl <;> rfl
theorem TmSl.len {h : Hp} {v : Value} {l : List Tm} (s : TmSl h v l) : evLen kon.P 30 v = some (.int .i64 l.length) := by
  rcases s with ⟨rfl, hl⟩ | ⟨b, o, k, c, all, rfl, h2, h3, h4, h5, h6⟩
  · have : (tms l).length = 0 := by rw [hl]; rfl
    rw [tms_len] at this
    have : l = [] := List.length_eq_zero_iff.1 (by omega)
    subst this
    exact evLen_slice (e := 65) (by kernel_rfl)
  · have : l.length = k := by rw [tms_len] at h5; omega
    subst this
    exact evLen_slice (e := 65) (by kernel_rfl)
theorem TmSl.at {h : Hp} {v : Value} {l : List Tm} (s : TmSl h v l) {i : Nat} {x : Tm} (hi : l[i]? = some x) : ∃ b o all, evIndexAddr kon.P 30 v (.int .i64 i) = some (.pointer (some ⟨b, o, none⟩)) ∧ b < h.next ∧
    rowOf h b = some all ∧ o + 4 ≤ all.length ∧ (all.drop o).take 4 = tmC x := by
  have hlt : i < l.length := (List.getElem?_eq_some_iff.1 hi).1
  rcases s with ⟨rfl, hl⟩ | ⟨b, o, k, c, all, rfl, h2, h3, h4, h5, h6⟩
  · have : (tms l).length = 0 := by rw [hl]; rfl
    rw [tms_len] at this; omega
  · have hk : l.length = k := by rw [tms_len] at h5; omega
    subst hk
    have hz : o + l.length * 4 ≤ all.length := by
      have := congrArg List.length h6
      rw [List.length_take, List.length_drop, tms_len] at this; omega
    refine ⟨b, o + i * 4, all, ?_, h3, h4, by omega, ?_⟩
    · have := L_indexAddr (C := kon) (t := 30) (e := 65) (n := 4) (by kernel_rfl) (by kernel_rfl) b o l.length c .i64 i (by omega) (by omega)
      simpa using this
    · rw [← tms_at l hi, ← h6, List.drop_take, List.take_take, List.drop_drop]
      congr 1; omega
theorem TmSl.load {h : Hp} {v : Value} {l : List Tm} (s : TmSl h v l) {i : Nat} {x : Tm} (hi : l[i]? = some x) : ∃ p, evIndexAddr kon.P 30 v (.int .i64 i) = some p ∧ evLoad kon.P 65 p h = some (tmV x) := by
  obtain ⟨b, o, all, h1, _, h2, h3, h4⟩ := s.at hi
  refine ⟨_, h1, ?_⟩
  rw [L_loadA (C := kon) (t := 65) (n := 4) (by kernel_rfl) (by kernel_rfl), h2, Option.bind_some, aggAt_eq h3, h4]; rfl
theorem auser_spec (s : ByteArray) (h : Hp) : Meets kon 98 [.string s] h fun v h' => v = .bool (userT s) ∧ h' = h := by
  refine Meets.mk rfl (by kernel_rfl) Tryz.func98 rfl (congrArg Array.toList Tryz.results98) ?_
  rcases Bool.eq_false_or_eq_true (decide (s = (ByteArray.mk #[42]))) with e1 | e1
  · simp only [evr, nextP_norm, evd, evq, beq_self_eq_true, cond_true, cond_false, reduceIte, Nat.reduceEqDiff, Nat.reduceAdd, Int.reduceBNe, Int.reduceBEq, Int.reduceLT, Int.reduceLE, Int.reduceEq, typs, e1]
    unfold userT star; rw [e1]; rfl
  · simp only [evr, nextP_norm, evd, evq, beq_self_eq_true, cond_true, cond_false, reduceIte, Nat.reduceEqDiff, Nat.reduceAdd, Int.reduceBNe, Int.reduceBEq, Int.reduceLT, Int.reduceLE, Int.reduceEq, typs, e1, (user_spec s h).call]
    unfold userT star; rw [e1]; rfl
theorem cmpLib_spec (s u : ByteArray) (h : Hp) : Meets kon 110 [.string s, .string u] h fun v h' => v = .int .i64 (Lib.compareBytes s.data.toList u.data.toList) ∧ h' = h :=
  ⟨_, _, Ret.sum (s := sumCmp Lib.compareBytes) rfl rfl, rfl, rfl⟩
theorem acompare_spec (a b : Tm) (h : Hp) : Meets kon 99 [tmV a, tmV b] h fun v h' => v = .int .i64 (Lib.compareBytes a.user.data.toList b.user.data.toList) ∧ Keep h h' := by
  unfold tmV
  refine Meets.mk rfl (by kernel_rfl) Tryz.func99 rfl (congrArg Array.toList Tryz.results99) ?_
  simp only [evr, nextP_norm, evd, evq, beq_self_eq_true, cond_true, cond_false, reduceIte, Nat.reduceEqDiff, Nat.reduceAdd, Int.reduceBNe, Int.reduceBEq, Int.reduceLT, Int.reduceLE, Int.reduceEq, evh, evp, Nat.reduceLeDiff, Nat.reduceSub, Nat.reduceBEq, typs, (cmpLib_spec a.user b.user _).call]
  exact ((Keep.push _ _).pushed)
theorem tmAt_eq {l : List Tm} {i : Nat} {x : Tm} (h : l[i]? = some x) : tmAt l i = x := by unfold tmAt; rw [h]; rfl
theorem all_succ {f : Nat → Bool} {i : Nat} (h : (List.range i).all f = true) (hi : f i = true) : (List.range (i + 1)).all f = true := by
  rw [List.range_succ, List.all_append, h]; simp [hi]
theorem all_no {f : Nat → Bool} {i n : Nat} (hi : i < n) (h : f i = false) : (List.range n).all f = false := by
  rw [Bool.eq_false_iff]; intro ha
  have := List.all_eq_true.1 ha i (List.mem_range.2 hi)
  rw [h] at this; cases this
theorem aMay_spec {h : Hp} {v : Value} {l : List Tm} (s : TmSl h v l) (hl : l.length ≤ 1000000000) : Meets kon 69 [v] h fun u h' => u = .bool (listMay l) ∧ Keep h h' := by
  refine Meets.mk rfl (by kernel_rfl) Tryz.func69 rfl (congrArg Array.toList Tryz.results69) ?_
  have la := s.len
  simp only [evr, nextP_norm, evd, evq, beq_self_eq_true, cond_true, cond_false, reduceIte, Nat.reduceEqDiff, Nat.reduceAdd, Int.reduceBNe, Int.reduceBEq, Int.reduceLT, Int.reduceLE, Int.reduceEq, typs, la]
  refine Wp_loop (fun k fr h' => Keep h h' ∧ ∃ i : Nat, k = l.length - i ∧ i ≤ l.length ∧ fr.get 0 = some v ∧ fr.get 5 = some v ∧ fr.get 6 = some (.int .i64 l.length) ∧ fr.get 7 = some (.int .i64 i) ∧ (List.range i).all (okAt l) = true) l.length ⟨Keep.refl _, 0, rfl, Nat.zero_le _, ?_, ?_, ?_, ?_, rfl⟩ ?_
  · simp only [evr, nextP_norm, evd, evq, beq_self_eq_true, cond_true, cond_false, reduceIte, Nat.reduceEqDiff, Nat.reduceAdd, Int.reduceBNe, Int.reduceBEq, Int.reduceLT, Int.reduceLE, Int.reduceEq, typs]
  · simp only [evr, nextP_norm, evd, evq, beq_self_eq_true, cond_true, cond_false, reduceIte, Nat.reduceEqDiff, Nat.reduceAdd, Int.reduceBNe, Int.reduceBEq, Int.reduceLT, Int.reduceLE, Int.reduceEq, typs]
  · simp only [evr, nextP_norm, evd, evq, beq_self_eq_true, cond_true, cond_false, reduceIte, Nat.reduceEqDiff, Nat.reduceAdd, Int.reduceBNe, Int.reduceBEq, Int.reduceLT, Int.reduceLE, Int.reduceEq, typs]
  · simp only [evr, nextP_norm, evd, evq, beq_self_eq_true, cond_true, cond_false, reduceIte, Nat.reduceEqDiff, Nat.reduceAdd, Int.reduceBNe, Int.reduceBEq, Int.reduceLT, Int.reduceLE, Int.reduceEq, typs]
    rfl
  rintro k fr h' ⟨hk, i, rfl, hi, g0, g5, g6, g7, hp⟩
  by_cases h3 : i < l.length
  · have e3 : decide ((i : Int) < l.length) = true := by simp; omega
    obtain ⟨x, hx⟩ : ∃ x, l[i]? = some x := ⟨_, List.getElem?_eq_getElem h3⟩
    obtain ⟨p, ha, hld⟩ := TmSl.load (s.keep hk) hx
    unfold tmV at hld
    simp only [evr, nextP_norm, evd, evq, beq_self_eq_true, cond_true, cond_false, reduceIte, Nat.reduceEqDiff, Nat.reduceAdd, Int.reduceBNe, Int.reduceBEq, Int.reduceLT, Int.reduceLE, Int.reduceEq, evh, evp, Nat.reduceLeDiff, Nat.reduceSub, Nat.reduceBEq, typs, la, g0, g5, g6, g7, e3, ha, hld, tmC]
    refine Eq.mpr (Wp_drawOrd (KR.mk (by kernel_rfl))) ?_
    generalize hh : (h'.push (Ob.row _ _ _)).set h'.next (Ob.row _ _ _) = h2
    have hk2 : Keep h h2 := by rw [← hh]; exact (hk.pushed).set hk.1
    have hg : h2.get h'.next = some (.row [.string x.user, .bool x.f.r, .bool x.f.w, .bool x.f.e] 65 (.rw 0 [])) := by rw [← hh]; exact Hp.get_set_self _ _ _
    have hr := rowOf_rw hg
    have hx' := tmAt_eq hx
    clear hh
    cases hu : userT x.user with
    | false =>
      simp only [evr, nextP_norm, evd, evq, beq_self_eq_true, cond_true, cond_false, reduceIte, Nat.reduceEqDiff, Nat.reduceAdd, Int.reduceBNe, Int.reduceBEq, Int.reduceLT, Int.reduceLE, Int.reduceEq, evh, evp, Nat.reduceLeDiff, Nat.reduceSub, Nat.reduceBEq, typs, la, g0, g5, g6, g7, hr, (auser_spec x.user _).call, hu]
      refine ⟨?_, hk2⟩
      unfold listMay
      rw [all_no h3 (by unfold okAt; rw [hx', hu]; rfl)]; rfl
    | true =>
      cases i with
      | zero =>
        simp only [evr, nextP_norm, evd, evq, beq_self_eq_true, cond_true, cond_false, reduceIte, Nat.reduceEqDiff, Nat.reduceAdd, Int.reduceBNe, Int.reduceBEq, Int.reduceLT, Int.reduceLE, Int.reduceEq, evh, evp, Nat.reduceLeDiff, Nat.reduceSub, Nat.reduceBEq, typs, la, g0, g5, g6, g7, hr, (auser_spec x.user _).call, hu, Int.natCast_zero, Int.lt_irrefl, wrap64 (x := ((0 : Nat) : Int) + 1) (by omega) (by omega)]
        refine ⟨l.length - 1, by omega, hk2, 1, rfl, by omega, rfl, ?_⟩
        refine all_succ hp ?_
        unfold okAt; rw [hx', hu]; rfl
      | succ j =>
        obtain ⟨y, hy⟩ : ∃ y, l[j]? = some y := ⟨_, List.getElem?_eq_getElem (by omega)⟩
        obtain ⟨p2, ha2, hld2⟩ := TmSl.load (s.keep hk2) hy
        unfold tmV at hld2
        have hy' := tmAt_eq hy
        have e4 : decide ((0 : Int) < ((j + 1 : Nat) : Int)) = true := decide_eq_true (by omega)
        have w1 : IntKind.i64.wrap (((j + 1 : Nat) : Int) - 1) = (j : Int) := by rw [wrap64 (by omega) (by omega)]; omega
        simp only [evr, nextP_norm, evd, evq, beq_self_eq_true, cond_true, cond_false, reduceIte, Nat.reduceEqDiff, Nat.reduceAdd, Int.reduceBNe, Int.reduceBEq, Int.reduceLT, Int.reduceLE, Int.reduceEq, evh, evp, Nat.reduceLeDiff, Nat.reduceSub, Nat.reduceBEq, typs, la, g0, g5, g6, g7, hr, (auser_spec x.user _).call, hu, e4, w1, ha2, hld2]
        refine callP_meets (acompare_spec y x _) ?_
        rintro u h3' ⟨rfl, hk3⟩
        have hok : okAt l (j + 1) = ltS y.user x.user := by
          unfold okAt; rw [hx', hu, Nat.add_sub_cancel, hy']; simp
        rw [ltS_cmp] at hok
        rcases Bool.eq_false_or_eq_true (decide ((0 : Int) ≤ Lib.compareBytes y.user.data.toList x.user.data.toList)) with e5 | e5
        · simp only [evr, nextP_norm, evd, evq, beq_self_eq_true, cond_true, cond_false, reduceIte, Nat.reduceEqDiff, Nat.reduceAdd, Int.reduceBNe, Int.reduceBEq, Int.reduceLT, Int.reduceLE, Int.reduceEq, evh, evp, Nat.reduceLeDiff, Nat.reduceSub, Nat.reduceBEq, typs, la, g0, g5, g6, g7, e5]
          refine ⟨?_, hk2.trans hk3⟩
          unfold listMay
          rw [all_no h3 (by rw [hok]; simp at e5 ⊢; omega)]; rfl
        · simp only [evr, nextP_norm, evd, evq, beq_self_eq_true, cond_true, cond_false, reduceIte, Nat.reduceEqDiff, Nat.reduceAdd, Int.reduceBNe, Int.reduceBEq, Int.reduceLT, Int.reduceLE, Int.reduceEq, evh, evp, Nat.reduceLeDiff, Nat.reduceSub, Nat.reduceBEq, typs, la, g0, g5, g6, g7, e5, wrap64 (x := ((j + 1 : Nat) : Int) + 1) (by omega) (by omega)]
          refine ⟨l.length - (j + 1 + 1), by omega, hk2.trans hk3, j + 1 + 1, rfl, by omega, rfl, ?_⟩
          refine all_succ hp ?_
          rw [hok]; simp at e5 ⊢; omega
  · have e3 : decide ((i : Int) < l.length) = false := by simp; omega
    have hi2 : i = l.length := by omega
    subst hi2
    simp only [evr, nextP_norm, evd, evq, beq_self_eq_true, cond_true, cond_false, reduceIte, Nat.reduceEqDiff, Nat.reduceAdd, Int.reduceBNe, Int.reduceBEq, Int.reduceLT, Int.reduceLE, Int.reduceEq, evh, evp, Nat.reduceLeDiff, Nat.reduceSub, Nat.reduceBEq, typs, la, g0, g5, g6, g7, e3]
    refine ⟨?_, hk⟩
    unfold listMay
    rw [hp]
    simp
    omega
theorem clone_spec {h : Hp} {v : Value} {l : List Tm} (s : TmSl h v l) (hl : l.length ≤ 1000000000) : Meets kon 70 [v] h fun u h' => Keep h h' ∧ TmTy h' (fun b => h.next ≤ b) u l := by
  refine Meets.mk rfl (by kernel_rfl) Tryz.func70 rfl (congrArg Array.toList Tryz.results70) ?_
  rcases id s with ⟨rfl, hn⟩ | ⟨b, o, k, c, all, rfl, h1, h2, h3, h4, h5⟩
  · repeat' (first | simp only [evr, nextP_norm, evd, evq, beq_self_eq_true, cond_true, cond_false, reduceIte, Nat.reduceEqDiff, Nat.reduceAdd, Int.reduceBNe, Int.reduceBEq, Int.reduceLT, Int.reduceLE, Int.reduceEq, evh, evp, Nat.reduceLeDiff, Nat.reduceSub, Nat.reduceBEq, typs] | refine kCond2_by (fun hc => ?_) (fun hc => ?_) <;> try simp only [hc] | refine kPick_by (fun hc => ?_) (fun hc => ?_) <;> try simp only [hc] | refine kWant_by (fun hc => ?_) (fun hc => ?_) <;> try simp only [hc])
    exact ⟨Keep.refl _, .inl ⟨rfl, hn⟩⟩
  · have hk : k = l.length := by rw [tms_len] at h4; omega
    subst hk
    obtain ⟨j, e1, e2, e3⟩ := SlAt.cells (s.keep (Keep.push h (.row [] 65 (.rw 0 []))))
    simp only [lenOf, Option.some.injEq] at e1
    subst e1
    have ha := append_zero (P := kon.P) (t := 30) (e := 65) (n := 4) (by_ := 24) (z := .agg #[.string ByteArray.empty, .bool false, .bool false, .bool false]) (by kernel_rfl) (by kernel_rfl) (by kernel_rfl) (by kernel_rfl) (by kernel_rfl) (b := h.next) (x := .slice (some ⟨b, o, none⟩) l.length c) rfl e2 e3 (tms_cell l)
      (Nat.le_trans (Nat.mul_le_mul_right 25 (show _ ≤ 2000001024 by omega)) (by decide))
    rcases Bool.eq_false_or_eq_true (l.length == 0) with hz | hz
    · rw [hz] at ha
      simp only [cond_true] at ha
      repeat' (first | simp only [evr, nextP_norm, evd, evq, beq_self_eq_true, cond_true, cond_false, reduceIte, Nat.reduceEqDiff, Nat.reduceAdd, Int.reduceBNe, Int.reduceBEq, Int.reduceLT, Int.reduceLE, Int.reduceEq, evh, evp, Nat.reduceLeDiff, Nat.reduceSub, Nat.reduceBEq, typs, ha] | refine kCond2_by (fun hc => ?_) (fun hc => ?_) <;> try simp only [hc] | refine kPick_by (fun hc => ?_) (fun hc => ?_) <;> try simp only [hc] | refine kWant_by (fun hc => ?_) (fun hc => ?_) <;> try simp only [hc])
      refine ⟨Keep.push _ _, .inr ⟨h.next, 0, 0, 2 * 0, [], _, rfl, Nat.le_refl _, Nat.le_refl _, Nat.lt_succ_self _, Hp.get_push_self _ _, trivial, ?_, ?_⟩⟩
      · rw [tms_len]; simp at hz; simp [hz]
      · have : (tms l).length = 0 := by rw [tms_len]; simp at hz; simp [hz]
        simp [List.length_eq_zero_iff.1 this]
    · rw [hz] at ha
      simp only [cond_false] at ha
      repeat' (first | simp only [evr, nextP_norm, evd, evq, beq_self_eq_true, cond_true, cond_false, reduceIte, Nat.reduceEqDiff, Nat.reduceAdd, Int.reduceBNe, Int.reduceBEq, Int.reduceLT, Int.reduceLE, Int.reduceEq, evh, evp, Nat.reduceLeDiff, Nat.reduceSub, Nat.reduceBEq, typs, ha] | refine kCond2_by (fun hc => ?_) (fun hc => ?_) <;> try simp only [hc] | refine kPick_by (fun hc => ?_) (fun hc => ?_) <;> try simp only [hc] | refine kWant_by (fun hc => ?_) (fun hc => ?_) <;> try simp only [hc])
      refine ⟨(Keep.push _ _).pushed, .inr ⟨h.next + 1, 0, l.length, 2 * l.length + 1, tms l, _, rfl, by omega, by omega, Nat.lt_succ_self _, Hp.get_push_self (h.push _) _, trivial, tms_len l, ?_⟩⟩
      rw [List.drop_zero, List.take_of_length_le (by rw [tms_len]; omega)]
theorem ringMay_spec (b : Bk) (h : Hp) : Meets kon 71 [bkV b] h fun v h' => v = .bool (bkMay b) ∧ Keep h h' := by
  unfold bkV
  refine Meets.mk rfl (by kernel_rfl) Tryz.func71 rfl (congrArg Array.toList Tryz.results71) ?_
  repeat' (first | simp only [evr, nextP_norm, evd, evq, beq_self_eq_true, cond_true, cond_false, reduceIte, Nat.reduceEqDiff, Nat.reduceAdd, Int.reduceBNe, Int.reduceBEq, Int.reduceLT, Int.reduceLE, Int.reduceEq, evh, evp, Nat.reduceLeDiff, Nat.reduceSub, Nat.reduceBEq, typs] | refine kCond2_by (fun hc => ?_) (fun hc => ?_) <;> try simp only [hc] | refine kPick_by (fun hc => ?_) (fun hc => ?_) <;> try simp only [hc] | refine kWant_by (fun hc => ?_) (fun hc => ?_) <;> try simp only [hc])
  all_goals (refine ⟨?_, Keep.push _ _⟩; congr 1; unfold bkMay; simp_all; try (intros; omega))
end Go.Proofs.YtncmgiddcefpcaaGreatDoor
namespace Go.Proofs.YtncmgiddcefpcaaGreatDoor
open Go Go.Ev Go.Con
set_option linter.unusedSimpArgs false
set_option linter.unusedVariables false
set_option maxRecDepth 100000
theorem evBin_agg {P : Program} {t : TypeId} {xo yo : Operand} {xs ys : Array Value} {r : Bool} (hf : (flat (.agg xs) && flat (.agg ys)) = true) (hg : P.eqGuardType P.depth t = false) (he : prun P (Op.equal t (.agg xs) (.agg ys)) = some r) :
    evBin P .eql t xo yo (.agg xs) (.agg ys) = some (.bool r) ∧ evBin P .neq t xo yo (.agg xs) (.agg ys) = some (.bool !r) := by
  have h0 : prun P Go.program = some P := rfl
  have g : ∀ op, op = BinOp.eql ∨ op = BinOp.neq → prun P (eqGuard op t xo yo (.agg xs) (.agg ys)) = some () := fun op ho => by
    rcases ho with rfl | rfl
    all_goals
      unfold eqGuard
      simp only [Bool.not_true, Bool.false_eq_true, if_false]
      rw [prun_bind, h0, Option.bind_some, prun_bind, h0, Option.bind_some, hg]
      rfl
  constructor
  · unfold evBin
    rw [hf]
    show prunS P (do eqGuard .eql t xo yo (.agg xs) (.agg ys); binOp .eql t (.agg xs) (.agg ys)) = _
    unfold prunS
    rw [prun_bind, g _ (.inl rfl), Option.bind_some]
    show ((prun P ((do pure (Value.bool (← Op.equal t (.agg xs) (.agg ys)))) : Sem Value)).bind _) = _
    rw [prun_bind, he]; rfl
  · unfold evBin
    rw [hf]
    show prunS P (do eqGuard .neq t xo yo (.agg xs) (.agg ys); binOp .neq t (.agg xs) (.agg ys)) = _
    unfold prunS
    rw [prun_bind, g _ (.inr rfl), Option.bind_some]
    show ((prun P ((do pure (Value.bool (!(← Op.equal t (.agg xs) (.agg ys))))) : Sem Value)).bind _) = _
    rw [prun_bind, he]; rfl
theorem eq_bk (x y : Bk) : prun Tryz.prog (Op.equal 32 (.agg #[.int .i64 x.r1, .int .i64 x.r2, .int .i64 x.r3, .int .i64 x.g]) (.agg #[.int .i64 y.r1, .int .i64 y.r2, .int .i64 y.r3, .int .i64 y.g])) = some (decide (x = y)) := by
  have h1 := Tryz.underlying32
  have e1 := fun a b => eqIn_int (P := Tryz.prog) (t := 3) Tryz.underlying3 9998 a b
  refine eqIn_struct h1 (by kernel_rfl) 9999 _ _ ?_
  have p1 : ∀ (u v w z : Value), prun Tryz.prog (part 3 #[u, v, w, z] 0) = some u := by intro u v w z; kernel_rfl
  have p2 : ∀ (u v w z : Value), prun Tryz.prog (part 3 #[u, v, w, z] 1) = some v := by intro u v w z; kernel_rfl
  have p3 : ∀ (u v w z : Value), prun Tryz.prog (part 3 #[u, v, w, z] 2) = some w := by intro u v w z; kernel_rfl
  have p4 : ∀ (u v w z : Value), prun Tryz.prog (part 3 #[u, v, w, z] 3) = some z := by intro u v w z; kernel_rfl
  simp only [fieldsEq, ne_eq, String.reduceEq, not_false_eq_true, if_true, p1, p2, p3, p4, e1, Option.bind_some]
  obtain ⟨a, b, c, d⟩ := x
  obtain ⟨a', b', c', d'⟩ := y
  by_cases h : a = a' <;> by_cases h' : b = b' <;> by_cases h'' : c = c' <;> by_cases h3 : d = d' <;> simp [h, h', h'', h3]
theorem evBk (x y : Bk) (xo yo : Operand) : evBin kon.P .eql 32 xo yo (.agg #[.int .i64 x.r1, .int .i64 x.r2, .int .i64 x.r3, .int .i64 x.g]) (.agg #[.int .i64 y.r1, .int .i64 y.r2, .int .i64 y.r3, .int .i64 y.g]) = some (.bool (decide (x = y))) ∧
    evBin kon.P .neq 32 xo yo (.agg #[.int .i64 x.r1, .int .i64 x.r2, .int .i64 x.r3, .int .i64 x.g]) (.agg #[.int .i64 y.r1, .int .i64 y.r2, .int .i64 y.r3, .int .i64 y.g]) = some (.bool !decide (x = y)) := evBin_agg rfl (by kernel_rfl) (eq_bk x y)
theorem eq_tm (x y : Tm) : prun Tryz.prog (Op.equal 65 (tmV x) (tmV y)) = some (decide (x = y)) := by
  have h1 := Tryz.underlying65
  have e1 := eqIn_string (P := Tryz.prog) (t := 9) Tryz.underlying9 9998 x.user y.user
  have e2 : prun Tryz.prog (Op.equalIn 9999 62 (.agg #[.bool x.f.r, .bool x.f.w, .bool x.f.e]) (.agg #[.bool y.f.r, .bool y.f.w, .bool y.f.e])) = some (decide (x.f = y.f)) := by
    have h1 := Tryz.underlying62
    have e1 := fun a b => eqIn_bool (P := Tryz.prog) (t := 4) Tryz.underlying4 9997 a b
    refine eqIn_struct h1 (by kernel_rfl) 9998 _ _ ?_
    have p1 : ∀ (u v w : Value), prun Tryz.prog (part 4 #[u, v, w] 0) = some u := by intro u v w; kernel_rfl
    have p2 : ∀ (u v w : Value), prun Tryz.prog (part 4 #[u, v, w] 1) = some v := by intro u v w; kernel_rfl
    have p3 : ∀ (u v w : Value), prun Tryz.prog (part 4 #[u, v, w] 2) = some w := by intro u v w; kernel_rfl
    simp only [fieldsEq, ne_eq, String.reduceEq, not_false_eq_true, if_true, p1, p2, p3, e1, Option.bind_some]
    obtain ⟨_, ⟨a, b, c⟩⟩ := x
    obtain ⟨_, ⟨a', b', c'⟩⟩ := y
    by_cases h : a = a' <;> by_cases h' : b = b' <;> by_cases h'' : c = c' <;> simp [h, h', h'']
  refine eqIn_struct h1 (by kernel_rfl) 9999 _ _ ?_
  have p1 : ∀ (u v w z : Value), prun Tryz.prog (part 9 #[u, v, w, z] 0) = some u := by intro u v w z; kernel_rfl
  have p2 : ∀ (u v w z : Value), prun Tryz.prog (part 62 #[u, v, w, z] 1) = some (.agg #[v, w, z]) := by intro u v w z; kernel_rfl
  simp only [fieldsEq, ne_eq, String.reduceEq, not_false_eq_true, if_true, p1, p2, e1, e2, Option.bind_some]
  obtain ⟨a, f⟩ := x
  obtain ⟨b, g⟩ := y
  by_cases h : a = b <;> by_cases h' : f = g <;> simp [h, h']
theorem evTm (x y : Tm) (xo yo : Operand) : evBin kon.P .eql 65 xo yo (tmV x) (tmV y) = some (.bool (decide (x = y))) ∧ evBin kon.P .neq 65 xo yo (tmV x) (tmV y) = some (.bool !decide (x = y)) := evBin_agg rfl (by kernel_rfl) (eq_tm x y)
end Go.Proofs.YtncmgiddcefpcaaGreatDoor
namespace Go.Proofs.YtncmgiddcefpcaaGreatDoor
open Go Go.Ev Go.Con
set_option linter.unusedSimpArgs false
set_option linter.unusedVariables false
set_option maxRecDepth 100000
def ptrV (b : Nat) : Value := .pointer (some ⟨b, 0, none⟩)
def optP : Option Nat → Value
  | none => .pointer none
  | some b => ptrV b
def intV (n : Int) : Value := .int .i64 n
def bnC (b : Bn) (sl : Value) : List Value := [.int .i64 b.kind, .int .i64 b.uid, .int .i64 b.dir, .string b.link, .bool b.object, sl, .int .i64 b.b.r1, .int .i64 b.b.r2, .int .i64 b.b.r3, .int .i64 b.b.g]
structure Nd where
  b : Bn
  home : Int
  many : Int
def ndC (x : Nd) (sl : Value) : List Value := [.int .i64 x.b.kind, .int .i64 x.b.uid, .int .i64 x.b.dir, .string x.b.link, .bool x.b.object, sl, .int .i64 x.b.b.r1, .int .i64 x.b.b.r2, .int .i64 x.b.b.r3, .int .i64 x.b.b.g, .int .i64 x.home, .int .i64 x.many]
structure CoreAt (h : Hp) (bt bl bd bu : Nat) (fL : Int × ByteArray → Option Nat) (fD : Int → Option Int) (fU : Int → Option Nat) (nx : Int) : Prop where
  row : h.get bt = some (.row [.map (some bl), .map (some bd), .map (some bu), .int .i64 nx] 92 (.rw 0 []))
  l : MapIs keyK ptrV h bl fL
  d : MapIs keyI intV h bd fD
  u : MapIs keyI ptrV h bu fU
  ld : bl ≠ bd
  lu : bl ≠ bu
  du : bd ≠ bu
def NodeAt (h : Hp) (F : Nat → Prop) (b : Nat) (x : Nd) : Prop := ∃ sl, b < h.next ∧ h.get b = some (.row (ndC x sl) 110 (.rw 0 [])) ∧ TmTy h F sl x.b.acl
section
variable {h : Hp} {bt bl bd bu : Nat} {fL : Int × ByteArray → Option Nat} {fD : Int → Option Int} {fU : Int → Option Nat} {nx : Int}
theorem CoreAt.lookD (c : CoreAt h bt bl bd bu fL fD fU nx) (d : Int) (f : Bool) : evLookup kon.P 89 (.map (some bd)) (.int .i64 d) f h = some (match fD d with
    | some n => bif f then .tuple #[.int .i64 n, .bool true] else .int .i64 n
    | none => bif f then .tuple #[.int .i64 0, .bool false] else .int .i64 0) := by
  have := c.d.look (kt := 3) (et := 3) (t := 89) (P := kon.P) (by kernel_rfl) (keyI_ok Tryz.underlying3) (z := .int .i64 0) (by kernel_rfl) rfl d f
  unfold keyI at this
  rw [this]
  cases fD d <;> rfl
theorem CoreAt.lookL (c : CoreAt h bt bl bd bu fL fD fU nx) (d : Int) (s : ByteArray) : evLookup kon.P 88 (.map (some bl)) (.agg #[.int .i64 d, .string s]) false h = some (optP (fL (d, s))) := by
  have := c.l.look (kt := 149) (et := 106) (t := 88) (P := kon.P) (by kernel_rfl) keyK_ok (z := .pointer none) (by kernel_rfl) rfl (d, s) false
  unfold keyK at this
  rw [this]
  cases fL (d, s) <;> rfl
theorem CoreAt.lookU (c : CoreAt h bt bl bd bu fL fD fU nx) (u : Int) : evLookup kon.P 90 (.map (some bu)) (.int .i64 u) false h = some (optP (fU u)) := by
  have := c.u.look (kt := 3) (et := 106) (t := 90) (P := kon.P) (by kernel_rfl) (keyI_ok Tryz.underlying3) (z := .pointer none) (by kernel_rfl) rfl u false
  unfold keyI at this
  rw [this]
  cases fU u <;> rfl
theorem is_spec (c : CoreAt h bt bl bd bu fL fD fU nx) (d : Int) : Meets kon 49 [ptrV bt, .int .i64 d] h fun v h' => v = .bool (fD d).isSome ∧ h' = h := by
  unfold ptrV
  refine Meets.mk rfl (by kernel_rfl) Tryz.func49 rfl (congrArg Array.toList Tryz.results49) ?_
  have hr := rowOf_rw c.row
  have e1 := c.lookD d true
  cases hd : fD d with
  | none =>
    rw [hd] at e1
    simp only [cond_true] at e1
    simp only [evr, nextP_norm, evd, evq, beq_self_eq_true, cond_true, cond_false, reduceIte, Nat.reduceEqDiff, Nat.reduceAdd, Int.reduceBNe, Int.reduceBEq, Int.reduceLT, Int.reduceLE, Int.reduceEq, evh, evp, Nat.reduceLeDiff, Nat.reduceSub, Nat.reduceBEq, typs, hr, e1]
    rfl
  | some n =>
    rw [hd] at e1
    simp only [cond_true] at e1
    simp only [evr, nextP_norm, evd, evq, beq_self_eq_true, cond_true, cond_false, reduceIte, Nat.reduceEqDiff, Nat.reduceAdd, Int.reduceBNe, Int.reduceBEq, Int.reduceLT, Int.reduceLE, Int.reduceEq, evh, evp, Nat.reduceLeDiff, Nat.reduceSub, Nat.reduceBEq, typs, hr, e1]
    rfl
theorem none_spec (b : Nat) (h : Hp) : Meets kon 50 [ptrV b] h fun v h' => v = .int .i64 4 ∧ h' = h := by
  unfold ptrV
  refine Meets.mk rfl (by kernel_rfl) Tryz.func50 rfl (congrArg Array.toList Tryz.results50) ?_
  simp only [evr, nextP_norm, evd, evq, beq_self_eq_true, cond_true, cond_false, reduceIte, Nat.reduceEqDiff, Nat.reduceAdd, Int.reduceBNe, Int.reduceBEq, Int.reduceLT, Int.reduceLE, Int.reduceEq, evh, evp, Nat.reduceLeDiff, Nat.reduceSub, Nat.reduceBEq, typs]
theorem get_spec (c : CoreAt h bt bl bd bu fL fD fU nx) (d : Int) (s : ByteArray) : Meets kon 52 [ptrV bt, .int .i64 d, .string s] h fun v h' => v = optP (fL (d, s)) ∧ h' = h := by
  unfold ptrV
  refine Meets.mk rfl (by kernel_rfl) Tryz.func52 rfl (congrArg Array.toList Tryz.results52) ?_
  have hr := rowOf_rw c.row
  have e1 := c.lookL d s
  simp only [evr, nextP_norm, evd, evq, beq_self_eq_true, cond_true, cond_false, reduceIte, Nat.reduceEqDiff, Nat.reduceAdd, Int.reduceBNe, Int.reduceBEq, Int.reduceLT, Int.reduceLE, Int.reduceEq, evh, evp, Nat.reduceLeDiff, Nat.reduceSub, Nat.reduceBEq, typs, hr, e1]
theorem get_ne {h : Hp} {a b : Nat} {x y : Ob} (ha : h.get a = some x) (hb : h.get b = some y) (hn : x ≠ y) : a ≠ b := by
  rintro rfl; rw [ha] at hb; exact hn (Option.some.inj hb)
theorem CoreAt.bt_bl (c : CoreAt h bt bl bd bu fL fD fU nx) : bt ≠ bl := by obtain ⟨es, ck, hg⟩ := c.l.get; exact get_ne c.row hg (by simp)
theorem CoreAt.bt_bd (c : CoreAt h bt bl bd bu fL fD fU nx) : bt ≠ bd := by obtain ⟨es, ck, hg⟩ := c.d.get; exact get_ne c.row hg (by simp)
theorem CoreAt.bt_bu (c : CoreAt h bt bl bd bu fL fD fU nx) : bt ≠ bu := by obtain ⟨es, ck, hg⟩ := c.u.get; exact get_ne c.row hg (by simp)
theorem CoreAt.row_ne (c : CoreAt h bt bl bd bu fL fD fU nx) {n : Nat} {cs : List Value} {e : TypeId} {st : St} (hn : h.get n = some (.row cs e st)) : n ≠ bl ∧ n ≠ bd ∧ n ≠ bu := by
  obtain ⟨es, ck, h1⟩ := c.l.get
  obtain ⟨es2, ck2, h2⟩ := c.d.get
  obtain ⟨es3, ck3, h3⟩ := c.u.get
  exact ⟨get_ne hn h1 (by simp), get_ne hn h2 (by simp), get_ne hn h3 (by simp)⟩
theorem CoreAt.node_ne (c : CoreAt h bt bl bd bu fL fD fU nx) {n : Nat} {cs : List Value} {st : St} (hn : h.get n = some (.row cs 110 st)) : n ≠ bt :=
  get_ne hn c.row (fun e => by simp at e)
theorem put_spec (c : CoreAt h bt bl bd bu fL fD fU nx) {n : Nat} {x : Nd} {sl : Value} (hn : h.get n = some (.row (ndC x sl) 110 (.rw 0 []))) (d : Int) (s : ByteArray)
    (b1 : -4000000000000000000 ≤ (fD d).getD 0) (b2 : (fD d).getD 0 ≤ 4000000000000000000) (b3 : -4000000000000000000 ≤ x.many) (b4 : x.many ≤ 4000000000000000000) :
    Meets kon 54 [ptrV bt, .int .i64 d, .string s, ptrV n] h fun v h' => v = .tuple #[] ∧ CoreAt h' bt bl bd bu (upd fL (d, s) (some n)) (upd fD d (some ((fD d).getD 0 + 1))) fU nx ∧
      h'.get n = some (.row (ndC { x with many := x.many + 1 } sl) 110 (.rw 0 [])) ∧ h'.next = h.next ∧ ∀ k, k ≠ bl → k ≠ bd → k ≠ n → h'.get k = h.get k := by
  obtain ⟨nl, nd, nu⟩ := c.row_ne hn
  have nt := c.node_ne hn
  obtain ⟨h1, e1, m1, n1, s1⟩ := c.l.put (t := 88) (kt := 149) (et := 106) (P := kon.P) (by kernel_rfl) keyK_ok (d, s) n
  have md1 : MapIs keyI intV h1 bd fD := c.d.eq (s1 bd (Ne.symm c.ld))
  obtain ⟨h2, e2, m2, n2, s2⟩ := md1.put (t := 89) (kt := 3) (et := 3) (P := kon.P) (by kernel_rfl) (keyI_ok Tryz.underlying3) d ((fD d).getD 0 + 1)
  have c1 : CoreAt h1 bt bl bd bu (upd fL (d, s) (some n)) fD fU nx := ⟨by rw [s1 bt c.bt_bl]; exact c.row, m1, md1, c.u.eq (s1 bu (Ne.symm c.lu)), c.ld, c.lu, c.du⟩
  have c2 : CoreAt h2 bt bl bd bu (upd fL (d, s) (some n)) (upd fD d (some ((fD d).getD 0 + 1))) fU nx := ⟨by rw [s2 bt c1.bt_bd]; exact c1.row, c1.l.eq (s2 bl c.ld), m2, c1.u.eq (s2 bu (Ne.symm c.du)), c.ld, c.lu, c.du⟩
  have hn2 : h2.get n = some (.row (ndC x sl) 110 (.rw 0 [])) := by rw [s2 n nd, s1 n nl]; exact hn
  have r0 := rowOf_rw c.row
  have r1 := rowOf_rw c1.row
  have r2 := rowOf_rw hn2
  have l1 : evLookup kon.P 89 (.map (some bd)) (.int .i64 d) false h1 = some (.int .i64 ((fD d).getD 0)) := by
    rw [c1.lookD d false]; cases fD d <;> rfl
  have w1 := wrap64 (x := (fD d).getD 0 + 1) (by omega) (by omega)
  have w2 := wrap64 (x := x.many + 1) (by omega) (by omega)
  unfold keyK ptrV at e1
  unfold keyI intV at e2
  unfold ptrV
  unfold ndC at hn2 r2
  refine Meets.mk rfl (by kernel_rfl) Tryz.func54 rfl (congrArg Array.toList Tryz.results54) ?_
  simp only [evr, nextP_norm, evd, evq, beq_self_eq_true, cond_true, cond_false, reduceIte, Nat.reduceEqDiff, Nat.reduceAdd, Int.reduceBNe, Int.reduceBEq, Int.reduceLT, Int.reduceLE, Int.reduceEq, evh, evp, Nat.reduceLeDiff, Nat.reduceSub, Nat.reduceBEq, typs, r0, e1, r1, l1, w1, e2, r2, w2, hn2]
  refine ⟨⟨by rw [Hp.get_set_ne (Ne.symm nt)]; exact c2.row, c2.l.eq (Hp.get_set_ne (Ne.symm nl)), c2.d.eq (Hp.get_set_ne (Ne.symm nd)), c2.u.eq (Hp.get_set_ne (Ne.symm nu)), c.ld, c.lu, c.du⟩, ?_, ?_, fun k k1 k2 k3 => ?_⟩
  · rfl
  · rw [n2, n1]
  · rw [if_neg k3, s2 k k2, s1 k k1]
theorem take_spec (c : CoreAt h bt bl bd bu fL fD fU nx) {n : Nat} {x : Nd} {sl : Value} (hn : h.get n = some (.row (ndC x sl) 110 (.rw 0 []))) (d : Int) (s : ByteArray) (hf : fL (d, s) = some n)
    (b1 : -4000000000000000000 ≤ (fD d).getD 0) (b2 : (fD d).getD 0 ≤ 4000000000000000000) (b3 : -4000000000000000000 ≤ x.many) (b4 : x.many ≤ 4000000000000000000) :
    Meets kon 74 [ptrV bt, .int .i64 d, .string s] h fun v h' => v = .tuple #[] ∧ CoreAt h' bt bl bd bu (upd fL (d, s) none) (upd fD d (some ((fD d).getD 0 - 1))) fU nx ∧
      h'.get n = some (.row (ndC { x with many := x.many - 1 } sl) 110 (.rw 0 [])) ∧ h'.next = h.next ∧ ∀ k, k ≠ bl → k ≠ bd → k ≠ n → h'.get k = h.get k := by
  obtain ⟨nl, nd, nu⟩ := c.row_ne hn
  have nt := c.node_ne hn
  have l0 := c.lookL d s
  rw [hf] at l0
  unfold optP ptrV at l0
  generalize hg : h.set n (.row (ndC { x with many := x.many - 1 } sl) 110 (.rw 0 [])) = h1
  have s1 : ∀ k, k ≠ n → h1.get k = h.get k := fun k hk => by rw [← hg]; exact Hp.get_set_ne hk
  have hn1 : h1.get n = some (.row (ndC { x with many := x.many - 1 } sl) 110 (.rw 0 [])) := by rw [← hg]; exact Hp.get_set_self _ _ _
  have x1 : h1.next = h.next := by rw [← hg]; rfl
  have c1 : CoreAt h1 bt bl bd bu fL fD fU nx := ⟨by rw [s1 bt (Ne.symm nt)]; exact c.row, c.l.eq (s1 bl (Ne.symm nl)), c.d.eq (s1 bd (Ne.symm nd)), c.u.eq (s1 bu (Ne.symm nu)), c.ld, c.lu, c.du⟩
  obtain ⟨h2, e2, m2, n2, s2⟩ := c1.l.del (t := 88) (kt := 149) (et := 106) (P := kon.P) (by kernel_rfl) keyK_ok (d, s)
  have c2 : CoreAt h2 bt bl bd bu (upd fL (d, s) none) fD fU nx := ⟨by rw [s2 bt c1.bt_bl]; exact c1.row, m2, c1.d.eq (s2 bd (Ne.symm c.ld)), c1.u.eq (s2 bu (Ne.symm c.lu)), c.ld, c.lu, c.du⟩
  obtain ⟨h3, e3, m3, n3, s3⟩ := c2.d.put (t := 89) (kt := 3) (et := 3) (P := kon.P) (by kernel_rfl) (keyI_ok Tryz.underlying3) d ((fD d).getD 0 - 1)
  have r0 := rowOf_rw c.row
  have r1 := rowOf_rw hn
  have r2 := rowOf_rw c1.row
  have r3 := rowOf_rw c2.row
  have l1 : evLookup kon.P 89 (.map (some bd)) (.int .i64 d) false h2 = some (.int .i64 ((fD d).getD 0)) := by
    rw [c2.lookD d false]; cases fD d <;> rfl
  have w1 := wrap64 (x := (fD d).getD 0 - 1) (by omega) (by omega)
  have w2 := wrap64 (x := x.many - 1) (by omega) (by omega)
  unfold keyK at e2
  unfold keyI intV at e3
  unfold ptrV
  have hn' := hn
  unfold ndC at hn' r1 hg
  refine Meets.mk rfl (by kernel_rfl) Tryz.func74 rfl (congrArg Array.toList Tryz.results74) ?_
  simp only [evr, nextP_norm, evd, evq, beq_self_eq_true, cond_true, cond_false, reduceIte, Nat.reduceEqDiff, Nat.reduceAdd, Int.reduceBNe, Int.reduceBEq, Int.reduceLT, Int.reduceLE, Int.reduceEq, evh, evp, Nat.reduceLeDiff, Nat.reduceSub, Nat.reduceBEq, typs, r0, l0, r1, w2, hn', hg, r2, e2, r3, l1, w1, e3]
  refine ⟨⟨by rw [s3 bt c2.bt_bd]; exact c2.row, c2.l.eq (s3 bl c.ld), m3, c2.u.eq (s3 bu (Ne.symm c.du)), c.ld, c.lu, c.du⟩, ?_, ?_, fun k k1 k2 k3 => ?_⟩
  · rw [s3 n nd, s2 n nl]; exact hn1
  · rw [n3, n2, x1]
  · rw [s3 k k2, s2 k k1, s1 k k3]
def outV (b : Bn) (sl : Value) : Value := .tuple #[.agg (bnC b sl).toArray, .bool true]
def noneV : Value := .tuple #[.agg #[.int .i64 0, .int .i64 0, .int .i64 0, .string ByteArray.empty, .bool false, .slice none 0 0, .int .i64 0, .int .i64 0, .int .i64 0, .int .i64 0], .bool false]
def OutP (o : Option Bn) (h : Hp) (v : Value) (h' : Hp) : Prop := Keep h h' ∧ match o with
  | none => v = noneV
  | some b => ∃ sl, v = outV b sl ∧ TmTy h' (fun k => h.next ≤ k) sl b.acl
theorem out_nil (h : Hp) : Meets kon 75 [.pointer none] h (OutP none h) := by
  refine Meets.mk rfl (by kernel_rfl) Tryz.func75 rfl (congrArg Array.toList Tryz.results75) ?_
  repeat' (first | simp only [evr, nextP_norm, evd, evq, beq_self_eq_true, cond_true, cond_false, reduceIte, Nat.reduceEqDiff, Nat.reduceAdd, Int.reduceBNe, Int.reduceBEq, Int.reduceLT, Int.reduceLE, Int.reduceEq, evh, evp, Nat.reduceLeDiff, Nat.reduceSub, Nat.reduceBEq, typs] | refine kCond2_by (fun hc => ?_) (fun hc => ?_) <;> try simp only [hc] | refine kPick_by (fun hc => ?_) (fun hc => ?_) <;> try simp only [hc] | refine kWant_by (fun hc => ?_) (fun hc => ?_) <;> try simp only [hc])
  exact ⟨(Keep.push _ _).set (Nat.le_refl _), rfl⟩
theorem out_spec {F : Nat → Prop} {n : Nat} {x : Nd} (hN : NodeAt h F n x) (hl : x.b.acl.length ≤ 1000000000) : Meets kon 75 [ptrV n] h (OutP (some x.b) h) := by
  obtain ⟨sl, hlt, hn, hs⟩ := hN
  have r1 := rowOf_rw hn
  have e0 : (n = h.next) = False := eq_false (by omega)
  have e1 : (n = h.next + 1) = False := eq_false (by omega)
  unfold ndC at r1
  unfold ptrV
  refine Meets.mk rfl (by kernel_rfl) Tryz.func75 rfl (congrArg Array.toList Tryz.results75) ?_
  have hsc := hs.isCell
  repeat' (first | simp only [evr, nextP_norm, evd, evq, beq_self_eq_true, cond_true, cond_false, reduceIte, Nat.reduceEqDiff, Nat.reduceAdd, Int.reduceBNe, Int.reduceBEq, Int.reduceLT, Int.reduceLE, Int.reduceEq, evh, evp, Nat.reduceLeDiff, Nat.reduceSub, Nat.reduceBEq, typs, r1, e0, e1, if_false, hsc] | refine kCond2_by (fun hc => ?_) (fun hc => ?_) <;> try simp only [hc] | refine kPick_by (fun hc => ?_) (fun hc => ?_) <;> try simp only [hc] | refine kWant_by (fun hc => ?_) (fun hc => ?_) <;> try simp only [hc])
  generalize hh : Hp.set _ (h.next + 1) _ = H
  have g1 : H.get (h.next + 1) = some (.row (bnC x.b sl) 40 (.rw 0 [])) := by rw [← hh]; exact Hp.get_set_self _ _ _
  have hk : Keep h H := by rw [← hh]; exact ((Keep.push _ _).pushed).set (Nat.le_succ _)
  have g0 : ∃ zs, H.get h.next = some (.row zs 40 (.rw 0 [])) ∧ zs.length = 10 := by
    refine ⟨_, by rw [← hh, Hp.get_set_ne (by omega), Hp.get_push_lt (Nat.lt_succ_self _)]; exact Hp.get_push_self _ _, rfl⟩
  have hx : H.next = h.next + 2 := by rw [← hh]; rfl
  obtain ⟨zs, g0, hz⟩ := g0
  clear hh
  refine callP_meets (clone_spec (SlAt.keep hs.slAt hk) hl) ?_
  rintro sl' h3 ⟨hk3, hs3⟩
  have g1' := (hk3.2 _ (by omega)).trans g1
  have g0' := (hk3.2 _ (by omega)).trans g0
  have q1 := rowOf_rw g1'
  have q0 := rowOf_rw g0'
  unfold bnC at g1' q1
  have hsc3 := hs3.isCell
  have hcv := hs3.cellsV
  have hd : List.drop 10 zs = [] := List.drop_eq_nil_of_le (by omega)
  repeat' (first | simp only [evr, nextP_norm, evd, evq, beq_self_eq_true, cond_true, cond_false, reduceIte, Nat.reduceEqDiff, Nat.reduceAdd, Int.reduceBNe, Int.reduceBEq, Int.reduceLT, Int.reduceLE, Int.reduceEq, evh, evp, Nat.reduceLeDiff, Nat.reduceSub, Nat.reduceBEq, typs, q1, g1', q0, g0', hz, hsc3, hcv, hd] | refine kCond2_by (fun hc => ?_) (fun hc => ?_) <;> try simp only [hc] | refine kPick_by (fun hc => ?_) (fun hc => ?_) <;> try simp only [hc] | refine kWant_by (fun hc => ?_) (fun hc => ?_) <;> try simp only [hc])
  refine ⟨((hk.trans hk3).set (Nat.le_succ _)).set (Nat.le_refl _), sl', rfl, ?_⟩
  refine hs3.same (Same.trans (Same.set (b := h.next + 1) ?_) (Same.set (b := h.next) ?_)) (fun k hk => by omega)
  · rw [g1']; exact (by decide : 40 ≠ 65)
  · rw [Hp.get_set_ne (by omega), g0']; exact (by decide : 40 ≠ 65)
def OutOf (h : Hp) (F : Nat → Prop) (o : Option Nat) (r : Option Bn) : Prop := match o, r with
  | none, none => True
  | some n, some b => ∃ x, NodeAt h F n x ∧ x.b = b ∧ b.acl.length ≤ 1000000000
  | _, _ => False
theorem out_any {F : Nat → Prop} {o : Option Nat} {r : Option Bn} (hO : OutOf h F o r) : Meets kon 75 [optP o] h (OutP r h) := by
  cases o with
  | none => cases r with
    | none => exact out_nil h
    | some b => exact hO.elim
  | some n => cases r with
    | none => exact hO.elim
    | some b =>
      obtain ⟨x, hN, rfl, hl⟩ := hO
      exact out_spec hN hl
theorem CoreAt.keep (c : CoreAt h bt bl bd bu fL fD fU nx) {h' : Hp} (k : Keep h h') (lt : bt < h.next ∧ bl < h.next ∧ bd < h.next ∧ bu < h.next) : CoreAt h' bt bl bd bu fL fD fU nx :=
  ⟨by rw [k.2 bt lt.1]; exact c.row, c.l.eq (k.2 bl lt.2.1), c.d.eq (k.2 bd lt.2.2.1), c.u.eq (k.2 bu lt.2.2.2), c.ld, c.lu, c.du⟩
theorem NodeAt.keep {F : Nat → Prop} {n : Nat} {x : Nd} (hN : NodeAt h F n x) {h' : Hp} (k : Keep h h') : NodeAt h' F n x := by
  obtain ⟨sl, h1, h2, h3⟩ := hN
  refine ⟨sl, Nat.lt_of_lt_of_le h1 k.1, by rw [k.2 n h1]; exact h2, ?_⟩
  exact h3.same (Same.keep k) fun _ hk => hk
theorem OutOf.keep {F : Nat → Prop} {o : Option Nat} {r : Option Bn} (hO : OutOf h F o r) {h' : Hp} (k : Keep h h') : OutOf h' F o r := by
  cases o with
  | none => cases r with
    | none => trivial
    | some b => exact hO.elim
  | some n => cases r with
    | none => exact hO.elim
    | some b => obtain ⟨x, h1, h2⟩ := hO; exact ⟨x, h1.keep k, h2⟩
theorem OutP.cells {r : Option Bn} {h h' : Hp} {v : Value} (o : OutP r h v h') : ∃ cs b, v = .tuple #[.agg cs, .bool b] ∧ b = r.isSome ∧ cs.toList.length = 10 ∧ cs.toList.all isCell = true := by
  obtain ⟨_, o⟩ := o
  cases r with
  | none => subst o; exact ⟨_, _, rfl, rfl, rfl, rfl⟩
  | some b =>
    obtain ⟨sl, rfl, hs⟩ := o
    refine ⟨_, _, rfl, rfl, rfl, ?_⟩
    simp [bnC, isCell_int, isCell_string, isCell_bool, hs.isCell]
theorem OutP.set {r : Option Bn} {h0 h h' : Hp} {v : Value} (o : OutP r h v h') (k : Keep h0 h) {b : Nat} (hb : h0.next ≤ b) {cs cs' : List Value} (hg : h'.get b = some (.row cs 40 (.rw 0 []))) : OutP r h0 v (h'.set b (.row cs' 40 (.rw 0 []))) := by
  obtain ⟨k1, o⟩ := o
  refine ⟨(k.trans k1).set hb, ?_⟩
  cases r with
  | none => exact o
  | some x =>
    obtain ⟨sl, hv, hs⟩ := o
    refine ⟨sl, hv, hs.same (Same.set ?_) fun j hj => Nat.le_trans k.1 hj⟩
    rw [hg]; exact (by decide : 40 ≠ 65)
theorem look_spec (c : CoreAt h bt bl bd bu fL fD fU nx) (lt : bt < h.next ∧ bl < h.next ∧ bd < h.next ∧ bu < h.next) {F : Nat → Prop} (d : Int) (s : ByteArray) {r : Option Bn} (hO : OutOf h F (fL (d, s)) r) : Meets kon 85 [ptrV bt, .int .i64 d, .string s] h (OutP r h) := by
  refine Meets.mk rfl (by kernel_rfl) Tryz.func85 rfl (congrArg Array.toList Tryz.results85) ?_
  repeat' (first | simp only [evr, nextP_norm, evd, evq, beq_self_eq_true, cond_true, cond_false, reduceIte, Nat.reduceEqDiff, Nat.reduceAdd, Int.reduceBNe, Int.reduceBEq, Int.reduceLT, Int.reduceLE, Int.reduceEq, evh, evp, Nat.reduceLeDiff, Nat.reduceSub, Nat.reduceBEq, typs] | refine kCond2_by (fun hc => ?_) (fun hc => ?_) <;> try simp only [hc] | refine kPick_by (fun hc => ?_) (fun hc => ?_) <;> try simp only [hc] | refine kWant_by (fun hc => ?_) (fun hc => ?_) <;> try simp only [hc])
  generalize hh : Hp.push h _ = H
  have hk : Keep h H := by rw [← hh]; exact Keep.push _ _
  have g0 : H.get h.next = some (.row [.int .i64 0, .int .i64 0, .int .i64 0, .string ByteArray.empty, .bool false, .slice none 0 0, .int .i64 0, .int .i64 0, .int .i64 0, .int .i64 0] 40 (.rw 0 [])) := by rw [← hh]; exact Hp.get_push_self _ _
  have hx : H.next = h.next + 1 := by rw [← hh]; rfl
  clear hh
  refine callP_meets (get_spec (c.keep hk lt) d s) ?_
  rintro u h1 ⟨rfl, rfl⟩
  repeat' (first | simp only [evr, nextP_norm, evd, evq, beq_self_eq_true, cond_true, cond_false, reduceIte, Nat.reduceEqDiff, Nat.reduceAdd, Int.reduceBNe, Int.reduceBEq, Int.reduceLT, Int.reduceLE, Int.reduceEq, evh, evp, Nat.reduceLeDiff, Nat.reduceSub, Nat.reduceBEq, typs] | refine kCond2_by (fun hc => ?_) (fun hc => ?_) <;> try simp only [hc] | refine kPick_by (fun hc => ?_) (fun hc => ?_) <;> try simp only [hc] | refine kWant_by (fun hc => ?_) (fun hc => ?_) <;> try simp only [hc])
  refine callP_meets (out_any (hO.keep hk)) ?_
  rintro v h3 ho
  obtain ⟨cs, b, rfl, rfl, hc, hcc⟩ := ho.cells
  have g1 := (ho.1.2 h.next (by omega)).trans g0
  have q1 := rowOf_rw g1
  have hsz : cs.size = 10 := by rw [← Array.length_toList]; exact hc
  repeat' (first | simp only [evr, nextP_norm, evd, evq, beq_self_eq_true, cond_true, cond_false, reduceIte, Nat.reduceEqDiff, Nat.reduceAdd, Int.reduceBNe, Int.reduceBEq, Int.reduceLT, Int.reduceLE, Int.reduceEq, evh, evp, Nat.reduceLeDiff, Nat.reduceSub, Nat.reduceBEq, typs, q1, g1, hc, hcc, hsz] | refine kCond2_by (fun hc => ?_) (fun hc => ?_) <;> try simp only [hc] | refine kPick_by (fun hc => ?_) (fun hc => ?_) <;> try simp only [hc] | refine kWant_by (fun hc => ?_) (fun hc => ?_) <;> try simp only [hc])
  rw [List.take_of_length_le (by omega), Array.toArray_toList]
  exact ho.set hk (Nat.le_refl _) g1
def segR (o : Option Nat) : Option Bn → Value
  | none => .tuple #[.pointer none, .int .i64 4]
  | some b => if b.kind = 1 then .tuple #[optP o, .int .i64 0] else .tuple #[.pointer none, .int .i64 15]
theorem segment_spec (c : CoreAt h bt bl bd bu fL fD fU nx) {F : Nat → Prop} (d : Int) (s : ByteArray) {r : Option Bn} (hO : OutOf h F (fL (d, s)) r) : Meets kon 68 [ptrV bt, .int .i64 d, .string s] h fun v h' => h' = h ∧ v = segR (fL (d, s)) r := by
  have hg := (get_spec c d s).call
  have hnn := (none_spec bt h).call
  cases hf : fL (d, s) with
  | none =>
    rw [hf] at hO hg
    cases r with
    | some b => exact hO.elim
    | none =>
      unfold ptrV optP at *
      refine Meets.mk rfl (by kernel_rfl) Tryz.func68 rfl (congrArg Array.toList Tryz.results68) ?_
      repeat' (first | simp only [evr, nextP_norm, evd, evq, beq_self_eq_true, cond_true, cond_false, reduceIte, Nat.reduceEqDiff, Nat.reduceAdd, Int.reduceBNe, Int.reduceBEq, Int.reduceLT, Int.reduceLE, Int.reduceEq, evh, evp, Nat.reduceLeDiff, Nat.reduceSub, Nat.reduceBEq, typs, hg, hnn] | refine kCond2_by (fun hc => ?_) (fun hc => ?_) <;> try simp only [hc] | refine kPick_by (fun hc => ?_) (fun hc => ?_) <;> try simp only [hc] | refine kWant_by (fun hc => ?_) (fun hc => ?_) <;> try simp only [hc])
      rfl
  | some n =>
    rw [hf] at hO hg
    cases r with
    | none => exact hO.elim
    | some b =>
      obtain ⟨x, ⟨sl, hlt, hn, hs⟩, rfl, hl⟩ := hO
      have r1 := rowOf_rw hn
      unfold ndC at r1
      unfold optP at *
      unfold ptrV at *
      refine Meets.mk rfl (by kernel_rfl) Tryz.func68 rfl (congrArg Array.toList Tryz.results68) ?_
      repeat' (first | simp only [evr, nextP_norm, evd, evq, beq_self_eq_true, cond_true, cond_false, reduceIte, Nat.reduceEqDiff, Nat.reduceAdd, Int.reduceBNe, Int.reduceBEq, Int.reduceLT, Int.reduceLE, Int.reduceEq, evh, evp, Nat.reduceLeDiff, Nat.reduceSub, Nat.reduceBEq, typs, hg, hnn, r1] | refine kCond2_by (fun hc => ?_) (fun hc => ?_) <;> try simp only [hc] | refine kPick_by (fun hc => ?_) (fun hc => ?_) <;> try simp only [hc] | refine kWant_by (fun hc => ?_) (fun hc => ?_) <;> try simp only [hc])
      all_goals (simp at hc; simp [segR, hc, optP, ptrV])
def chE (ok : Bool) : Option Bn → Int
  | none => 4
  | some b => if b.kind ≠ 1 then 15 else if ok = false then 1 else 0
def Chd (h : Hp) (o : Option Nat) (b b' : Bn) (h' : Hp) : Prop := ∃ n x sl sl', o = some n ∧ h.get n = some (.row (ndC x sl) 110 (.rw 0 [])) ∧ n < h.next ∧ x.b = b ∧
  h'.get n = some (.row (ndC ⟨b', x.home, x.many⟩ sl') 110 (.rw 0 [])) ∧ (sl' = sl ∧ b'.acl = b.acl ∨ TmTy h' (fun k => h.next ≤ k) sl' b'.acl) ∧ h.next ≤ h'.next ∧ ∀ k, k < h.next → k ≠ n → h'.get k = h.get k
theorem access_spec (c : CoreAt h bt bl bd bu fL fD fU nx) {F : Nat → Prop} (d : Int) (s : ByteArray) {r : Option Bn} (hO : OutOf h F (fL (d, s)) r) {v : Value} {l : List Tm} (hv : TmSl h v l) (hl : l.length ≤ 1000000000) :
    Meets kon 32 [ptrV bt, .int .i64 d, .string s, v] h fun u h' => u = .int .i64 (chE (listMay l) r) ∧ (chE (listMay l) r ≠ 0 → Keep h h') ∧ (chE (listMay l) r = 0 → ∀ b, r = some b → Chd h (fL (d, s)) b { b with acl := l } h') := by
  have hg := (segment_spec c d s hO)
  have hg' : ∀ Q, callP kon 68 h Q [ptrV bt, .int .i64 d, .string s] = Q (segR (fL (d, s)) r) h := fun Q => by
    obtain ⟨v, h', h1, rfl, rfl⟩ := hg
    exact callP_of h1
  cases r with
  | none =>
    unfold segR ptrV at hg'
    unfold ptrV
    refine Meets.mk rfl (by kernel_rfl) Tryz.func32 rfl (congrArg Array.toList Tryz.results32) ?_
    repeat' (first | simp only [evr, nextP_norm, evd, evq, beq_self_eq_true, cond_true, cond_false, reduceIte, Nat.reduceEqDiff, Nat.reduceAdd, Int.reduceBNe, Int.reduceBEq, Int.reduceLT, Int.reduceLE, Int.reduceEq, evh, evp, Nat.reduceLeDiff, Nat.reduceSub, Nat.reduceBEq, typs, hg'] | refine kCond2_by (fun hc => ?_) (fun hc => ?_) <;> try simp only [hc] | refine kPick_by (fun hc => ?_) (fun hc => ?_) <;> try simp only [hc] | refine kWant_by (fun hc => ?_) (fun hc => ?_) <;> try simp only [hc])
    exact ⟨rfl, fun _ => Keep.refl _, fun h => by simp [chE] at h⟩
  | some b =>
    cases hf : fL (d, s) with
    | none => rw [hf] at hO; exact hO.elim
    | some n =>
      rw [hf] at hO hg'
      obtain ⟨x, ⟨sl, hlt, hn, hs⟩, rfl, hl2⟩ := hO
      by_cases hk : x.b.kind = 1
      · simp only [segR, if_pos hk, optP] at hg'
        unfold ptrV at hg'
        unfold ptrV
        refine Meets.mk rfl (by kernel_rfl) Tryz.func32 rfl (congrArg Array.toList Tryz.results32) ?_
        repeat' (first | simp only [evr, nextP_norm, evd, evq, beq_self_eq_true, cond_true, cond_false, reduceIte, Nat.reduceEqDiff, Nat.reduceAdd, Int.reduceBNe, Int.reduceBEq, Int.reduceLT, Int.reduceLE, Int.reduceEq, evh, evp, Nat.reduceLeDiff, Nat.reduceSub, Nat.reduceBEq, typs, hg'] | refine kCond2_by (fun hc => ?_) (fun hc => ?_) <;> try simp only [hc] | refine kPick_by (fun hc => ?_) (fun hc => ?_) <;> try simp only [hc] | refine kWant_by (fun hc => ?_) (fun hc => ?_) <;> try simp only [hc])
        refine callP_meets (aMay_spec hv hl) ?_
        rintro u h1 ⟨rfl, k1⟩
        cases hm : listMay l with
        | false =>
          repeat' (first | simp only [evr, nextP_norm, evd, evq, beq_self_eq_true, cond_true, cond_false, reduceIte, Nat.reduceEqDiff, Nat.reduceAdd, Int.reduceBNe, Int.reduceBEq, Int.reduceLT, Int.reduceLE, Int.reduceEq, evh, evp, Nat.reduceLeDiff, Nat.reduceSub, Nat.reduceBEq, typs] | refine kCond2_by (fun hc => ?_) (fun hc => ?_) <;> try simp only [hc] | refine kPick_by (fun hc => ?_) (fun hc => ?_) <;> try simp only [hc] | refine kWant_by (fun hc => ?_) (fun hc => ?_) <;> try simp only [hc])
          exact ⟨by simp [chE, hk], fun _ => k1, fun h => by simp [chE, hk] at h⟩
        | true =>
          repeat' (first | simp only [evr, nextP_norm, evd, evq, beq_self_eq_true, cond_true, cond_false, reduceIte, Nat.reduceEqDiff, Nat.reduceAdd, Int.reduceBNe, Int.reduceBEq, Int.reduceLT, Int.reduceLE, Int.reduceEq, evh, evp, Nat.reduceLeDiff, Nat.reduceSub, Nat.reduceBEq, typs] | refine kCond2_by (fun hc => ?_) (fun hc => ?_) <;> try simp only [hc] | refine kPick_by (fun hc => ?_) (fun hc => ?_) <;> try simp only [hc] | refine kWant_by (fun hc => ?_) (fun hc => ?_) <;> try simp only [hc])
          refine callP_meets (clone_spec (hv.keep k1) hl) ?_
          rintro sl' h2 ⟨k2, hs2⟩
          have g2 := (k2.2 n (Nat.lt_of_lt_of_le hlt k1.1)).trans ((k1.2 n hlt).trans hn)
          have g2' := g2
          unfold ndC at g2'
          have hsc := hs2.isCell
          have hcv := hs2.cellsV
          repeat' (first | simp only [evr, nextP_norm, evd, evq, beq_self_eq_true, cond_true, cond_false, reduceIte, Nat.reduceEqDiff, Nat.reduceAdd, Int.reduceBNe, Int.reduceBEq, Int.reduceLT, Int.reduceLE, Int.reduceEq, evh, evp, Nat.reduceLeDiff, Nat.reduceSub, Nat.reduceBEq, typs, g2', hsc, hcv] | refine kCond2_by (fun hc => ?_) (fun hc => ?_) <;> try simp only [hc] | refine kPick_by (fun hc => ?_) (fun hc => ?_) <;> try simp only [hc] | refine kWant_by (fun hc => ?_) (fun hc => ?_) <;> try simp only [hc])
          refine ⟨by simp [chE, hk], fun h => absurd (by simp [chE, hk]) h, fun _ b hb => ?_⟩
          cases hb
          refine ⟨n, x, sl, sl', rfl, hn, hlt, rfl, Hp.get_set_self _ _ _, .inr ?_, Nat.le_trans k1.1 k2.1, fun k hk1 hk2 => ?_⟩
          · refine hs2.same (Same.set ?_) (fun k hk => Nat.le_trans k1.1 hk)
            rw [g2]; exact (by decide : 110 ≠ 65)
          · rw [Hp.get_set_ne hk2, k2.2 k (Nat.lt_of_lt_of_le hk1 k1.1), k1.2 k hk1]
      · simp only [segR, if_neg hk] at hg'
        unfold ptrV at hg'
        unfold ptrV
        refine Meets.mk rfl (by kernel_rfl) Tryz.func32 rfl (congrArg Array.toList Tryz.results32) ?_
        repeat' (first | simp only [evr, nextP_norm, evd, evq, beq_self_eq_true, cond_true, cond_false, reduceIte, Nat.reduceEqDiff, Nat.reduceAdd, Int.reduceBNe, Int.reduceBEq, Int.reduceLT, Int.reduceLE, Int.reduceEq, evh, evp, Nat.reduceLeDiff, Nat.reduceSub, Nat.reduceBEq, typs, hg'] | refine kCond2_by (fun hc => ?_) (fun hc => ?_) <;> try simp only [hc] | refine kPick_by (fun hc => ?_) (fun hc => ?_) <;> try simp only [hc] | refine kWant_by (fun hc => ?_) (fun hc => ?_) <;> try simp only [hc])
        exact ⟨by simp [chE, hk], fun _ => Keep.refl _, fun h => by simp [chE, hk] at h⟩
theorem ringed_spec (c : CoreAt h bt bl bd bu fL fD fU nx) (lt : bt < h.next ∧ bl < h.next ∧ bd < h.next ∧ bu < h.next) {F : Nat → Prop} (d : Int) (s : ByteArray) {r : Option Bn} (hO : OutOf h F (fL (d, s)) r) (b : Bk) :
    Meets kon 33 [ptrV bt, .int .i64 d, .string s, bkV b] h fun u h' => u = .int .i64 (chE (bkMay b) r) ∧ (chE (bkMay b) r ≠ 0 → Keep h h') ∧ (chE (bkMay b) r = 0 → ∀ b0, r = some b0 → Chd h (fL (d, s)) b0 { b0 with b := b } h') := by
  unfold bkV
  refine Meets.mk rfl (by kernel_rfl) Tryz.func33 rfl (congrArg Array.toList Tryz.results33) ?_
  repeat' (first | simp only [evr, nextP_norm, evd, evq, beq_self_eq_true, cond_true, cond_false, reduceIte, Nat.reduceEqDiff, Nat.reduceAdd, Int.reduceBNe, Int.reduceBEq, Int.reduceLT, Int.reduceLE, Int.reduceEq, evh, evp, Nat.reduceLeDiff, Nat.reduceSub, Nat.reduceBEq, typs] | refine kCond2_by (fun hc => ?_) (fun hc => ?_) <;> try simp only [hc] | refine kPick_by (fun hc => ?_) (fun hc => ?_) <;> try simp only [hc] | refine kWant_by (fun hc => ?_) (fun hc => ?_) <;> try simp only [hc])
  generalize hh : Hp.push h _ = H
  have hk : Keep h H := by rw [← hh]; exact Keep.push _ _
  have g0 : H.get h.next = some (.row [.int .i64 b.r1, .int .i64 b.r2, .int .i64 b.r3, .int .i64 b.g] 32 (.rw 0 [])) := by rw [← hh]; exact Hp.get_push_self _ _
  have hx : H.next = h.next + 1 := by rw [← hh]; rfl
  have q0 := rowOf_rw g0
  clear hh
  obtain ⟨v, h', hg, e1, e2⟩ := segment_spec (c.keep hk lt) d s (hO.keep hk)
  rw [e1, e2] at hg
  have hg' : ∀ Q, callP kon 68 H Q [ptrV bt, .int .i64 d, .string s] = Q (segR (fL (d, s)) r) H := fun Q => callP_of hg
  have hm := ringMay_spec b H
  unfold bkV at hm
  cases r with
  | none =>
    unfold segR ptrV at hg'
    unfold ptrV
    repeat' (first | simp only [evr, nextP_norm, evd, evq, beq_self_eq_true, cond_true, cond_false, reduceIte, Nat.reduceEqDiff, Nat.reduceAdd, Int.reduceBNe, Int.reduceBEq, Int.reduceLT, Int.reduceLE, Int.reduceEq, evh, evp, Nat.reduceLeDiff, Nat.reduceSub, Nat.reduceBEq, typs, hg', q0] | refine kCond2_by (fun hc => ?_) (fun hc => ?_) <;> try simp only [hc] | refine kPick_by (fun hc => ?_) (fun hc => ?_) <;> try simp only [hc] | refine kWant_by (fun hc => ?_) (fun hc => ?_) <;> try simp only [hc])
    exact ⟨rfl, fun _ => hk, fun h => by simp [chE] at h⟩
  | some b0 =>
    cases hf : fL (d, s) with
    | none => rw [hf] at hO; exact hO.elim
    | some n =>
      rw [hf] at hO hg'
      obtain ⟨x, ⟨sl, hlt, hn, hs⟩, rfl, hl2⟩ := hO
      by_cases hk1 : x.b.kind = 1
      · simp only [segR, if_pos hk1, optP] at hg'
        unfold ptrV at hg'
        unfold ptrV
        repeat' (first | simp only [evr, nextP_norm, evd, evq, beq_self_eq_true, cond_true, cond_false, reduceIte, Nat.reduceEqDiff, Nat.reduceAdd, Int.reduceBNe, Int.reduceBEq, Int.reduceLT, Int.reduceLE, Int.reduceEq, evh, evp, Nat.reduceLeDiff, Nat.reduceSub, Nat.reduceBEq, typs, hg', q0] | refine kCond2_by (fun hc => ?_) (fun hc => ?_) <;> try simp only [hc] | refine kPick_by (fun hc => ?_) (fun hc => ?_) <;> try simp only [hc] | refine kWant_by (fun hc => ?_) (fun hc => ?_) <;> try simp only [hc])
        refine callP_meets hm ?_
        rintro u h1 ⟨rfl, k1⟩
        have g1 := (k1.2 h.next (by omega)).trans g0
        have q1 := rowOf_rw g1
        cases hb : bkMay b with
        | false =>
          repeat' (first | simp only [evr, nextP_norm, evd, evq, beq_self_eq_true, cond_true, cond_false, reduceIte, Nat.reduceEqDiff, Nat.reduceAdd, Int.reduceBNe, Int.reduceBEq, Int.reduceLT, Int.reduceLE, Int.reduceEq, evh, evp, Nat.reduceLeDiff, Nat.reduceSub, Nat.reduceBEq, typs] | refine kCond2_by (fun hc => ?_) (fun hc => ?_) <;> try simp only [hc] | refine kPick_by (fun hc => ?_) (fun hc => ?_) <;> try simp only [hc] | refine kWant_by (fun hc => ?_) (fun hc => ?_) <;> try simp only [hc])
          exact ⟨by simp [chE, hk1], fun _ => hk.trans k1, fun h => by simp [chE, hk1] at h⟩
        | true =>
          have hne : n < H.next := Nat.lt_of_lt_of_le hlt hk.1
          have g2 := (k1.2 n hne).trans ((hk.2 n hlt).trans hn)
          have g2' := g2
          unfold ndC at g2'
          repeat' (first | simp only [evr, nextP_norm, evd, evq, beq_self_eq_true, cond_true, cond_false, reduceIte, Nat.reduceEqDiff, Nat.reduceAdd, Int.reduceBNe, Int.reduceBEq, Int.reduceLT, Int.reduceLE, Int.reduceEq, evh, evp, Nat.reduceLeDiff, Nat.reduceSub, Nat.reduceBEq, typs, q1, g2'] | refine kCond2_by (fun hc => ?_) (fun hc => ?_) <;> try simp only [hc] | refine kPick_by (fun hc => ?_) (fun hc => ?_) <;> try simp only [hc] | refine kWant_by (fun hc => ?_) (fun hc => ?_) <;> try simp only [hc])
          refine ⟨by simp [chE, hk1], fun h => absurd (by simp [chE, hk1]) h, fun _ b0 hb0 => ?_⟩
          cases hb0
          refine ⟨n, x, sl, sl, rfl, hn, hlt, rfl, Hp.get_set_self _ _ _, .inl ⟨rfl, rfl⟩, Nat.le_trans hk.1 k1.1, fun k hk1 hk2 => ?_⟩
          rw [Hp.get_set_ne hk2, k1.2 k (Nat.lt_of_lt_of_le hk1 hk.1), hk.2 k hk1]
      · simp only [segR, if_neg hk1] at hg'
        unfold ptrV at hg'
        unfold ptrV
        repeat' (first | simp only [evr, nextP_norm, evd, evq, beq_self_eq_true, cond_true, cond_false, reduceIte, Nat.reduceEqDiff, Nat.reduceAdd, Int.reduceBNe, Int.reduceBEq, Int.reduceLT, Int.reduceLE, Int.reduceEq, evh, evp, Nat.reduceLeDiff, Nat.reduceSub, Nat.reduceBEq, typs, hg', q0] | refine kCond2_by (fun hc => ?_) (fun hc => ?_) <;> try simp only [hc] | refine kPick_by (fun hc => ?_) (fun hc => ?_) <;> try simp only [hc] | refine kWant_by (fun hc => ?_) (fun hc => ?_) <;> try simp only [hc])
        exact ⟨by simp [chE, hk1], fun _ => hk, fun h => by simp [chE, hk1] at h⟩
end
end Go.Proofs.YtncmgiddcefpcaaGreatDoor
namespace Go.Proofs.YtncmgiddcefpcaaGreatDoor
open Go Go.Ev Go.Con
set_option linter.unusedSimpArgs false
set_option linter.unusedVariables false
set_option maxRecDepth 100000
theorem TmSl.cell {h : Hp} {v : Value} {l : List Tm} (s : TmSl h v l) : isCell v = true ∧ v.cells = #[v] := by rcases s with ⟨rfl, _⟩ | ⟨b, o, k, c, all, rfl, _⟩ <;> exact ⟨rfl, rfl⟩
theorem Bn.eq_iff (x y : Bn) : x = y ↔ x.kind = y.kind ∧ x.uid = y.uid ∧ x.dir = y.dir ∧ x.link = y.link ∧ x.object = y.object ∧ x.b = y.b ∧ x.acl = y.acl := by
  obtain ⟨a, b, c, d, e, f, g⟩ := x
  obtain ⟨a', b', c', d', e', f', g'⟩ := y
  simp only [Bn.mk.injEq]
  constructor
  · rintro ⟨rfl, rfl, rfl, rfl, rfl, rfl, rfl⟩; exact ⟨rfl, rfl, rfl, rfl, rfl, rfl, rfl⟩
  · rintro ⟨rfl, rfl, rfl, rfl, rfl, rfl, rfl⟩; exact ⟨rfl, rfl, rfl, rfl, rfl, rfl, rfl⟩
set_option maxHeartbeats 4000000 in
theorem sameBranch_spec {h : Hp} {x y : Bn} {sx sy : Value} (hx : TmSl h sx x.acl) (hy : TmSl h sy y.acl) (lx : x.acl.length ≤ 1000000000) (ly : y.acl.length ≤ 1000000000) :
    Meets kon 18 [.agg (bnC x sx).toArray, .agg (bnC y sy).toArray] h fun v h' => v = .bool (decide (x = y)) ∧ Keep h h' := by
  obtain ⟨c1, c2⟩ := TmSl.cell hx
  obtain ⟨d1, d2⟩ := TmSl.cell hy
  unfold bnC
  refine Meets.mk rfl (by kernel_rfl) Tryz.func18 rfl (congrArg Array.toList Tryz.results18) ?_
  simp only [evr, evd, evq, beq_self_eq_true, cond_true, cond_false, reduceIte, Nat.reduceEqDiff, Nat.reduceAdd, Int.reduceBNe, Int.reduceBEq, Int.reduceLT, Int.reduceLE, Int.reduceEq, evh, evp, Nat.reduceLeDiff, Nat.reduceSub, Nat.reduceBEq, typs, c1, c2, d1, d2]
  rw [nextP_norm]
  generalize hh : Hp.push _ _ = H
  have kH : Keep h H := by rw [← hh]; exact (Keep.push _ _).pushed
  have qx : rowOf H h.next = some (bnC x sx) := by rw [← hh]; exact rowOf_rw (by rw [Hp.get_push_lt (Nat.lt_succ_self _)]; exact Hp.get_push_self _ _)
  have qy : rowOf H (h.next + 1) = some (bnC y sy) := by rw [← hh]; exact rowOf_rw (Hp.get_push_self (h.push _) _)
  clear hh
  have sX := SlAt.keep hx kH
  have sY := SlAt.keep hy kH
  have vx := TmSl.len sX
  have vy := TmSl.len sY
  unfold bnC at qx qy
  refine Wp_cut (fun fr => fr.get 2 = some (.pointer (some ⟨h.next, 0, none⟩)) ∧ fr.get 3 = some (.pointer (some ⟨h.next + 1, 0, none⟩)) ∧ fr.get 4 = some (.bool false)) ?_ ?_
  · simp only [evr, nextP_norm, evd, evq, beq_self_eq_true, cond_true, cond_false, reduceIte, Nat.reduceEqDiff, Nat.reduceAdd, Int.reduceBNe, Int.reduceBEq, Int.reduceLT, Int.reduceLE, Int.reduceEq, typs]
  rintro fr ⟨g2, g3, g4⟩
  have bk := fun xo yo => (evBk x.b y.b xo yo).2
  have bo : ∀ (xo yo : Operand) (a b : Bool), evBin kon.P .neq 4 xo yo (.bool a) (.bool b) = some (.bool (a != b)) := fun xo yo a b => by cases a <;> cases b <;> kernel_rfl
  have no : x ≠ y → Value.bool false = .bool (decide (x = y)) ∧ Keep h H := fun hn => ⟨by rw [decide_eq_false hn], kH⟩
  by_cases e1 : ¬ x.kind = y.kind
  · have f1 : (x.kind != y.kind) = true := by simp [e1]
    repeat' (first | simp only [evr, nextP_norm, evd, evq, beq_self_eq_true, cond_true, cond_false, reduceIte, Nat.reduceEqDiff, Nat.reduceAdd, Int.reduceBNe, Int.reduceBEq, Int.reduceLT, Int.reduceLE, Int.reduceEq, evh, evp, Nat.reduceLeDiff, Nat.reduceSub, Nat.reduceBEq, typs, g2, g3, g4, qx, qy, f1] | refine kCond2_by (fun hc => ?_) (fun hc => ?_) <;> try simp only [hc] | refine kPick_by (fun hc => ?_) (fun hc => ?_) <;> try simp only [hc] | refine kWant_by (fun hc => ?_) (fun hc => ?_) <;> try simp only [hc])
    exact no fun e => e1 (by rw [e])
  have f1 : (x.kind != y.kind) = false := by simpa using e1
  by_cases e2 : ¬ x.uid = y.uid
  · have f2 : (x.uid != y.uid) = true := by simp [e2]
    repeat' (first | simp only [evr, nextP_norm, evd, evq, beq_self_eq_true, cond_true, cond_false, reduceIte, Nat.reduceEqDiff, Nat.reduceAdd, Int.reduceBNe, Int.reduceBEq, Int.reduceLT, Int.reduceLE, Int.reduceEq, evh, evp, Nat.reduceLeDiff, Nat.reduceSub, Nat.reduceBEq, typs, g2, g3, g4, qx, qy, f1, f2] | refine kCond2_by (fun hc => ?_) (fun hc => ?_) <;> try simp only [hc] | refine kPick_by (fun hc => ?_) (fun hc => ?_) <;> try simp only [hc] | refine kWant_by (fun hc => ?_) (fun hc => ?_) <;> try simp only [hc])
    exact no fun e => e2 (by rw [e])
  have f2 : (x.uid != y.uid) = false := by simpa using e2
  by_cases e3 : ¬ x.dir = y.dir
  · have f3 : (x.dir != y.dir) = true := by simp [e3]
    repeat' (first | simp only [evr, nextP_norm, evd, evq, beq_self_eq_true, cond_true, cond_false, reduceIte, Nat.reduceEqDiff, Nat.reduceAdd, Int.reduceBNe, Int.reduceBEq, Int.reduceLT, Int.reduceLE, Int.reduceEq, evh, evp, Nat.reduceLeDiff, Nat.reduceSub, Nat.reduceBEq, typs, g2, g3, g4, qx, qy, f1, f2, f3] | refine kCond2_by (fun hc => ?_) (fun hc => ?_) <;> try simp only [hc] | refine kPick_by (fun hc => ?_) (fun hc => ?_) <;> try simp only [hc] | refine kWant_by (fun hc => ?_) (fun hc => ?_) <;> try simp only [hc])
    exact no fun e => e3 (by rw [e])
  have f3 : (x.dir != y.dir) = false := by simpa using e3
  by_cases e4 : ¬ x.link = y.link
  · have f4 : (!decide (x.link = y.link)) = true := by simp [e4]
    repeat' (first | simp only [evr, nextP_norm, evd, evq, beq_self_eq_true, cond_true, cond_false, reduceIte, Nat.reduceEqDiff, Nat.reduceAdd, Int.reduceBNe, Int.reduceBEq, Int.reduceLT, Int.reduceLE, Int.reduceEq, evh, evp, Nat.reduceLeDiff, Nat.reduceSub, Nat.reduceBEq, typs, g2, g3, g4, qx, qy, f1, f2, f3, f4] | refine kCond2_by (fun hc => ?_) (fun hc => ?_) <;> try simp only [hc] | refine kPick_by (fun hc => ?_) (fun hc => ?_) <;> try simp only [hc] | refine kWant_by (fun hc => ?_) (fun hc => ?_) <;> try simp only [hc])
    exact no fun e => e4 (by rw [e])
  have f4 : (!decide (x.link = y.link)) = false := by simpa using e4
  by_cases e5 : ¬ x.object = y.object
  · have f5 : (x.object != y.object) = true := by simp [e5]
    repeat' (first | simp only [evr, nextP_norm, evd, evq, beq_self_eq_true, cond_true, cond_false, reduceIte, Nat.reduceEqDiff, Nat.reduceAdd, Int.reduceBNe, Int.reduceBEq, Int.reduceLT, Int.reduceLE, Int.reduceEq, evh, evp, Nat.reduceLeDiff, Nat.reduceSub, Nat.reduceBEq, typs, g2, g3, g4, qx, qy, f1, f2, f3, f4, bo, f5] | refine kCond2_by (fun hc => ?_) (fun hc => ?_) <;> try simp only [hc] | refine kPick_by (fun hc => ?_) (fun hc => ?_) <;> try simp only [hc] | refine kWant_by (fun hc => ?_) (fun hc => ?_) <;> try simp only [hc])
    exact no fun e => e5 (by rw [e])
  have f5 : (x.object != y.object) = false := by simpa using e5
  by_cases e6 : ¬ x.b = y.b
  · have f6 : (!decide (x.b = y.b)) = true := by simp [e6]
    repeat' (first | simp only [evr, nextP_norm, evd, evq, beq_self_eq_true, cond_true, cond_false, reduceIte, Nat.reduceEqDiff, Nat.reduceAdd, Int.reduceBNe, Int.reduceBEq, Int.reduceLT, Int.reduceLE, Int.reduceEq, evh, evp, Nat.reduceLeDiff, Nat.reduceSub, Nat.reduceBEq, typs, g2, g3, g4, qx, qy, f1, f2, f3, f4, bo, f5, bk, f6] | refine kCond2_by (fun hc => ?_) (fun hc => ?_) <;> try simp only [hc] | refine kPick_by (fun hc => ?_) (fun hc => ?_) <;> try simp only [hc] | refine kWant_by (fun hc => ?_) (fun hc => ?_) <;> try simp only [hc])
    exact no fun e => e6 (by rw [e])
  have f6 : (!decide (x.b = y.b)) = false := by simpa using e6
  by_cases e7 : ¬ x.acl.length = y.acl.length
  · have f7 : ((x.acl.length : Int) != (y.acl.length : Int)) = true := by simp; omega
    repeat' (first | simp only [evr, nextP_norm, evd, evq, beq_self_eq_true, cond_true, cond_false, reduceIte, Nat.reduceEqDiff, Nat.reduceAdd, Int.reduceBNe, Int.reduceBEq, Int.reduceLT, Int.reduceLE, Int.reduceEq, evh, evp, Nat.reduceLeDiff, Nat.reduceSub, Nat.reduceBEq, typs, g2, g3, g4, qx, qy, f1, f2, f3, f4, bo, f5, bk, f6, vx, vy, f7] | refine kCond2_by (fun hc => ?_) (fun hc => ?_) <;> try simp only [hc] | refine kPick_by (fun hc => ?_) (fun hc => ?_) <;> try simp only [hc] | refine kWant_by (fun hc => ?_) (fun hc => ?_) <;> try simp only [hc])
    exact no fun e => e7 (by rw [e])
  have f7 : ((x.acl.length : Int) != (y.acl.length : Int)) = false := by simp at e7 ⊢; omega
  simp only [Decidable.not_not] at e1 e2 e3 e4 e5 e6 e7
  simp only [evr, evd, evq, beq_self_eq_true, cond_true, cond_false, reduceIte, Nat.reduceEqDiff, Nat.reduceAdd, Int.reduceBNe, Int.reduceBEq, Int.reduceLT, Int.reduceLE, Int.reduceEq, evh, evp, Nat.reduceLeDiff, Nat.reduceSub, Nat.reduceBEq, typs, g2, g3, g4, qx, qy, f1, f2, f3, f4, bo, f5, bk, f6, vx, vy, f7]
  rw [nextP_norm]
  refine Wp_cut (fun fr => fr.get 2 = some (.pointer (some ⟨h.next, 0, none⟩)) ∧ fr.get 3 = some (.pointer (some ⟨h.next + 1, 0, none⟩)) ∧ fr.get 4 = some (.bool false) ∧ fr.get 54 = some (.bool false)) ?_ ?_
  · simp only [evr, nextP_norm, evd, evq, beq_self_eq_true, cond_true, cond_false, reduceIte, Nat.reduceEqDiff, Nat.reduceAdd, Int.reduceBNe, Int.reduceBEq, Int.reduceLT, Int.reduceLE, Int.reduceEq, typs, g2, g3, g4]
  rintro fr ⟨g2, g3, g4, g54⟩
  repeat' (first | simp only [evr, nextP_norm, evd, evq, beq_self_eq_true, cond_true, cond_false, reduceIte, Nat.reduceEqDiff, Nat.reduceAdd, Int.reduceBNe, Int.reduceBEq, Int.reduceLT, Int.reduceLE, Int.reduceEq, evh, evp, Nat.reduceLeDiff, Nat.reduceSub, Nat.reduceBEq, typs, g54] | refine kCond2_by (fun hc => ?_) (fun hc => ?_) <;> try simp only [hc] | refine kPick_by (fun hc => ?_) (fun hc => ?_) <;> try simp only [hc] | refine kWant_by (fun hc => ?_) (fun hc => ?_) <;> try simp only [hc])
  refine Wp_loop (fun k fr h' => h' = H ∧ ∃ i : Nat, k = x.acl.length - i ∧ i ≤ x.acl.length ∧ fr.get 2 = some (.pointer (some ⟨h.next, 0, none⟩)) ∧ fr.get 3 = some (.pointer (some ⟨h.next + 1, 0, none⟩)) ∧ fr.get 4 = some (.bool false) ∧ fr.get 5 = some (.int .i64 i) ∧ x.acl.take i = y.acl.take i) x.acl.length ⟨rfl, 0, rfl, Nat.zero_le _, ?_, ?_, ?_, ?_, rfl⟩ ?_
  · repeat' (first | simp only [evr, nextP_norm, evd, evq, beq_self_eq_true, cond_true, cond_false, reduceIte, Nat.reduceEqDiff, Nat.reduceAdd, Int.reduceBNe, Int.reduceBEq, Int.reduceLT, Int.reduceLE, Int.reduceEq, evh, evp, Nat.reduceLeDiff, Nat.reduceSub, Nat.reduceBEq, typs, g2, g3, g4] | refine kCond2_by (fun hc => ?_) (fun hc => ?_) <;> try simp only [hc] | refine kPick_by (fun hc => ?_) (fun hc => ?_) <;> try simp only [hc] | refine kWant_by (fun hc => ?_) (fun hc => ?_) <;> try simp only [hc])
  · repeat' (first | simp only [evr, nextP_norm, evd, evq, beq_self_eq_true, cond_true, cond_false, reduceIte, Nat.reduceEqDiff, Nat.reduceAdd, Int.reduceBNe, Int.reduceBEq, Int.reduceLT, Int.reduceLE, Int.reduceEq, evh, evp, Nat.reduceLeDiff, Nat.reduceSub, Nat.reduceBEq, typs, g2, g3, g4] | refine kCond2_by (fun hc => ?_) (fun hc => ?_) <;> try simp only [hc] | refine kPick_by (fun hc => ?_) (fun hc => ?_) <;> try simp only [hc] | refine kWant_by (fun hc => ?_) (fun hc => ?_) <;> try simp only [hc])
  · repeat' (first | simp only [evr, nextP_norm, evd, evq, beq_self_eq_true, cond_true, cond_false, reduceIte, Nat.reduceEqDiff, Nat.reduceAdd, Int.reduceBNe, Int.reduceBEq, Int.reduceLT, Int.reduceLE, Int.reduceEq, evh, evp, Nat.reduceLeDiff, Nat.reduceSub, Nat.reduceBEq, typs, g2, g3, g4] | refine kCond2_by (fun hc => ?_) (fun hc => ?_) <;> try simp only [hc] | refine kPick_by (fun hc => ?_) (fun hc => ?_) <;> try simp only [hc] | refine kWant_by (fun hc => ?_) (fun hc => ?_) <;> try simp only [hc])
  · repeat' (first | simp only [evr, nextP_norm, evd, evq, beq_self_eq_true, cond_true, cond_false, reduceIte, Nat.reduceEqDiff, Nat.reduceAdd, Int.reduceBNe, Int.reduceBEq, Int.reduceLT, Int.reduceLE, Int.reduceEq, evh, evp, Nat.reduceLeDiff, Nat.reduceSub, Nat.reduceBEq, typs, g2, g3, g4] | refine kCond2_by (fun hc => ?_) (fun hc => ?_) <;> try simp only [hc] | refine kPick_by (fun hc => ?_) (fun hc => ?_) <;> try simp only [hc] | refine kWant_by (fun hc => ?_) (fun hc => ?_) <;> try simp only [hc])
    rfl
  rintro k fr _ ⟨rfl, i, rfl, hi, r2, r3, r4, r5, hp⟩
  by_cases h3 : i < x.acl.length
  · have f8 : decide ((i : Int) < (x.acl.length : Int)) = true := decide_eq_true (by omega)
    obtain ⟨p, pa, pl⟩ := TmSl.load sX (List.getElem?_eq_getElem h3)
    obtain ⟨p', pa', pl'⟩ := TmSl.load sY (List.getElem?_eq_getElem (show i < y.acl.length by omega))
    have tm := fun xo yo => (evTm x.acl[i] (y.acl[i]'(by omega)) xo yo).2
    have wi : IntKind.i64.wrap ((i : Int) + 1) = ((i + 1 : Nat) : Int) := by rw [wrap64 (by omega) (by omega)]; omega
    have tx : x.acl.take (i + 1) = x.acl.take i ++ [x.acl[i]] := by rw [List.take_add_one, List.getElem?_eq_getElem h3]; rfl
    have ty : y.acl.take (i + 1) = y.acl.take i ++ [y.acl[i]'(by omega)] := by rw [List.take_add_one, List.getElem?_eq_getElem (show i < y.acl.length by omega)]; rfl
    repeat' (first | simp only [evr, nextP_norm, evd, evq, beq_self_eq_true, cond_true, cond_false, reduceIte, Nat.reduceEqDiff, Nat.reduceAdd, Int.reduceBNe, Int.reduceBEq, Int.reduceLT, Int.reduceLE, Int.reduceEq, evh, evp, Nat.reduceLeDiff, Nat.reduceSub, Nat.reduceBEq, typs, r2, r3, r4, r5, qx, vx, f8] | refine kCond2_by (fun hc => ?_) (fun hc => ?_) <;> try simp only [hc] | refine kPick_by (fun hc => ?_) (fun hc => ?_) <;> try simp only [hc] | refine kWant_by (fun hc => ?_) (fun hc => ?_) <;> try simp only [hc])
    refine Wp_drawE [0, 1, 0, 0, 1, 0, 1, 0, 0, 1, 0] (KR.mk (by kernel_rfl)) ?_
    by_cases h4 : x.acl[i] = y.acl[i]'(by omega)
    · have f9 : (!decide (x.acl[i] = y.acl[i]'(by omega))) = false := by simp [h4]
      repeat' (first | simp only [evr, nextP_norm, evd, evq, beq_self_eq_true, cond_true, cond_false, reduceIte, Nat.reduceEqDiff, Nat.reduceAdd, Int.reduceBNe, Int.reduceBEq, Int.reduceLT, Int.reduceLE, Int.reduceEq, evh, evp, Nat.reduceLeDiff, Nat.reduceSub, Nat.reduceBEq, typs, r2, r3, r4, r5, qx, qy, pa, pl, pa', pl', tm, f9, wi] | refine kCond2_by (fun hc => ?_) (fun hc => ?_) <;> try simp only [hc] | refine kPick_by (fun hc => ?_) (fun hc => ?_) <;> try simp only [hc] | refine kWant_by (fun hc => ?_) (fun hc => ?_) <;> try simp only [hc])
      exact ⟨x.acl.length - (i + 1), by omega, i + 1, rfl, by omega, by rw [tx, ty, hp, h4]; exact ⟨rfl, rfl⟩⟩
    · have f9 : (!decide (x.acl[i] = y.acl[i]'(by omega))) = true := by simp [h4]
      repeat' (first | simp only [evr, nextP_norm, evd, evq, beq_self_eq_true, cond_true, cond_false, reduceIte, Nat.reduceEqDiff, Nat.reduceAdd, Int.reduceBNe, Int.reduceBEq, Int.reduceLT, Int.reduceLE, Int.reduceEq, evh, evp, Nat.reduceLeDiff, Nat.reduceSub, Nat.reduceBEq, typs, r2, r3, r4, r5, qx, qy, pa, pl, pa', pl', tm, f9, wi] | refine kCond2_by (fun hc => ?_) (fun hc => ?_) <;> try simp only [hc] | refine kPick_by (fun hc => ?_) (fun hc => ?_) <;> try simp only [hc] | refine kWant_by (fun hc => ?_) (fun hc => ?_) <;> try simp only [hc])
      exact no fun e => h4 (by subst e; rfl)
  · have f8 : decide ((i : Int) < (x.acl.length : Int)) = false := decide_eq_false (by omega)
    repeat' (first | simp only [evr, nextP_norm, evd, evq, beq_self_eq_true, cond_true, cond_false, reduceIte, Nat.reduceEqDiff, Nat.reduceAdd, Int.reduceBNe, Int.reduceBEq, Int.reduceLT, Int.reduceLE, Int.reduceEq, evh, evp, Nat.reduceLeDiff, Nat.reduceSub, Nat.reduceBEq, typs, r2, r3, r4, r5, qx, vx, f8] | refine kCond2_by (fun hc => ?_) (fun hc => ?_) <;> try simp only [hc] | refine kPick_by (fun hc => ?_) (fun hc => ?_) <;> try simp only [hc] | refine kWant_by (fun hc => ?_) (fun hc => ?_) <;> try simp only [hc])
    have : x.acl = y.acl := by rw [List.take_of_length_le (by omega), List.take_of_length_le (by omega)] at hp; exact hp
    exact ⟨by rw [decide_eq_true ((Bn.eq_iff x y).2 ⟨e1, e2, e3, e4, e5, e6, this⟩)], kH⟩
end Go.Proofs.YtncmgiddcefpcaaGreatDoor
namespace Go.Proofs.YtncmgiddcefpcaaGreatDoor
open Go Go.Ev Go.Con
set_option linter.unusedSimpArgs false
set_option linter.unusedVariables false
set_option maxRecDepth 100000
set_option maxHeartbeats 1000000 in
theorem made_spec {h : Hp} {x : Bn} {sx : Value} (hs : TmSl h sx x.acl) : Meets kon 43 [.agg (bnC x sx).toArray] h fun v h' => v = .agg (bnC x sx).toArray ∧ Keep h h' := by
  obtain ⟨c1, c2⟩ := TmSl.cell hs
  unfold bnC
  refine Meets.mk rfl (by kernel_rfl) Tryz.func43 rfl (congrArg Array.toList Tryz.results43) ?_
  simp only [evr, evd, evq, beq_self_eq_true, cond_true, cond_false, reduceIte, Nat.reduceEqDiff, Nat.reduceAdd, Int.reduceBNe, Int.reduceBEq, Int.reduceLT, Int.reduceLE, Int.reduceEq, evh, evp, Nat.reduceLeDiff, Nat.reduceSub, Nat.reduceBEq, typs, c1, c2]
  rw [nextP_norm]
  generalize hh : Hp.push _ _ = H
  have kH : Keep h H := by rw [← hh]; exact (Keep.push _ _).pushed
  have qx : rowOf H h.next = some (bnC x sx) := by rw [← hh]; exact rowOf_rw (by rw [Hp.get_push_lt (Nat.lt_succ_self _)]; exact Hp.get_push_self _ _)
  have gy : H.get (h.next + 1) = some (.row [.int .i64 0, .int .i64 0, .int .i64 0, .string ByteArray.empty, .bool false, .slice none 0 0, .int .i64 0, .int .i64 0, .int .i64 0, .int .i64 0] 40 (.rw 0 [])) := by rw [← hh]; exact Hp.get_push_self (h.push _) _
  have qy := rowOf_rw gy
  clear hh
  unfold bnC at qx
  have eb : evBuild kon.P 40 [(0, .int .i64 x.kind), (1, .int .i64 x.uid), (2, .int .i64 x.dir), (3, .string x.link), (4, .bool x.object), (5, sx), (6, .agg #[.int .i64 x.b.r1, .int .i64 x.b.r2, .int .i64 x.b.r3, .int .i64 x.b.g])] =
      some (.agg #[.int .i64 x.kind, .int .i64 x.uid, .int .i64 x.dir, .string x.link, .bool x.object, sx, .int .i64 x.b.r1, .int .i64 x.b.r2, .int .i64 x.b.r3, .int .i64 x.b.g]) := by
    rcases id hs with ⟨rfl, _⟩ | ⟨b, o, k, c, all, rfl, _⟩ <;> kernel_rfl
  repeat' (first | simp only [evr, nextP_norm, evd, evq, beq_self_eq_true, cond_true, cond_false, reduceIte, Nat.reduceEqDiff, Nat.reduceAdd, Int.reduceBNe, Int.reduceBEq, Int.reduceLT, Int.reduceLE, Int.reduceEq, evh, evp, Nat.reduceLeDiff, Nat.reduceSub, Nat.reduceBEq, typs, qx, qy, gy, c1, c2, eb] | refine kCond2_by (fun hc => ?_) (fun hc => ?_) <;> try simp only [hc] | refine kPick_by (fun hc => ?_) (fun hc => ?_) <;> try simp only [hc] | refine kWant_by (fun hc => ?_) (fun hc => ?_) <;> try simp only [hc])
  exact kH.set (Nat.le_succ _)
set_option maxHeartbeats 1000000 in
theorem model_spec {h : Hp} {x : Bn} {sx : Value} (hs : TmSl h sx x.acl) : Meets kon 19 [.agg (bnC x sx).toArray] h fun v h' => v = .agg (bnC x sx).toArray ∧ Keep h h' := by
  obtain ⟨c1, c2⟩ := TmSl.cell hs
  unfold bnC
  refine Meets.mk rfl (by kernel_rfl) Tryz.func19 rfl (congrArg Array.toList Tryz.results19) ?_
  simp only [evr, evd, evq, beq_self_eq_true, cond_true, cond_false, reduceIte, Nat.reduceEqDiff, Nat.reduceAdd, Int.reduceBNe, Int.reduceBEq, Int.reduceLT, Int.reduceLE, Int.reduceEq, evh, evp, Nat.reduceLeDiff, Nat.reduceSub, Nat.reduceBEq, typs, c1, c2]
  rw [nextP_norm]
  generalize hh : Hp.push _ _ = H
  have kH : Keep h H := by rw [← hh]; exact (Keep.push _ _).pushed
  have qx : rowOf H h.next = some (bnC x sx) := by rw [← hh]; exact rowOf_rw (by rw [Hp.get_push_lt (Nat.lt_succ_self _)]; exact Hp.get_push_self _ _)
  have gy : H.get (h.next + 1) = some (.row [.int .i64 0, .int .i64 0, .int .i64 0, .string ByteArray.empty, .bool false, .slice none 0 0, .int .i64 0, .int .i64 0, .int .i64 0, .int .i64 0] 34 (.rw 0 [])) := by rw [← hh]; exact Hp.get_push_self (h.push _) _
  have qy := rowOf_rw gy
  clear hh
  unfold bnC at qx
  have eb : evBuild kon.P 34 [(0, .int .i64 x.kind), (1, .int .i64 x.uid), (2, .int .i64 x.dir), (3, .string x.link), (4, .bool x.object), (5, sx), (6, .agg #[.int .i64 x.b.r1, .int .i64 x.b.r2, .int .i64 x.b.r3, .int .i64 x.b.g])] =
      some (.agg #[.int .i64 x.kind, .int .i64 x.uid, .int .i64 x.dir, .string x.link, .bool x.object, sx, .int .i64 x.b.r1, .int .i64 x.b.r2, .int .i64 x.b.r3, .int .i64 x.b.g]) := by
    rcases id hs with ⟨rfl, _⟩ | ⟨b, o, k, c, all, rfl, _⟩ <;> kernel_rfl
  repeat' (first | simp only [evr, nextP_norm, evd, evq, beq_self_eq_true, cond_true, cond_false, reduceIte, Nat.reduceEqDiff, Nat.reduceAdd, Int.reduceBNe, Int.reduceBEq, Int.reduceLT, Int.reduceLE, Int.reduceEq, evh, evp, Nat.reduceLeDiff, Nat.reduceSub, Nat.reduceBEq, typs, qx, qy, gy, c1, c2, eb] | refine kCond2_by (fun hc => ?_) (fun hc => ?_) <;> try simp only [hc] | refine kPick_by (fun hc => ?_) (fun hc => ?_) <;> try simp only [hc] | refine kWant_by (fun hc => ?_) (fun hc => ?_) <;> try simp only [hc])
  exact kH.set (Nat.le_succ _)
end Go.Proofs.YtncmgiddcefpcaaGreatDoor
namespace Go.Proofs.YtncmgiddcefpcaaGreatDoor
open Go Go.Ev Go.Con
set_option linter.unusedSimpArgs false
set_option linter.unusedVariables false
set_option maxRecDepth 100000
def obB (b : Bk) : Ob := .row [.int .i64 b.r1, .int .i64 b.r2, .int .i64 b.r3, .int .i64 b.g] 32 (.rw 0 [])
theorem ringMayX (b : Bk) (h : Hp) : Meets kon 71 [.agg #[.int .i64 b.r1, .int .i64 b.r2, .int .i64 b.r3, .int .i64 b.g]] h fun v h' => v = .bool (bkMay b) ∧ h' = h.push (obB b) := by
  unfold obB
  refine Meets.mk rfl (by kernel_rfl) Tryz.func71 rfl (congrArg Array.toList Tryz.results71) ?_
  repeat' (first | simp only [evr, nextP_norm, evd, evq, beq_self_eq_true, cond_true, cond_false, reduceIte, Nat.reduceEqDiff, Nat.reduceAdd, Int.reduceBNe, Int.reduceBEq, Int.reduceLT, Int.reduceLE, Int.reduceEq, evh, evp, Nat.reduceLeDiff, Nat.reduceSub, Nat.reduceBEq, typs] | refine kCond2_by (fun hc => ?_) (fun hc => ?_) <;> try simp only [hc] | refine kPick_by (fun hc => ?_) (fun hc => ?_) <;> try simp only [hc] | refine kWant_by (fun hc => ?_) (fun hc => ?_) <;> try simp only [hc])
  all_goals (congr 1; unfold bkMay; simp_all; try (intros; omega))
theorem refRingMayX (b : Bk) (h : Hp) : Meets kon 28 [.agg #[.int .i64 b.r1, .int .i64 b.r2, .int .i64 b.r3, .int .i64 b.g]] h fun v h' => v = .bool (bkMay b) ∧ h' = h.push (obB b) := by
  unfold obB
  refine Meets.mk rfl (by kernel_rfl) Tryz.func28 rfl (congrArg Array.toList Tryz.results28) ?_
  repeat' (first | simp only [evr, nextP_norm, evd, evq, beq_self_eq_true, cond_true, cond_false, reduceIte, Nat.reduceEqDiff, Nat.reduceAdd, Int.reduceBNe, Int.reduceBEq, Int.reduceLT, Int.reduceLE, Int.reduceEq, evh, evp, Nat.reduceLeDiff, Nat.reduceSub, Nat.reduceBEq, typs] | refine kCond2_by (fun hc => ?_) (fun hc => ?_) <;> try simp only [hc] | refine kPick_by (fun hc => ?_) (fun hc => ?_) <;> try simp only [hc] | refine kWant_by (fun hc => ?_) (fun hc => ?_) <;> try simp only [hc])
  all_goals (congr 1; unfold bkMay; simp_all; try (intros; omega))
end Go.Proofs.YtncmgiddcefpcaaGreatDoor
namespace Go.Proofs.YtncmgiddcefpcaaGreatDoor
open Go Go.Ev Go.Con
set_option linter.unusedSimpArgs false
set_option linter.unusedVariables false
set_option maxRecDepth 100000
theorem find_at {l : List Tm} {i : Nat} {x : Tm} {u : ByteArray} (hi : l[i]? = some x) (hx : x.user = u) (hp : ∀ t ∈ l.take i, t.user ≠ u) : l.find? (fun t => decide (t.user = u)) = some x := by
  obtain ⟨h3, rfl⟩ := List.getElem?_eq_some_iff.1 hi
  rw [List.find?_eq_some_iff_getElem]
  refine ⟨decide_eq_true hx, i, h3, rfl, fun j hj => ?_⟩
  have := hp l[j] (List.mem_take_iff_getElem.2 ⟨j, by omega, rfl⟩)
  simpa using this
end Go.Proofs.YtncmgiddcefpcaaGreatDoor
