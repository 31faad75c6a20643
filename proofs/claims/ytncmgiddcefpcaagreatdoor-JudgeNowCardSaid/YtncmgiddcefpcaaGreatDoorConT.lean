/- Access lists and brackets: what the program's functions return. -/
import Derived.Test.YtncmgiddcefpcaaGreatDoorConK
import Derived.Test.YtncmgiddcefpcaaGreatDoorEvM4
import Derived.Test.YtncmgiddcefpcaaGreatDoorConC
namespace Go.Proofs.YtncmgiddcefpcaaGreatDoor
open Go Go.Ev Go.Con
set_option linter.unusedSimpArgs false
set_option linter.unusedVariables false
set_option maxRecDepth 100000

def flV (f : Fl) : Value := .agg #[.bool f.r, .bool f.w, .bool f.e]
def bkC (b : Bk) : List Value := [.int .i64 b.r1, .int .i64 b.r2, .int .i64 b.r3, .int .i64 b.g]
def bkV (b : Bk) : Value := .agg #[.int .i64 b.r1, .int .i64 b.r2, .int .i64 b.r3, .int .i64 b.g]
def tmC (t : Tm) : List Value := [.string t.user, .bool t.f.r, .bool t.f.w, .bool t.f.e]
def tmV (t : Tm) : Value := .agg #[.string t.user, .bool t.f.r, .bool t.f.w, .bool t.f.e]
def tms (l : List Tm) : List Value := (l.map tmC).flatten
abbrev TmTy (h : Hp) (F : Nat → Prop) (v : Value) (l : List Tm) : Prop := SlTy h F 65 4 v (tms l)
abbrev TmSl (h : Hp) (v : Value) (l : List Tm) : Prop := SlAt h 4 v (tms l)
theorem tms_len (l : List Tm) : (tms l).length = l.length * 4 := by
  induction l with
  | nil => rfl
  | cons a l ih => simp only [tms, List.map_cons, List.flatten_cons, List.length_append] at ih ⊢; rw [ih]; simp [tmC]; omega
theorem tms_at (l : List Tm) {i : Nat} {x : Tm} (h : l[i]? = some x) : ((tms l).drop (i * 4)).take 4 = tmC x := by
  induction l generalizing i with
  | nil => simp at h
  | cons a l ih =>
    cases i with
    | zero =>
      simp at h; subst h
      simp [tms, tmC]
    | succ i =>
      have := ih (by simpa using h)
      have e : tms (a :: l) = tmC a ++ tms l := by simp [tms]
      rw [e, List.drop_append, show (tmC a).length = 4 from rfl, List.drop_eq_nil_of_le (by simp [tmC]; omega), List.nil_append, show (i + 1) * 4 - 4 = i * 4 by omega]
      exact this

theorem tms_cell (l : List Tm) : (tms l).all isCell = true := by
  rw [List.all_eq_true]; intro x hx
  simp only [tms, List.mem_flatten, List.mem_map] at hx
  obtain ⟨c, ⟨t, _, rfl⟩, hx⟩ := hx
  simp only [tmC, List.mem_cons, List.not_mem_nil, or_false] at hx
  rcases hx with rfl | rfl | rfl | rfl <;> rfl
theorem TmSl.len {h : Hp} {v : Value} {l : List Tm} (s : TmSl h v l) : evLen kon.P 30 v = some (.int .i64 l.length) := by
  rcases s with ⟨rfl, hl⟩ | ⟨b, o, k, c, all, rfl, h2, h3, h4, h5, h6⟩
  · have : (tms l).length = 0 := by rw [hl]; rfl
    rw [tms_len] at this
    have : l = [] := List.length_eq_zero_iff.1 (by omega)
    subst this
    exact evLen_slice (e := 65) (by kernel_rfl)
  · have : l.length = k := by rw [tms_len] at h5; omega
    subst this
    exact evLen_slice (e := 65) (by kernel_rfl)
/-- An element: where it lies, and what is read there. -/
theorem TmSl.at {h : Hp} {v : Value} {l : List Tm} (s : TmSl h v l) {i : Nat} {x : Tm} (hi : l[i]? = some x) : ∃ b o all, evIndexAddr kon.P 30 v (.int .i64 i) = some (.pointer (some ⟨b, o, none⟩)) ∧ b < h.next ∧
    rowOf h b = some all ∧ o + 4 ≤ all.length ∧ (all.drop o).take 4 = tmC x := by
  have hlt : i < l.length := (List.getElem?_eq_some_iff.1 hi).1
  rcases s with ⟨rfl, hl⟩ | ⟨b, o, k, c, all, rfl, h2, h3, h4, h5, h6⟩
  · have : (tms l).length = 0 := by rw [hl]; rfl
    rw [tms_len] at this; omega
  · have hk : l.length = k := by rw [tms_len] at h5; omega
    subst hk
    have hz : o + l.length * 4 ≤ all.length := by
      have := congrArg List.length h6
      rw [List.length_take, List.length_drop, tms_len] at this; omega
    refine ⟨b, o + i * 4, all, ?_, h3, h4, by omega, ?_⟩
    · have := L_indexAddr (C := kon) (t := 30) (e := 65) (n := 4) (by kernel_rfl) (by kernel_rfl) b o l.length c .i64 i (by omega) (by omega)
      simpa using this
    · rw [← tms_at l hi, ← h6, List.drop_take, List.take_take, List.drop_drop]
      congr 1; omega
theorem TmSl.load {h : Hp} {v : Value} {l : List Tm} (s : TmSl h v l) {i : Nat} {x : Tm} (hi : l[i]? = some x) : ∃ p, evIndexAddr kon.P 30 v (.int .i64 i) = some p ∧ evLoad kon.P 65 p h = some (tmV x) := by
  obtain ⟨b, o, all, h1, _, h2, h3, h4⟩ := s.at hi
  refine ⟨_, h1, ?_⟩
  rw [L_loadA (C := kon) (t := 65) (n := 4) (by kernel_rfl) (by kernel_rfl), h2, Option.bind_some, aggAt_eq h3, h4]; rfl

/-! ### acl.May -/
theorem auser_spec (s : ByteArray) (h : Hp) : Meets kon 98 [.string s] h fun v h' => v = .bool (userT s) ∧ h' = h := by
  refine Meets.mk rfl (by kernel_rfl) Tryz.func98 rfl (congrArg Array.toList Tryz.results98) ?_
  rcases Bool.eq_false_or_eq_true (decide (s = (ByteArray.mk #[42]))) with e1 | e1
  · simp only [evr, nextP_norm, evd, evq, beq_self_eq_true, cond_true, cond_false, reduceIte, Nat.reduceEqDiff, Nat.reduceAdd, Int.reduceBNe, Int.reduceBEq, Int.reduceLT, Int.reduceLE, Int.reduceEq, typs, e1]
    unfold userT star; rw [e1]; rfl
  · simp only [evr, nextP_norm, evd, evq, beq_self_eq_true, cond_true, cond_false, reduceIte, Nat.reduceEqDiff, Nat.reduceAdd, Int.reduceBNe, Int.reduceBEq, Int.reduceLT, Int.reduceLE, Int.reduceEq, typs, e1, (user_spec s h).call]
    unfold userT star; rw [e1]; rfl
theorem cmpLib_spec (s u : ByteArray) (h : Hp) : Meets kon 110 [.string s, .string u] h fun v h' => v = .int .i64 (Lib.compareBytes s.data.toList u.data.toList) ∧ h' = h :=
  ⟨_, _, Ret.sum (s := sumCmp Lib.compareBytes) rfl rfl, rfl, rfl⟩
theorem acompare_spec (a b : Tm) (h : Hp) : Meets kon 99 [tmV a, tmV b] h fun v h' => v = .int .i64 (Lib.compareBytes a.user.data.toList b.user.data.toList) ∧ Keep h h' := by
  unfold tmV
  refine Meets.mk rfl (by kernel_rfl) Tryz.func99 rfl (congrArg Array.toList Tryz.results99) ?_
  simp only [evr, nextP_norm, evd, evq, beq_self_eq_true, cond_true, cond_false, reduceIte, Nat.reduceEqDiff, Nat.reduceAdd, Int.reduceBNe, Int.reduceBEq, Int.reduceLT, Int.reduceLE, Int.reduceEq, evh, evp, Nat.reduceLeDiff, Nat.reduceSub, Nat.reduceBEq, typs, (cmpLib_spec a.user b.user _).call]
  exact ((Keep.push _ _).pushed)
theorem tmAt_eq {l : List Tm} {i : Nat} {x : Tm} (h : l[i]? = some x) : tmAt l i = x := by unfold tmAt; rw [h]; rfl
theorem all_succ {f : Nat → Bool} {i : Nat} (h : (List.range i).all f = true) (hi : f i = true) : (List.range (i + 1)).all f = true := by
  rw [List.range_succ, List.all_append, h]; simp [hi]
theorem all_no {f : Nat → Bool} {i n : Nat} (hi : i < n) (h : f i = false) : (List.range n).all f = false := by
  rw [Bool.eq_false_iff]; intro ha
  have := List.all_eq_true.1 ha i (List.mem_range.2 hi)
  rw [h] at this; cases this
theorem aMay_spec {h : Hp} {v : Value} {l : List Tm} (s : TmSl h v l) (hl : l.length ≤ 1000000000) : Meets kon 69 [v] h fun u h' => u = .bool (listMay l) ∧ Keep h h' := by
  refine Meets.mk rfl (by kernel_rfl) Tryz.func69 rfl (congrArg Array.toList Tryz.results69) ?_
  have la := s.len
  simp only [evr, nextP_norm, evd, evq, beq_self_eq_true, cond_true, cond_false, reduceIte, Nat.reduceEqDiff, Nat.reduceAdd, Int.reduceBNe, Int.reduceBEq, Int.reduceLT, Int.reduceLE, Int.reduceEq, typs, la]
  refine Wp_loop (fun k fr h' => Keep h h' ∧ ∃ i : Nat, k = l.length - i ∧ i ≤ l.length ∧ fr.get 0 = some v ∧ fr.get 5 = some v ∧ fr.get 6 = some (.int .i64 l.length) ∧ fr.get 7 = some (.int .i64 i) ∧ (List.range i).all (okAt l) = true) l.length ⟨Keep.refl _, 0, rfl, Nat.zero_le _, ?_, ?_, ?_, ?_, rfl⟩ ?_
  · simp only [evr, nextP_norm, evd, evq, beq_self_eq_true, cond_true, cond_false, reduceIte, Nat.reduceEqDiff, Nat.reduceAdd, Int.reduceBNe, Int.reduceBEq, Int.reduceLT, Int.reduceLE, Int.reduceEq, typs]
  · simp only [evr, nextP_norm, evd, evq, beq_self_eq_true, cond_true, cond_false, reduceIte, Nat.reduceEqDiff, Nat.reduceAdd, Int.reduceBNe, Int.reduceBEq, Int.reduceLT, Int.reduceLE, Int.reduceEq, typs]
  · simp only [evr, nextP_norm, evd, evq, beq_self_eq_true, cond_true, cond_false, reduceIte, Nat.reduceEqDiff, Nat.reduceAdd, Int.reduceBNe, Int.reduceBEq, Int.reduceLT, Int.reduceLE, Int.reduceEq, typs]
  · simp only [evr, nextP_norm, evd, evq, beq_self_eq_true, cond_true, cond_false, reduceIte, Nat.reduceEqDiff, Nat.reduceAdd, Int.reduceBNe, Int.reduceBEq, Int.reduceLT, Int.reduceLE, Int.reduceEq, typs]
    rfl
  rintro k fr h' ⟨hk, i, rfl, hi, g0, g5, g6, g7, hp⟩
  by_cases h3 : i < l.length
  · have e3 : decide ((i : Int) < l.length) = true := by simp; omega
    obtain ⟨x, hx⟩ : ∃ x, l[i]? = some x := ⟨_, List.getElem?_eq_getElem h3⟩
    obtain ⟨p, ha, hld⟩ := TmSl.load (s.keep hk) hx
    unfold tmV at hld
    simp only [evr, nextP_norm, evd, evq, beq_self_eq_true, cond_true, cond_false, reduceIte, Nat.reduceEqDiff, Nat.reduceAdd, Int.reduceBNe, Int.reduceBEq, Int.reduceLT, Int.reduceLE, Int.reduceEq, evh, evp, Nat.reduceLeDiff, Nat.reduceSub, Nat.reduceBEq, typs, la, g0, g5, g6, g7, e3, ha, hld, tmC]
    refine Eq.mpr (Wp_drawOrd (KR.mk (by kernel_rfl))) ?_
    generalize hh : (h'.push (Ob.row _ _ _)).set h'.next (Ob.row _ _ _) = h2
    have hk2 : Keep h h2 := by rw [← hh]; exact (hk.pushed).set hk.1
    have hg : h2.get h'.next = some (.row [.string x.user, .bool x.f.r, .bool x.f.w, .bool x.f.e] 65 (.rw 0 [])) := by rw [← hh]; exact Hp.get_set_self _ _ _
    have hr := rowOf_rw hg
    have hx' := tmAt_eq hx
    clear hh
    cases hu : userT x.user with
    | false =>
      simp only [evr, nextP_norm, evd, evq, beq_self_eq_true, cond_true, cond_false, reduceIte, Nat.reduceEqDiff, Nat.reduceAdd, Int.reduceBNe, Int.reduceBEq, Int.reduceLT, Int.reduceLE, Int.reduceEq, evh, evp, Nat.reduceLeDiff, Nat.reduceSub, Nat.reduceBEq, typs, la, g0, g5, g6, g7, hr, (auser_spec x.user _).call, hu]
      refine ⟨?_, hk2⟩
      unfold listMay
      rw [all_no h3 (by unfold okAt; rw [hx', hu]; rfl)]; rfl
    | true =>
      cases i with
      | zero =>
        simp only [evr, nextP_norm, evd, evq, beq_self_eq_true, cond_true, cond_false, reduceIte, Nat.reduceEqDiff, Nat.reduceAdd, Int.reduceBNe, Int.reduceBEq, Int.reduceLT, Int.reduceLE, Int.reduceEq, evh, evp, Nat.reduceLeDiff, Nat.reduceSub, Nat.reduceBEq, typs, la, g0, g5, g6, g7, hr, (auser_spec x.user _).call, hu, Int.natCast_zero, Int.lt_irrefl, wrap64 (x := ((0 : Nat) : Int) + 1) (by omega) (by omega)]
        refine ⟨l.length - 1, by omega, hk2, 1, rfl, by omega, rfl, ?_⟩
        refine all_succ hp ?_
        unfold okAt; rw [hx', hu]; rfl
      | succ j =>
        obtain ⟨y, hy⟩ : ∃ y, l[j]? = some y := ⟨_, List.getElem?_eq_getElem (by omega)⟩
        obtain ⟨p2, ha2, hld2⟩ := TmSl.load (s.keep hk2) hy
        unfold tmV at hld2
        have hy' := tmAt_eq hy
        have e4 : decide ((0 : Int) < ((j + 1 : Nat) : Int)) = true := decide_eq_true (by omega)
        have w1 : IntKind.i64.wrap (((j + 1 : Nat) : Int) - 1) = (j : Int) := by rw [wrap64 (by omega) (by omega)]; omega
        simp only [evr, nextP_norm, evd, evq, beq_self_eq_true, cond_true, cond_false, reduceIte, Nat.reduceEqDiff, Nat.reduceAdd, Int.reduceBNe, Int.reduceBEq, Int.reduceLT, Int.reduceLE, Int.reduceEq, evh, evp, Nat.reduceLeDiff, Nat.reduceSub, Nat.reduceBEq, typs, la, g0, g5, g6, g7, hr, (auser_spec x.user _).call, hu, e4, w1, ha2, hld2]
        refine callP_meets (acompare_spec y x _) ?_
        rintro u h3' ⟨rfl, hk3⟩
        have hok : okAt l (j + 1) = ltS y.user x.user := by
          unfold okAt; rw [hx', hu, Nat.add_sub_cancel, hy']; simp
        rw [ltS_cmp] at hok
        rcases Bool.eq_false_or_eq_true (decide ((0 : Int) ≤ Lib.compareBytes y.user.data.toList x.user.data.toList)) with e5 | e5
        · simp only [evr, nextP_norm, evd, evq, beq_self_eq_true, cond_true, cond_false, reduceIte, Nat.reduceEqDiff, Nat.reduceAdd, Int.reduceBNe, Int.reduceBEq, Int.reduceLT, Int.reduceLE, Int.reduceEq, evh, evp, Nat.reduceLeDiff, Nat.reduceSub, Nat.reduceBEq, typs, la, g0, g5, g6, g7, e5]
          refine ⟨?_, hk2.trans hk3⟩
          unfold listMay
          rw [all_no h3 (by rw [hok]; simp at e5 ⊢; omega)]; rfl
        · simp only [evr, nextP_norm, evd, evq, beq_self_eq_true, cond_true, cond_false, reduceIte, Nat.reduceEqDiff, Nat.reduceAdd, Int.reduceBNe, Int.reduceBEq, Int.reduceLT, Int.reduceLE, Int.reduceEq, evh, evp, Nat.reduceLeDiff, Nat.reduceSub, Nat.reduceBEq, typs, la, g0, g5, g6, g7, e5, wrap64 (x := ((j + 1 : Nat) : Int) + 1) (by omega) (by omega)]
          refine ⟨l.length - (j + 1 + 1), by omega, hk2.trans hk3, j + 1 + 1, rfl, by omega, rfl, ?_⟩
          refine all_succ hp ?_
          rw [hok]; simp at e5 ⊢; omega
  · have e3 : decide ((i : Int) < l.length) = false := by simp; omega
    have hi2 : i = l.length := by omega
    subst hi2
    simp only [evr, nextP_norm, evd, evq, beq_self_eq_true, cond_true, cond_false, reduceIte, Nat.reduceEqDiff, Nat.reduceAdd, Int.reduceBNe, Int.reduceBEq, Int.reduceLT, Int.reduceLE, Int.reduceEq, evh, evp, Nat.reduceLeDiff, Nat.reduceSub, Nat.reduceBEq, typs, la, g0, g5, g6, g7, e3]
    refine ⟨?_, hk⟩
    unfold listMay
    rw [hp]
    simp
    omega
theorem clone_spec {h : Hp} {v : Value} {l : List Tm} (s : TmSl h v l) (hl : l.length ≤ 1000000000) : Meets kon 70 [v] h fun u h' => Keep h h' ∧ TmTy h' (fun b => h.next ≤ b) u l := by
  refine Meets.mk rfl (by kernel_rfl) Tryz.func70 rfl (congrArg Array.toList Tryz.results70) ?_
  rcases id s with ⟨rfl, hn⟩ | ⟨b, o, k, c, all, rfl, h1, h2, h3, h4, h5⟩
  · repeat' (first | simp only [evr, nextP_norm, evd, evq, beq_self_eq_true, cond_true, cond_false, reduceIte, Nat.reduceEqDiff, Nat.reduceAdd, Int.reduceBNe, Int.reduceBEq, Int.reduceLT, Int.reduceLE, Int.reduceEq, evh, evp, Nat.reduceLeDiff, Nat.reduceSub, Nat.reduceBEq, typs] | refine kCond2_by (fun hc => ?_) (fun hc => ?_) <;> try simp only [hc] | refine kPick_by (fun hc => ?_) (fun hc => ?_) <;> try simp only [hc] | refine kWant_by (fun hc => ?_) (fun hc => ?_) <;> try simp only [hc])
    exact ⟨Keep.refl _, .inl ⟨rfl, hn⟩⟩
  · have hk : k = l.length := by rw [tms_len] at h4; omega
    subst hk
    obtain ⟨j, e1, e2, e3⟩ := SlAt.cells (s.keep (Keep.push h (.row [] 65 (.rw 0 []))))
    simp only [lenOf, Option.some.injEq] at e1
    subst e1
    have ha := append_zero (P := kon.P) (t := 30) (e := 65) (n := 4) (by_ := 24) (z := .agg #[.string ByteArray.empty, .bool false, .bool false, .bool false]) (by kernel_rfl) (by kernel_rfl) (by kernel_rfl) (by kernel_rfl) (by kernel_rfl) (b := h.next) (x := .slice (some ⟨b, o, none⟩) l.length c) rfl e2 e3 (tms_cell l)
      (Nat.le_trans (Nat.mul_le_mul_right 25 (show _ ≤ 2000001024 by omega)) (by decide))
    rcases Bool.eq_false_or_eq_true (l.length == 0) with hz | hz
    · rw [hz] at ha
      simp only [cond_true] at ha
      repeat' (first | simp only [evr, nextP_norm, evd, evq, beq_self_eq_true, cond_true, cond_false, reduceIte, Nat.reduceEqDiff, Nat.reduceAdd, Int.reduceBNe, Int.reduceBEq, Int.reduceLT, Int.reduceLE, Int.reduceEq, evh, evp, Nat.reduceLeDiff, Nat.reduceSub, Nat.reduceBEq, typs, ha] | refine kCond2_by (fun hc => ?_) (fun hc => ?_) <;> try simp only [hc] | refine kPick_by (fun hc => ?_) (fun hc => ?_) <;> try simp only [hc] | refine kWant_by (fun hc => ?_) (fun hc => ?_) <;> try simp only [hc])
      refine ⟨Keep.push _ _, .inr ⟨h.next, 0, 0, 2 * 0, [], _, rfl, Nat.le_refl _, Nat.le_refl _, Nat.lt_succ_self _, Hp.get_push_self _ _, trivial, ?_, ?_⟩⟩
      · rw [tms_len]; simp at hz; simp [hz]
      · have : (tms l).length = 0 := by rw [tms_len]; simp at hz; simp [hz]
        simp [List.length_eq_zero_iff.1 this]
    · rw [hz] at ha
      simp only [cond_false] at ha
      repeat' (first | simp only [evr, nextP_norm, evd, evq, beq_self_eq_true, cond_true, cond_false, reduceIte, Nat.reduceEqDiff, Nat.reduceAdd, Int.reduceBNe, Int.reduceBEq, Int.reduceLT, Int.reduceLE, Int.reduceEq, evh, evp, Nat.reduceLeDiff, Nat.reduceSub, Nat.reduceBEq, typs, ha] | refine kCond2_by (fun hc => ?_) (fun hc => ?_) <;> try simp only [hc] | refine kPick_by (fun hc => ?_) (fun hc => ?_) <;> try simp only [hc] | refine kWant_by (fun hc => ?_) (fun hc => ?_) <;> try simp only [hc])
      refine ⟨(Keep.push _ _).pushed, .inr ⟨h.next + 1, 0, l.length, 2 * l.length + 1, tms l, _, rfl, by omega, by omega, Nat.lt_succ_self _, Hp.get_push_self (h.push _) _, trivial, tms_len l, ?_⟩⟩
      rw [List.drop_zero, List.take_of_length_le (by rw [tms_len]; omega)]
theorem ringMay_spec (b : Bk) (h : Hp) : Meets kon 71 [bkV b] h fun v h' => v = .bool (bkMay b) ∧ Keep h h' := by
  unfold bkV
  refine Meets.mk rfl (by kernel_rfl) Tryz.func71 rfl (congrArg Array.toList Tryz.results71) ?_
  repeat' (first | simp only [evr, nextP_norm, evd, evq, beq_self_eq_true, cond_true, cond_false, reduceIte, Nat.reduceEqDiff, Nat.reduceAdd, Int.reduceBNe, Int.reduceBEq, Int.reduceLT, Int.reduceLE, Int.reduceEq, evh, evp, Nat.reduceLeDiff, Nat.reduceSub, Nat.reduceBEq, typs] | refine kCond2_by (fun hc => ?_) (fun hc => ?_) <;> try simp only [hc] | refine kPick_by (fun hc => ?_) (fun hc => ?_) <;> try simp only [hc] | refine kWant_by (fun hc => ?_) (fun hc => ?_) <;> try simp only [hc])
  all_goals (refine ⟨?_, Keep.push _ _⟩; congr 1; unfold bkMay; simp_all; try (intros; omega))
end Go.Proofs.YtncmgiddcefpcaaGreatDoor
