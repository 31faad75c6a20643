/- names: the reference's Split and Join, and the law's comparison of two lists of texts. -/
import Derived.Test.YtncmgiddcefpcaaDoorConD
namespace Go.Proofs.YtncmgiddcefpcaaDoor
open Go Go.Ev Go.Con
set_option linter.unusedSimpArgs false
set_option linter.unusedVariables false
set_option maxRecDepth 100000

/-! ### the comparison -/
theorem same_spec {h : Hp} {u v : Value} {a b : List ByteArray} (ha : StrSl h u a) (hb : StrSl h v b) (hn : a.length ≤ 1000000000) : Meets kon 25 [u, v] h fun r h' => r = .bool (decide (a = b)) ∧ h' = h := by
  refine Meets.mk rfl (by kernel_rfl) Tryd.func25 rfl (congrArg Array.toList Tryd.results25) ?_
  have la := ha.len
  have lb := hb.len
  rcases Bool.eq_false_or_eq_true ((a.length : Int) != b.length) with e1 | e1
  · simp only [evr, nextP_norm, evd, P_make, kMk_eq, kMk2_eq, beq_self_eq_true, mkRow, cond_true, cond_false, and_true, true_and, Nat.reduceEqDiff, reduceIte, Nat.reduceAdd, Int.reduceBNe, Int.reduceBEq, Int.reduceLT, Int.reduceLE, Int.reduceEq, decide_true, decide_false, Nat.zero_add, Nat.add_zero, Nat.mul_one, Int.toNat_natCast, Option.bind_some, Option.map_some, onSome_some, Tr.get_set, Tr.ofList, evBin_lss, evBin_gtr, evBin_leq, evBin_geq, evBin_eql, evBin_neq, evBin_add, evBin_sub, evBin_eqS, evBin_neS, L_slice, slotAt, Bool.not_true, Bool.not_false, List.getElem?_toArray, List.getElem?_cons_succ, List.getElem?_cons_zero, cellAt_eq, rowOb_rw, rowOb_ro, opt_none, opt_some, List.append_eq, List.cons_append, List.nil_append, typ1, typ2, typ3, typ4, typ5, typ6, typ7, la, lb, e1]
    have : a ≠ b := by rintro rfl; simp at e1
    simp [this]
  have hl : a.length = b.length := by simp at e1; omega
  simp only [evr, nextP_norm, evd, P_make, kMk_eq, kMk2_eq, beq_self_eq_true, mkRow, cond_true, cond_false, and_true, true_and, Nat.reduceEqDiff, reduceIte, Nat.reduceAdd, Int.reduceBNe, Int.reduceBEq, Int.reduceLT, Int.reduceLE, Int.reduceEq, decide_true, decide_false, Nat.zero_add, Nat.add_zero, Nat.mul_one, Int.toNat_natCast, Option.bind_some, Option.map_some, onSome_some, Tr.get_set, Tr.ofList, evBin_lss, evBin_gtr, evBin_leq, evBin_geq, evBin_eql, evBin_neq, evBin_add, evBin_sub, evBin_eqS, evBin_neS, L_slice, slotAt, Bool.not_true, Bool.not_false, List.getElem?_toArray, List.getElem?_cons_succ, List.getElem?_cons_zero, cellAt_eq, rowOb_rw, rowOb_ro, opt_none, opt_some, List.append_eq, List.cons_append, List.nil_append, typ1, typ2, typ3, typ4, typ5, typ6, typ7, la, lb, e1]
  refine Wp_loop (fun k fr h' => h' = h ∧ ∃ i : Nat, k = a.length - i ∧ i ≤ a.length ∧ fr.get 0 = some u ∧ fr.get 1 = some v ∧ fr.get 5 = some (.int .i64 i) ∧ a.take i = b.take i) a.length ⟨rfl, 0, rfl, Nat.zero_le _, ?_, ?_, ?_, rfl⟩ ?_
  · simp only [evr, nextP_norm, evd, P_make, kMk_eq, kMk2_eq, beq_self_eq_true, mkRow, cond_true, cond_false, and_true, true_and, Nat.reduceEqDiff, reduceIte, Nat.reduceAdd, Int.reduceBNe, Int.reduceBEq, Int.reduceLT, Int.reduceLE, Int.reduceEq, decide_true, decide_false, Nat.zero_add, Nat.add_zero, Nat.mul_one, Int.toNat_natCast, Option.bind_some, Option.map_some, onSome_some, Tr.get_set, Tr.ofList, evBin_lss, evBin_gtr, evBin_leq, evBin_geq, evBin_eql, evBin_neq, evBin_add, evBin_sub, evBin_eqS, evBin_neS, L_slice, slotAt, Bool.not_true, Bool.not_false, List.getElem?_toArray, List.getElem?_cons_succ, List.getElem?_cons_zero, cellAt_eq, rowOb_rw, rowOb_ro, opt_none, opt_some, List.append_eq, List.cons_append, List.nil_append, typ1, typ2, typ3, typ4, typ5, typ6, typ7]
  · simp only [evr, nextP_norm, evd, P_make, kMk_eq, kMk2_eq, beq_self_eq_true, mkRow, cond_true, cond_false, and_true, true_and, Nat.reduceEqDiff, reduceIte, Nat.reduceAdd, Int.reduceBNe, Int.reduceBEq, Int.reduceLT, Int.reduceLE, Int.reduceEq, decide_true, decide_false, Nat.zero_add, Nat.add_zero, Nat.mul_one, Int.toNat_natCast, Option.bind_some, Option.map_some, onSome_some, Tr.get_set, Tr.ofList, evBin_lss, evBin_gtr, evBin_leq, evBin_geq, evBin_eql, evBin_neq, evBin_add, evBin_sub, evBin_eqS, evBin_neS, L_slice, slotAt, Bool.not_true, Bool.not_false, List.getElem?_toArray, List.getElem?_cons_succ, List.getElem?_cons_zero, cellAt_eq, rowOb_rw, rowOb_ro, opt_none, opt_some, List.append_eq, List.cons_append, List.nil_append, typ1, typ2, typ3, typ4, typ5, typ6, typ7]
  · simp only [evr, nextP_norm, evd, P_make, kMk_eq, kMk2_eq, beq_self_eq_true, mkRow, cond_true, cond_false, and_true, true_and, Nat.reduceEqDiff, reduceIte, Nat.reduceAdd, Int.reduceBNe, Int.reduceBEq, Int.reduceLT, Int.reduceLE, Int.reduceEq, decide_true, decide_false, Nat.zero_add, Nat.add_zero, Nat.mul_one, Int.toNat_natCast, Option.bind_some, Option.map_some, onSome_some, Tr.get_set, Tr.ofList, evBin_lss, evBin_gtr, evBin_leq, evBin_geq, evBin_eql, evBin_neq, evBin_add, evBin_sub, evBin_eqS, evBin_neS, L_slice, slotAt, Bool.not_true, Bool.not_false, List.getElem?_toArray, List.getElem?_cons_succ, List.getElem?_cons_zero, cellAt_eq, rowOb_rw, rowOb_ro, opt_none, opt_some, List.append_eq, List.cons_append, List.nil_append, typ1, typ2, typ3, typ4, typ5, typ6, typ7]
    rfl
  rintro k fr h' ⟨rfl, i, rfl, hi, g0, g1, g5, hp⟩
  by_cases h3 : i < a.length
  · have e3 : decide ((i : Int) < a.length) = true := by simp; omega
    obtain ⟨x, hx⟩ : ∃ x, a[i]? = some x := ⟨_, List.getElem?_eq_getElem h3⟩
    obtain ⟨y, hy⟩ : ∃ y, b[i]? = some y := ⟨_, List.getElem?_eq_getElem (by omega)⟩
    obtain ⟨p, i1, l1⟩ := ha.at hx
    obtain ⟨q, i2, l2⟩ := hb.at hy
    simp only [evr, nextP_norm, evd, P_make, kMk_eq, kMk2_eq, beq_self_eq_true, mkRow, cond_true, cond_false, and_true, true_and, Nat.reduceEqDiff, reduceIte, Nat.reduceAdd, Int.reduceBNe, Int.reduceBEq, Int.reduceLT, Int.reduceLE, Int.reduceEq, decide_true, decide_false, Nat.zero_add, Nat.add_zero, Nat.mul_one, Int.toNat_natCast, Option.bind_some, Option.map_some, onSome_some, Tr.get_set, Tr.ofList, evBin_lss, evBin_gtr, evBin_leq, evBin_geq, evBin_eql, evBin_neq, evBin_add, evBin_sub, evBin_eqS, evBin_neS, L_slice, slotAt, Bool.not_true, Bool.not_false, List.getElem?_toArray, List.getElem?_cons_succ, List.getElem?_cons_zero, cellAt_eq, rowOb_rw, rowOb_ro, opt_none, opt_some, List.append_eq, List.cons_append, List.nil_append, typ1, typ2, typ3, typ4, typ5, typ6, typ7, la, g0, g1, g5, e3]
    refine Eq.mpr (Wp_drawOrd (KR.mk (by kernel_rfl))) ?_
    by_cases hxy : x = y
    · have e4 : decide (x = y) = true := decide_eq_true hxy
      simp only [evr, nextP_norm, evd, P_make, kMk_eq, kMk2_eq, beq_self_eq_true, mkRow, cond_true, cond_false, and_true, true_and, Nat.reduceEqDiff, reduceIte, Nat.reduceAdd, Int.reduceBNe, Int.reduceBEq, Int.reduceLT, Int.reduceLE, Int.reduceEq, decide_true, decide_false, Nat.zero_add, Nat.add_zero, Nat.mul_one, Int.toNat_natCast, Option.bind_some, Option.map_some, onSome_some, Tr.get_set, Tr.ofList, evBin_lss, evBin_gtr, evBin_leq, evBin_geq, evBin_eql, evBin_neq, evBin_add, evBin_sub, evBin_eqS, evBin_neS, L_slice, slotAt, Bool.not_true, Bool.not_false, List.getElem?_toArray, List.getElem?_cons_succ, List.getElem?_cons_zero, cellAt_eq, rowOb_rw, rowOb_ro, opt_none, opt_some, List.append_eq, List.cons_append, List.nil_append, typ1, typ2, typ3, typ4, typ5, typ6, typ7, la, g0, g1, g5, e3, i1, l1, i2, l2, e4, wrap64 (x := (i : Int) + 1) (by omega) (by omega)]
      refine ⟨a.length - (i + 1), by omega, i + 1, rfl, by omega, rfl, ?_⟩
      rw [List.take_add_one, List.take_add_one, hp, hx, hy, hxy]
    · have e4 : decide (x = y) = false := decide_eq_false hxy
      simp only [evr, nextP_norm, evd, P_make, kMk_eq, kMk2_eq, beq_self_eq_true, mkRow, cond_true, cond_false, and_true, true_and, Nat.reduceEqDiff, reduceIte, Nat.reduceAdd, Int.reduceBNe, Int.reduceBEq, Int.reduceLT, Int.reduceLE, Int.reduceEq, decide_true, decide_false, Nat.zero_add, Nat.add_zero, Nat.mul_one, Int.toNat_natCast, Option.bind_some, Option.map_some, onSome_some, Tr.get_set, Tr.ofList, evBin_lss, evBin_gtr, evBin_leq, evBin_geq, evBin_eql, evBin_neq, evBin_add, evBin_sub, evBin_eqS, evBin_neS, L_slice, slotAt, Bool.not_true, Bool.not_false, List.getElem?_toArray, List.getElem?_cons_succ, List.getElem?_cons_zero, cellAt_eq, rowOb_rw, rowOb_ro, opt_none, opt_some, List.append_eq, List.cons_append, List.nil_append, typ1, typ2, typ3, typ4, typ5, typ6, typ7, la, g0, g1, g5, e3, i1, l1, i2, l2, e4]
      have : a ≠ b := by rintro rfl; rw [hx] at hy; exact hxy (Option.some.inj hy)
      simp [this]
  · have e3 : decide ((i : Int) < a.length) = false := by simp; omega
    simp only [evr, nextP_norm, evd, P_make, kMk_eq, kMk2_eq, beq_self_eq_true, mkRow, cond_true, cond_false, and_true, true_and, Nat.reduceEqDiff, reduceIte, Nat.reduceAdd, Int.reduceBNe, Int.reduceBEq, Int.reduceLT, Int.reduceLE, Int.reduceEq, decide_true, decide_false, Nat.zero_add, Nat.add_zero, Nat.mul_one, Int.toNat_natCast, Option.bind_some, Option.map_some, onSome_some, Tr.get_set, Tr.ofList, evBin_lss, evBin_gtr, evBin_leq, evBin_geq, evBin_eql, evBin_neq, evBin_add, evBin_sub, evBin_eqS, evBin_neS, L_slice, slotAt, Bool.not_true, Bool.not_false, List.getElem?_toArray, List.getElem?_cons_succ, List.getElem?_cons_zero, cellAt_eq, rowOb_rw, rowOb_ro, opt_none, opt_some, List.append_eq, List.cons_append, List.nil_append, typ1, typ2, typ3, typ4, typ5, typ6, typ7, la, g0, g1, g5, e3]
    have : a = b := by rw [List.take_of_length_le (by omega), List.take_of_length_le (by omega)] at hp; exact hp
    simp [this]

/-! ### the reference's Join -/
def tailJ (ps : List ByteArray) : List UInt8 := (ps.map (62 :: ·.data.toList)).flatten
theorem tailJ_take {ps : List ByteArray} {i : Nat} {x : ByteArray} (h : ps[i]? = some x) : tailJ (ps.take (i + 1)) = tailJ (ps.take i) ++ 62 :: x.data.toList := by
  unfold tailJ; rw [List.take_add_one, h]; simp
theorem tailJ_inter : ∀ (p : ByteArray) (ps : List ByteArray), tailJ (p :: ps) = 62 :: inter (p :: ps)
  | p, [] => by simp [tailJ, inter_len_one]
  | p, q :: ps => by rw [inter_cons]; have := tailJ_inter q ps; simp only [tailJ, List.map_cons, List.flatten_cons] at this ⊢; rw [this]; rfl
theorem tailJ_le (ps : List ByteArray) (i : Nat) : (tailJ (ps.take i)).length ≤ (tailJ ps).length := by
  unfold tailJ
  conv => rhs; rw [← List.take_append_drop i ps]
  rw [List.map_append, List.flatten_append, List.length_append]; omega
theorem rjoin_spec {h : Hp} {v : Value} {ps : List ByteArray} (s : StrSl h v ps) (hl : (inter ps).length ≤ 100000000) (hn : ps.length ≤ 100000000) : Meets kon 31 [v] h fun u h' => u = .string (join ps) ∧ h' = h := by
  refine Meets.mk rfl (by kernel_rfl) Tryd.func31 rfl (congrArg Array.toList Tryd.results31) ?_
  have la := s.len
  cases hps : ps with
  | nil =>
    subst hps
    simp only [evr, nextP_norm, evd, P_make, kMk_eq, kMk2_eq, beq_self_eq_true, mkRow, cond_true, cond_false, and_true, true_and, Nat.reduceEqDiff, reduceIte, Nat.reduceAdd, Int.reduceBNe, Int.reduceBEq, Int.reduceLT, Int.reduceLE, Int.reduceEq, decide_true, decide_false, Nat.zero_add, Nat.add_zero, Nat.mul_one, Int.toNat_natCast, Option.bind_some, Option.map_some, onSome_some, Tr.get_set, Tr.ofList, evBin_lss, evBin_gtr, evBin_leq, evBin_geq, evBin_eql, evBin_neq, evBin_add, evBin_sub, evBin_eqS, evBin_neS, L_slice, slotAt, Bool.not_true, Bool.not_false, List.getElem?_toArray, List.getElem?_cons_succ, List.getElem?_cons_zero, cellAt_eq, rowOb_rw, rowOb_ro, opt_none, opt_some, List.append_eq, List.cons_append, List.nil_append, typ1, typ2, typ3, typ4, typ5, typ6, typ7, la, List.length_nil, Int.natCast_zero]
    rfl
  | cons p0 qs =>
    rw [← hps]
    have e1 : ((ps.length : Int) == 0) = false := by rw [hps]; simp; omega
    have ht : (tailJ ps).length ≤ 100000001 := by rw [hps, tailJ_inter, ← hps]; simp; omega
    simp only [evr, nextP_norm, evd, P_make, kMk_eq, kMk2_eq, beq_self_eq_true, mkRow, cond_true, cond_false, and_true, true_and, Nat.reduceEqDiff, reduceIte, Nat.reduceAdd, Int.reduceBNe, Int.reduceBEq, Int.reduceLT, Int.reduceLE, Int.reduceEq, decide_true, decide_false, Nat.zero_add, Nat.add_zero, Nat.mul_one, Int.toNat_natCast, Option.bind_some, Option.map_some, onSome_some, Tr.get_set, Tr.ofList, evBin_lss, evBin_gtr, evBin_leq, evBin_geq, evBin_eql, evBin_neq, evBin_add, evBin_sub, evBin_eqS, evBin_neS, L_slice, slotAt, Bool.not_true, Bool.not_false, List.getElem?_toArray, List.getElem?_cons_succ, List.getElem?_cons_zero, cellAt_eq, rowOb_rw, rowOb_ro, opt_none, opt_some, List.append_eq, List.cons_append, List.nil_append, typ1, typ2, typ3, typ4, typ5, typ6, typ7, la, e1]
    refine Wp_loop (fun k fr h' => h' = h ∧ ∃ i : Nat, k = ps.length - i ∧ i ≤ ps.length ∧ fr.get 0 = some v ∧ fr.get 3 = some (.string (ofL (tailJ (ps.take i)))) ∧ fr.get 4 = some (.int .i64 i)) ps.length ⟨rfl, 0, rfl, Nat.zero_le _, ?_, ?_, ?_⟩ ?_
    · simp only [evr, nextP_norm, evd, P_make, kMk_eq, kMk2_eq, beq_self_eq_true, mkRow, cond_true, cond_false, and_true, true_and, Nat.reduceEqDiff, reduceIte, Nat.reduceAdd, Int.reduceBNe, Int.reduceBEq, Int.reduceLT, Int.reduceLE, Int.reduceEq, decide_true, decide_false, Nat.zero_add, Nat.add_zero, Nat.mul_one, Int.toNat_natCast, Option.bind_some, Option.map_some, onSome_some, Tr.get_set, Tr.ofList, evBin_lss, evBin_gtr, evBin_leq, evBin_geq, evBin_eql, evBin_neq, evBin_add, evBin_sub, evBin_eqS, evBin_neS, L_slice, slotAt, Bool.not_true, Bool.not_false, List.getElem?_toArray, List.getElem?_cons_succ, List.getElem?_cons_zero, cellAt_eq, rowOb_rw, rowOb_ro, opt_none, opt_some, List.append_eq, List.cons_append, List.nil_append, typ1, typ2, typ3, typ4, typ5, typ6, typ7]
    · simp only [evr, nextP_norm, evd, P_make, kMk_eq, kMk2_eq, beq_self_eq_true, mkRow, cond_true, cond_false, and_true, true_and, Nat.reduceEqDiff, reduceIte, Nat.reduceAdd, Int.reduceBNe, Int.reduceBEq, Int.reduceLT, Int.reduceLE, Int.reduceEq, decide_true, decide_false, Nat.zero_add, Nat.add_zero, Nat.mul_one, Int.toNat_natCast, Option.bind_some, Option.map_some, onSome_some, Tr.get_set, Tr.ofList, evBin_lss, evBin_gtr, evBin_leq, evBin_geq, evBin_eql, evBin_neq, evBin_add, evBin_sub, evBin_eqS, evBin_neS, L_slice, slotAt, Bool.not_true, Bool.not_false, List.getElem?_toArray, List.getElem?_cons_succ, List.getElem?_cons_zero, cellAt_eq, rowOb_rw, rowOb_ro, opt_none, opt_some, List.append_eq, List.cons_append, List.nil_append, typ1, typ2, typ3, typ4, typ5, typ6, typ7]
      rfl
    · simp only [evr, nextP_norm, evd, P_make, kMk_eq, kMk2_eq, beq_self_eq_true, mkRow, cond_true, cond_false, and_true, true_and, Nat.reduceEqDiff, reduceIte, Nat.reduceAdd, Int.reduceBNe, Int.reduceBEq, Int.reduceLT, Int.reduceLE, Int.reduceEq, decide_true, decide_false, Nat.zero_add, Nat.add_zero, Nat.mul_one, Int.toNat_natCast, Option.bind_some, Option.map_some, onSome_some, Tr.get_set, Tr.ofList, evBin_lss, evBin_gtr, evBin_leq, evBin_geq, evBin_eql, evBin_neq, evBin_add, evBin_sub, evBin_eqS, evBin_neS, L_slice, slotAt, Bool.not_true, Bool.not_false, List.getElem?_toArray, List.getElem?_cons_succ, List.getElem?_cons_zero, cellAt_eq, rowOb_rw, rowOb_ro, opt_none, opt_some, List.append_eq, List.cons_append, List.nil_append, typ1, typ2, typ3, typ4, typ5, typ6, typ7]
      rfl
    rintro k fr h' ⟨rfl, i, rfl, hi, g0, g3, g4⟩
    by_cases h3 : i < ps.length
    · have e3 : decide ((i : Int) < ps.length) = true := by simp; omega
      obtain ⟨x, hx⟩ : ∃ x, ps[i]? = some x := ⟨_, List.getElem?_eq_getElem h3⟩
      obtain ⟨p, i1, l1⟩ := s.at hx
      have hts := tailJ_le ps (i + 1)
      rw [tailJ_take hx] at hts
      simp only [List.length_append, List.length_cons] at hts
      have hx0 : x.size = x.data.toList.length := size_eq x
      have z1 : ((ofL (tailJ (ps.take i))).size : Int) + (ByteArray.mk #[62]).size ≤ 9223372036854775807 := by rw [stroke_size, size_eq, ofL_data]; omega
      have a1 : ofL (tailJ (ps.take i)) ++ (ByteArray.mk #[62]) = ofL (tailJ (ps.take i) ++ [62]) := by apply ba_ext; simp [ofL]
      have z2 : ((ofL (tailJ (ps.take i) ++ [62])).size : Int) + x.size ≤ 9223372036854775807 := by rw [size_eq (ofL _), ofL_data, List.length_append]; simp only [List.length_singleton]; omega
      have a2 : ofL (tailJ (ps.take i) ++ [62]) ++ x = ofL (tailJ (ps.take (i + 1))) := by rw [tailJ_take hx]; apply ba_ext; simp [ofL]
      simp only [evr, nextP_norm, evd, P_make, kMk_eq, kMk2_eq, beq_self_eq_true, mkRow, cond_true, cond_false, and_true, true_and, Nat.reduceEqDiff, reduceIte, Nat.reduceAdd, Int.reduceBNe, Int.reduceBEq, Int.reduceLT, Int.reduceLE, Int.reduceEq, decide_true, decide_false, Nat.zero_add, Nat.add_zero, Nat.mul_one, Int.toNat_natCast, Option.bind_some, Option.map_some, onSome_some, Tr.get_set, Tr.ofList, evBin_lss, evBin_gtr, evBin_leq, evBin_geq, evBin_eql, evBin_neq, evBin_add, evBin_sub, evBin_eqS, evBin_neS, L_slice, slotAt, Bool.not_true, Bool.not_false, List.getElem?_toArray, List.getElem?_cons_succ, List.getElem?_cons_zero, cellAt_eq, rowOb_rw, rowOb_ro, opt_none, opt_some, List.append_eq, List.cons_append, List.nil_append, typ1, typ2, typ3, typ4, typ5, typ6, typ7, la, g0, g3, g4, e3, evBin_addS z1, a1, i1, l1, evBin_addS z2, a2, wrap64 (x := (i : Int) + 1) (by omega) (by omega)]
      exact ⟨ps.length - (i + 1), by omega, i + 1, rfl, by omega, rfl, rfl⟩
    · have e3 : decide ((i : Int) < ps.length) = false := by simp; omega
      simp only [evr, nextP_norm, evd, P_make, kMk_eq, kMk2_eq, beq_self_eq_true, mkRow, cond_true, cond_false, and_true, true_and, Nat.reduceEqDiff, reduceIte, Nat.reduceAdd, Int.reduceBNe, Int.reduceBEq, Int.reduceLT, Int.reduceLE, Int.reduceEq, decide_true, decide_false, Nat.zero_add, Nat.add_zero, Nat.mul_one, Int.toNat_natCast, Option.bind_some, Option.map_some, onSome_some, Tr.get_set, Tr.ofList, evBin_lss, evBin_gtr, evBin_leq, evBin_geq, evBin_eql, evBin_neq, evBin_add, evBin_sub, evBin_eqS, evBin_neS, L_slice, slotAt, Bool.not_true, Bool.not_false, List.getElem?_toArray, List.getElem?_cons_succ, List.getElem?_cons_zero, cellAt_eq, rowOb_rw, rowOb_ro, opt_none, opt_some, List.append_eq, List.cons_append, List.nil_append, typ1, typ2, typ3, typ4, typ5, typ6, typ7, la, g0, g3, g4, e3]
      rw [List.take_of_length_le (by omega), hps, tailJ_inter]
      rfl
end Go.Proofs.YtncmgiddcefpcaaDoor
