/- NamesSplit is true at every text: the walk of the law's own code over the contracts. -/
import Derived.Test.YtncmgiddcefpcaaDoorConF
namespace Go.Proofs.YtncmgiddcefpcaaDoor
open Go Go.Ev Go.Con
set_option linter.unusedSimpArgs false
set_option linter.unusedVariables false
set_option maxRecDepth 100000

theorem namesSplit_true (s : ByteArray) (h : Hp) : Meets kon 3 [.string s] h fun v _ => v = .bool true := by
  refine Meets.mk rfl (by kernel_rfl) Tryd.func3 rfl (congrArg Array.toList Tryd.results3) ?_
  have aw := awake_call (f := 22) (by kernel_rfl) h
  rcases Bool.eq_false_or_eq_true (decide ((2000 : Int) < s.size)) with e1 | e1
  · simp only [evr, nextP_norm, evd, P_make, kMk_eq, kMk2_eq, beq_self_eq_true, mkRow, cond_true, cond_false, and_true, true_and, Nat.reduceEqDiff, reduceIte, Nat.reduceAdd, Int.reduceBNe, Int.reduceBEq, Int.reduceLT, Int.reduceLE, Int.reduceEq, decide_true, decide_false, Nat.zero_add, Nat.add_zero, Nat.mul_one, Int.toNat_natCast, Option.bind_some, Option.map_some, onSome_some, Tr.get_set, Tr.ofList, evBin_lss, evBin_gtr, evBin_leq, evBin_geq, evBin_eql, evBin_neq, evBin_add, evBin_sub, evBin_eqS, evBin_neS, L_slice, slotAt, Bool.not_true, Bool.not_false, List.getElem?_toArray, List.getElem?_cons_succ, List.getElem?_cons_zero, cellAt_eq, rowOb_rw, rowOb_ro, opt_none, opt_some, List.append_eq, List.cons_append, List.nil_append, typ1, typ2, typ3, typ4, typ5, typ6, typ7, aw, e1]
  simp only [evr, nextP_norm, evd, P_make, kMk_eq, kMk2_eq, beq_self_eq_true, mkRow, cond_true, cond_false, and_true, true_and, Nat.reduceEqDiff, reduceIte, Nat.reduceAdd, Int.reduceBNe, Int.reduceBEq, Int.reduceLT, Int.reduceLE, Int.reduceEq, decide_true, decide_false, Nat.zero_add, Nat.add_zero, Nat.mul_one, Int.toNat_natCast, Option.bind_some, Option.map_some, onSome_some, Tr.get_set, Tr.ofList, evBin_lss, evBin_gtr, evBin_leq, evBin_geq, evBin_eql, evBin_neq, evBin_add, evBin_sub, evBin_eqS, evBin_neS, L_slice, slotAt, Bool.not_true, Bool.not_false, List.getElem?_toArray, List.getElem?_cons_succ, List.getElem?_cons_zero, cellAt_eq, rowOb_rw, rowOb_ro, opt_none, opt_some, List.append_eq, List.cons_append, List.nil_append, typ1, typ2, typ3, typ4, typ5, typ6, typ7, aw, e1]
  refine callP_meets (split_spec s h) ?_
  rintro v h1 ⟨k1, hv⟩
  cases hsp : split s with
  | none =>
    rw [hsp] at hv
    simp only at hv
    subst hv
    simp only [evr, nextP_norm, evd, P_make, kMk_eq, kMk2_eq, beq_self_eq_true, mkRow, cond_true, cond_false, and_true, true_and, Nat.reduceEqDiff, reduceIte, Nat.reduceAdd, Int.reduceBNe, Int.reduceBEq, Int.reduceLT, Int.reduceLE, Int.reduceEq, decide_true, decide_false, Nat.zero_add, Nat.add_zero, Nat.mul_one, Int.toNat_natCast, Option.bind_some, Option.map_some, onSome_some, Tr.get_set, Tr.ofList, evBin_lss, evBin_gtr, evBin_leq, evBin_geq, evBin_eql, evBin_neq, evBin_add, evBin_sub, evBin_eqS, evBin_neS, L_slice, slotAt, Bool.not_true, Bool.not_false, List.getElem?_toArray, List.getElem?_cons_succ, List.getElem?_cons_zero, cellAt_eq, rowOb_rw, rowOb_ro, opt_none, opt_some, List.append_eq, List.cons_append, List.nil_append, typ1, typ2, typ3, typ4, typ5, typ6, typ7]
    refine callP_meets (rsplit_spec s h1) ?_
    rintro v h2 ⟨k2, hv⟩
    rw [hsp] at hv
    simp only at hv
    subst hv
    have hn : StrSl h2 (.slice none 0 0) [] := .inl ⟨rfl, rfl⟩
    simp only [evr, nextP_norm, evd, P_make, kMk_eq, kMk2_eq, beq_self_eq_true, mkRow, cond_true, cond_false, and_true, true_and, Nat.reduceEqDiff, reduceIte, Nat.reduceAdd, Int.reduceBNe, Int.reduceBEq, Int.reduceLT, Int.reduceLE, Int.reduceEq, decide_true, decide_false, Nat.zero_add, Nat.add_zero, Nat.mul_one, Int.toNat_natCast, Option.bind_some, Option.map_some, onSome_some, Tr.get_set, Tr.ofList, evBin_lss, evBin_gtr, evBin_leq, evBin_geq, evBin_eql, evBin_neq, evBin_add, evBin_sub, evBin_eqS, evBin_neS, L_slice, slotAt, Bool.not_true, Bool.not_false, List.getElem?_toArray, List.getElem?_cons_succ, List.getElem?_cons_zero, cellAt_eq, rowOb_rw, rowOb_ro, opt_none, opt_some, List.append_eq, List.cons_append, List.nil_append, typ1, typ2, typ3, typ4, typ5, typ6, typ7, (same_spec hn hn (by simp)).call, (may_spec s h2).call, (nameMay_spec s h2).call, (user_spec s h2).call, (userMay_spec s h2).call]
    refine callP_meets (parent_spec s h2) ?_
    rintro v h3 ⟨k3, hv⟩
    rw [hsp] at hv
    simp only at hv
    subst hv
    simp only [evr, nextP_norm, evd, P_make, kMk_eq, kMk2_eq, beq_self_eq_true, mkRow, cond_true, cond_false, and_true, true_and, Nat.reduceEqDiff, reduceIte, Nat.reduceAdd, Int.reduceBNe, Int.reduceBEq, Int.reduceLT, Int.reduceLE, Int.reduceEq, decide_true, decide_false, Nat.zero_add, Nat.add_zero, Nat.mul_one, Int.toNat_natCast, Option.bind_some, Option.map_some, onSome_some, Tr.get_set, Tr.ofList, evBin_lss, evBin_gtr, evBin_leq, evBin_geq, evBin_eql, evBin_neq, evBin_add, evBin_sub, evBin_eqS, evBin_neS, L_slice, slotAt, Bool.not_true, Bool.not_false, List.getElem?_toArray, List.getElem?_cons_succ, List.getElem?_cons_zero, cellAt_eq, rowOb_rw, rowOb_ro, opt_none, opt_some, List.append_eq, List.cons_append, List.nil_append, typ1, typ2, typ3, typ4, typ5, typ6, typ7]
  | some ps =>
    rw [hsp] at hv
    simp only at hv
    obtain ⟨sl, rfl, g1⟩ := hv
    simp only [evr, nextP_norm, evd, P_make, kMk_eq, kMk2_eq, beq_self_eq_true, mkRow, cond_true, cond_false, and_true, true_and, Nat.reduceEqDiff, reduceIte, Nat.reduceAdd, Int.reduceBNe, Int.reduceBEq, Int.reduceLT, Int.reduceLE, Int.reduceEq, decide_true, decide_false, Nat.zero_add, Nat.add_zero, Nat.mul_one, Int.toNat_natCast, Option.bind_some, Option.map_some, onSome_some, Tr.get_set, Tr.ofList, evBin_lss, evBin_gtr, evBin_leq, evBin_geq, evBin_eql, evBin_neq, evBin_add, evBin_sub, evBin_eqS, evBin_neS, L_slice, slotAt, Bool.not_true, Bool.not_false, List.getElem?_toArray, List.getElem?_cons_succ, List.getElem?_cons_zero, cellAt_eq, rowOb_rw, rowOb_ro, opt_none, opt_some, List.append_eq, List.cons_append, List.nil_append, typ1, typ2, typ3, typ4, typ5, typ6, typ7]
    refine callP_meets (rsplit_spec s h1) ?_
    rintro v h2 ⟨k2, hv⟩
    rw [hsp] at hv
    simp only at hv
    obtain ⟨sl2, rfl, g2⟩ := hv
    have s1 : StrSl h2 sl ps := (SlAt.keep g1.slAt k2)
    have s2 : StrSl h2 sl2 ps := g2.slAt
    obtain ⟨hall, h16, _, _⟩ := split_all hsp
    simp only [evr, nextP_norm, evd, P_make, kMk_eq, kMk2_eq, beq_self_eq_true, mkRow, cond_true, cond_false, and_true, true_and, Nat.reduceEqDiff, reduceIte, Nat.reduceAdd, Int.reduceBNe, Int.reduceBEq, Int.reduceLT, Int.reduceLE, Int.reduceEq, decide_true, decide_false, Nat.zero_add, Nat.add_zero, Nat.mul_one, Int.toNat_natCast, Option.bind_some, Option.map_some, onSome_some, Tr.get_set, Tr.ofList, evBin_lss, evBin_gtr, evBin_leq, evBin_geq, evBin_eql, evBin_neq, evBin_add, evBin_sub, evBin_eqS, evBin_neS, L_slice, slotAt, Bool.not_true, Bool.not_false, List.getElem?_toArray, List.getElem?_cons_succ, List.getElem?_cons_zero, cellAt_eq, rowOb_rw, rowOb_ro, opt_none, opt_some, List.append_eq, List.cons_append, List.nil_append, typ1, typ2, typ3, typ4, typ5, typ6, typ7, (same_spec s1 s2 (by omega)).call, (may_spec s h2).call, (nameMay_spec s h2).call, (user_spec s h2).call, (userMay_spec s h2).call]
    refine callP_meets (parent_spec s h2) ?_
    rintro v h3 ⟨k3, hv⟩
    rw [hsp] at hv
    simp only at hv
    have s3 : StrSl h3 sl ps := SlAt.keep s1 k3
    have s4 : StrSl h3 sl2 ps := SlAt.keep s2 k3
    have hlen := s4.len
    rcases Nat.eq_zero_or_pos ps.length with h0 | h0
    · have : ps = [] := List.length_eq_zero_iff.1 h0
      subst this
      simp only [List.getLast?_nil] at hv
      subst hv
      simp only [evr, nextP_norm, evd, P_make, kMk_eq, kMk2_eq, beq_self_eq_true, mkRow, cond_true, cond_false, and_true, true_and, Nat.reduceEqDiff, reduceIte, Nat.reduceAdd, Int.reduceBNe, Int.reduceBEq, Int.reduceLT, Int.reduceLE, Int.reduceEq, decide_true, decide_false, Nat.zero_add, Nat.add_zero, Nat.mul_one, Int.toNat_natCast, Option.bind_some, Option.map_some, onSome_some, Tr.get_set, Tr.ofList, evBin_lss, evBin_gtr, evBin_leq, evBin_geq, evBin_eql, evBin_neq, evBin_add, evBin_sub, evBin_eqS, evBin_neS, L_slice, slotAt, Bool.not_true, Bool.not_false, List.getElem?_toArray, List.getElem?_cons_succ, List.getElem?_cons_zero, cellAt_eq, rowOb_rw, rowOb_ro, opt_none, opt_some, List.append_eq, List.cons_append, List.nil_append, typ1, typ2, typ3, typ4, typ5, typ6, typ7, hlen, List.length_nil, Int.natCast_zero]
    · obtain ⟨x, hx⟩ : ∃ x, ps[ps.length - 1]? = some x := ⟨_, List.getElem?_eq_getElem (by omega)⟩
      have hgl : ps.getLast? = some x := by rw [List.getLast?_eq_getElem?]; exact hx
      rw [hgl] at hv
      simp only at hv
      subst hv
      have e2 : ((ps.length : Int) == 0) = false := beq_eq_false_iff_ne.2 (by omega)
      have hw : IntKind.i64.wrap ((ps.length : Int) - 1) = ((ps.length - 1 : Nat) : Int) := by rw [wrap64 (by omega) (by omega)]; omega
      obtain ⟨u, hu, hus⟩ := s4.front (n := ps.length - 1) (by omega)
      rw [← List.dropLast_eq_take] at hus
      have hil := inter_le hall
      have hl0 : (inter ps.dropLast).length ≤ 100000000 := by
        have h2 : ps.dropLast.all mayN = true := by rw [List.all_eq_true] at hall ⊢; exact fun x hx => hall x ((List.dropLast_sublist ps).subset hx)
        have := inter_le h2
        rw [List.length_dropLast] at this; omega
      obtain ⟨p, ha, hld⟩ := s4.at hx
      simp only [evr, nextP_norm, evd, P_make, kMk_eq, kMk2_eq, beq_self_eq_true, mkRow, cond_true, cond_false, and_true, true_and, Nat.reduceEqDiff, reduceIte, Nat.reduceAdd, Int.reduceBNe, Int.reduceBEq, Int.reduceLT, Int.reduceLE, Int.reduceEq, decide_true, decide_false, Nat.zero_add, Nat.add_zero, Nat.mul_one, Int.toNat_natCast, Option.bind_some, Option.map_some, onSome_some, Tr.get_set, Tr.ofList, evBin_lss, evBin_gtr, evBin_leq, evBin_geq, evBin_eql, evBin_neq, evBin_add, evBin_sub, evBin_eqS, evBin_neS, L_slice, slotAt, Bool.not_true, Bool.not_false, List.getElem?_toArray, List.getElem?_cons_succ, List.getElem?_cons_zero, cellAt_eq, rowOb_rw, rowOb_ro, opt_none, opt_some, List.append_eq, List.cons_append, List.nil_append, typ1, typ2, typ3, typ4, typ5, typ6, typ7, hlen, e2, hw, hu, (rjoin_spec hus hl0 (by rw [List.length_dropLast]; omega)).call, ha, hld, (join_spec s3 (by omega) (by omega)).call, split_join hsp]
end Go.Proofs.YtncmgiddcefpcaaDoor
