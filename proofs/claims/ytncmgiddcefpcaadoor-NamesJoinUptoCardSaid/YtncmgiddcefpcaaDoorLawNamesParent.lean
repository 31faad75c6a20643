/- NamesParent is true at every text: the walk of the law's own code over the contracts. -/
import Derived.Test.YtncmgiddcefpcaaDoorConF
namespace Go.Proofs.YtncmgiddcefpcaaDoor
open Go Go.Ev Go.Con
set_option linter.unusedSimpArgs false
set_option linter.unusedVariables false
set_option maxRecDepth 100000

theorem join_data (ps : List ByteArray) : (join ps).data.toList = 62 :: inter ps := rfl
theorem may_pos {p : ByteArray} (h : mayN p = true) : 1 ≤ p.size ∧ p.size ≤ 32 := by
  simp only [mayN, plainB, Bool.and_eq_true, decide_eq_true_eq] at h
  exact h.1
theorem inter_ne {p : ByteArray} {ps : List ByteArray} (h : mayN p = true) : inter (p :: ps) ≠ [] := by
  have h1 := (may_pos h).1
  rw [size_eq] at h1
  intro e
  cases ps with
  | nil => rw [inter_len_one] at e; rw [e] at h1; simp at h1
  | cons q ps => rw [inter_cons] at e; simp at e
theorem cut_inter {p : ByteArray} {ps : List ByteArray} (h : (p :: ps).all mayN = true) : (cut (inter (p :: ps))).map ofL = p :: ps := by
  have := join_cut p.data.toList (ps.map (·.data.toList)) (fun y hy => by
    rw [List.all_eq_true] at h
    rw [← List.map_cons (f := fun x : ByteArray => x.data.toList), List.mem_map] at hy
    obtain ⟨x, hx, rfl⟩ := hy
    exact may_no (h x hx))
  rw [← List.map_cons (f := fun x : ByteArray => x.data.toList)] at this
  show (cut ([62].intercalate ((p :: ps).map fun x => x.data.toList))).map ofL = _
  rw [this, List.map_map]
  have e : (ofL ∘ fun x : ByteArray => x.data.toList) = id := by funext x; exact ofL_of x
  rw [e, List.map_id]
theorem split_join_of {ps : List ByteArray} (h : ps.all mayN = true) (h16 : ps.length ≤ 16) (hz : (join ps).size ≤ 168) : split (join ps) = some ps := by
  cases ps with
  | nil => rfl
  | cons p ps =>
    rw [split_at (join_data _) (inter_ne (by simp at h; exact h.1)) hz]
    have hc := cut_inter h
    have hl : (cut (inter (p :: ps))).length = (p :: ps).length := by have := congrArg List.length hc; rwa [List.length_map] at this
    rw [if_neg (by rw [hl]; omega), hc, if_pos h]
theorem join_snoc (ps : List ByteArray) (n : ByteArray) (h : ps ≠ []) : join (ps ++ [n]) = join ps ++ (⟨#[62]⟩ : ByteArray) ++ n := by
  apply ba_ext
  rw [join_data]
  simp only [ByteArray.data_append, Array.toList_append, join_data]
  cases ps with
  | nil => exact absurd rfl h
  | cons p ps =>
    have : ∀ (p : ByteArray) (ps : List ByteArray), inter (p :: ps ++ [n]) = inter (p :: ps) ++ 62 :: n.data.toList := by
      intro p ps
      induction ps generalizing p with
      | nil => rw [show [p] ++ [n] = [p, n] from rfl, inter_cons, inter_len_one, inter_len_one]
      | cons q ps ih => rw [show p :: q :: ps ++ [n] = p :: q :: (ps ++ [n]) from rfl, inter_cons, inter_cons, show q :: (ps ++ [n]) = q :: ps ++ [n] from rfl, ih q]; simp
    rw [this]; simp
theorem join_one (n : ByteArray) : join [n] = (⟨#[62]⟩ : ByteArray) ++ n := by
  apply ba_ext; rw [join_data, inter_len_one]; simp [ByteArray.data_append]
theorem join_root {ps : List ByteArray} (h : ps.all mayN = true) : join ps = ⟨#[62]⟩ ↔ ps = [] := by
  constructor
  · intro e
    cases ps with
    | nil => rfl
    | cons p ps =>
      have : (join (p :: ps)).data.toList = [62] := by rw [e]
      rw [join_data] at this
      exact absurd (List.cons.inj this).2 (inter_ne (by simp at h; exact h.1))
  · rintro rfl; rfl

set_option maxHeartbeats 1000000 in
theorem namesParent_true (s : ByteArray) (h : Hp) : Meets kon 6 [.string s] h fun v _ => v = .bool true := by
  refine Meets.mk rfl (by kernel_rfl) Tryd.func6 rfl (congrArg Array.toList Tryd.results6) ?_
  have aw := awake_call (f := 22) (by kernel_rfl) h
  rcases Bool.eq_false_or_eq_true (decide ((1000 : Int) < s.size)) with e1 | e1
  · simp only [evr, nextP_norm, evd, P_make, kMk_eq, kMk2_eq, beq_self_eq_true, mkRow, cond_true, cond_false, and_true, true_and, Nat.reduceEqDiff, reduceIte, Nat.reduceAdd, Int.reduceBNe, Int.reduceBEq, Int.reduceLT, Int.reduceLE, Int.reduceEq, decide_true, decide_false, Nat.zero_add, Nat.add_zero, Nat.mul_one, Int.toNat_natCast, Option.bind_some, Option.map_some, onSome_some, Tr.get_set, Tr.ofList, evBin_lss, evBin_gtr, evBin_leq, evBin_geq, evBin_eql, evBin_neq, evBin_add, evBin_sub, evBin_eqS, evBin_neS, L_slice, slotAt, Bool.not_true, Bool.not_false, List.getElem?_toArray, List.getElem?_cons_succ, List.getElem?_cons_zero, cellAt_eq, rowOb_rw, rowOb_ro, opt_none, opt_some, List.append_eq, List.cons_append, List.nil_append, typ1, typ2, typ3, typ4, typ5, typ6, typ7, aw, e1]
  simp only [evr, nextP_norm, evd, P_make, kMk_eq, kMk2_eq, beq_self_eq_true, mkRow, cond_true, cond_false, and_true, true_and, Nat.reduceEqDiff, reduceIte, Nat.reduceAdd, Int.reduceBNe, Int.reduceBEq, Int.reduceLT, Int.reduceLE, Int.reduceEq, decide_true, decide_false, Nat.zero_add, Nat.add_zero, Nat.mul_one, Int.toNat_natCast, Option.bind_some, Option.map_some, onSome_some, Tr.get_set, Tr.ofList, evBin_lss, evBin_gtr, evBin_leq, evBin_geq, evBin_eql, evBin_neq, evBin_add, evBin_sub, evBin_eqS, evBin_neS, L_slice, slotAt, Bool.not_true, Bool.not_false, List.getElem?_toArray, List.getElem?_cons_succ, List.getElem?_cons_zero, cellAt_eq, rowOb_rw, rowOb_ro, opt_none, opt_some, List.append_eq, List.cons_append, List.nil_append, typ1, typ2, typ3, typ4, typ5, typ6, typ7, aw, e1]
  refine callP_meets (parent_spec s h) ?_
  rintro v h1 ⟨k1, hv⟩
  cases hsp : split s with
  | none =>
    rw [hsp] at hv
    simp only at hv
    subst hv
    simp only [evr, nextP_norm, evd, P_make, kMk_eq, kMk2_eq, beq_self_eq_true, mkRow, cond_true, cond_false, and_true, true_and, Nat.reduceEqDiff, reduceIte, Nat.reduceAdd, Int.reduceBNe, Int.reduceBEq, Int.reduceLT, Int.reduceLE, Int.reduceEq, decide_true, decide_false, Nat.zero_add, Nat.add_zero, Nat.mul_one, Int.toNat_natCast, Option.bind_some, Option.map_some, onSome_some, Tr.get_set, Tr.ofList, evBin_lss, evBin_gtr, evBin_leq, evBin_geq, evBin_eql, evBin_neq, evBin_add, evBin_sub, evBin_eqS, evBin_neS, L_slice, slotAt, Bool.not_true, Bool.not_false, List.getElem?_toArray, List.getElem?_cons_succ, List.getElem?_cons_zero, cellAt_eq, rowOb_rw, rowOb_ro, opt_none, opt_some, List.append_eq, List.cons_append, List.nil_append, typ1, typ2, typ3, typ4, typ5, typ6, typ7]
  | some ps =>
    rw [hsp] at hv
    simp only at hv
    cases hgl : ps.getLast? with
    | none =>
      rw [hgl] at hv
      simp only at hv
      subst hv
      simp only [evr, nextP_norm, evd, P_make, kMk_eq, kMk2_eq, beq_self_eq_true, mkRow, cond_true, cond_false, and_true, true_and, Nat.reduceEqDiff, reduceIte, Nat.reduceAdd, Int.reduceBNe, Int.reduceBEq, Int.reduceLT, Int.reduceLE, Int.reduceEq, decide_true, decide_false, Nat.zero_add, Nat.add_zero, Nat.mul_one, Int.toNat_natCast, Option.bind_some, Option.map_some, onSome_some, Tr.get_set, Tr.ofList, evBin_lss, evBin_gtr, evBin_leq, evBin_geq, evBin_eql, evBin_neq, evBin_add, evBin_sub, evBin_eqS, evBin_neS, L_slice, slotAt, Bool.not_true, Bool.not_false, List.getElem?_toArray, List.getElem?_cons_succ, List.getElem?_cons_zero, cellAt_eq, rowOb_rw, rowOb_ro, opt_none, opt_some, List.append_eq, List.cons_append, List.nil_append, typ1, typ2, typ3, typ4, typ5, typ6, typ7]
    | some n =>
      rw [hgl] at hv
      simp only at hv
      subst hv
      obtain ⟨hall, h16, _, hz⟩ := split_all hsp
      have hps : ps = ps.dropLast ++ [n] := by
        have hne : ps ≠ [] := by rintro rfl; simp at hgl
        rw [List.getLast?_eq_some_getLast hne, Option.some.injEq] at hgl
        rw [← hgl, List.dropLast_concat_getLast]
      have hjs := split_join hsp
      generalize hq : ps.dropLast = qs at *
      have hallq : qs.all mayN = true := by rw [hps, List.all_append, Bool.and_eq_true] at hall; exact hall.1
      have hmn : mayN n = true := by rw [hps, List.all_append, Bool.and_eq_true] at hall; simpa using hall.2
      have hlen : ps.length = qs.length + 1 := by rw [hps]; simp
      have hjz : (join qs).size ≤ 168 := by
        rcases List.eq_nil_or_concat qs with rfl | _
        · decide
        · have : qs ≠ [] := by rintro rfl; simp_all
          rw [hps, join_snoc _ _ this] at hjs
          rw [← hjs] at hz
          have e : (join qs ++ (⟨#[62]⟩ : ByteArray) ++ n).size = (join qs).size + 1 + n.size := by rw [ByteArray.size_append, ByteArray.size_append, stroke_size]
          omega
      have hspq := split_join_of hallq (by omega) hjz
      simp only [evr, nextP_norm, evd, P_make, kMk_eq, kMk2_eq, beq_self_eq_true, mkRow, cond_true, cond_false, and_true, true_and, Nat.reduceEqDiff, reduceIte, Nat.reduceAdd, Int.reduceBNe, Int.reduceBEq, Int.reduceLT, Int.reduceLE, Int.reduceEq, decide_true, decide_false, Nat.zero_add, Nat.add_zero, Nat.mul_one, Int.toNat_natCast, Option.bind_some, Option.map_some, onSome_some, Tr.get_set, Tr.ofList, evBin_lss, evBin_gtr, evBin_leq, evBin_geq, evBin_eql, evBin_neq, evBin_add, evBin_sub, evBin_eqS, evBin_neS, L_slice, slotAt, Bool.not_true, Bool.not_false, List.getElem?_toArray, List.getElem?_cons_succ, List.getElem?_cons_zero, cellAt_eq, rowOb_rw, rowOb_ro, opt_none, opt_some, List.append_eq, List.cons_append, List.nil_append, typ1, typ2, typ3, typ4, typ5, typ6, typ7]
      refine callP_meets (split_spec s h1) ?_
      rintro v h2 ⟨k2, hv⟩
      rw [hsp] at hv
      simp only at hv
      obtain ⟨sl, rfl, g1⟩ := hv
      simp only [evr, nextP_norm, evd, P_make, kMk_eq, kMk2_eq, beq_self_eq_true, mkRow, cond_true, cond_false, and_true, true_and, Nat.reduceEqDiff, reduceIte, Nat.reduceAdd, Int.reduceBNe, Int.reduceBEq, Int.reduceLT, Int.reduceLE, Int.reduceEq, decide_true, decide_false, Nat.zero_add, Nat.add_zero, Nat.mul_one, Int.toNat_natCast, Option.bind_some, Option.map_some, onSome_some, Tr.get_set, Tr.ofList, evBin_lss, evBin_gtr, evBin_leq, evBin_geq, evBin_eql, evBin_neq, evBin_add, evBin_sub, evBin_eqS, evBin_neS, L_slice, slotAt, Bool.not_true, Bool.not_false, List.getElem?_toArray, List.getElem?_cons_succ, List.getElem?_cons_zero, cellAt_eq, rowOb_rw, rowOb_ro, opt_none, opt_some, List.append_eq, List.cons_append, List.nil_append, typ1, typ2, typ3, typ4, typ5, typ6, typ7]
      refine callP_meets (split_spec (join qs) h2) ?_
      rintro v h3 ⟨k3, hv⟩
      rw [hspq] at hv
      simp only at hv
      obtain ⟨sl2, rfl, g2⟩ := hv
      have s1 : StrSl h3 sl ps := SlAt.keep g1.slAt k3
      have s2 : StrSl h3 sl2 qs := g2.slAt
      have l1 := s1.len
      have l2 := s2.len
      have hn32 := (may_pos hmn).2
      have z1 : ((join qs).size : Int) + (ByteArray.mk #[62]).size ≤ 9223372036854775807 := by rw [stroke_size]; omega
      have z2 : ((join qs ++ (⟨#[62]⟩ : ByteArray)).size : Int) + n.size ≤ 9223372036854775807 := by
        have e : (join qs ++ (⟨#[62]⟩ : ByteArray)).size = (join qs).size + 1 := by rw [ByteArray.size_append, stroke_size]
        omega
      have z3 : ((ByteArray.mk #[62]).size : Int) + n.size ≤ 9223372036854775807 := by rw [stroke_size]; omega
      have hw : IntKind.i64.wrap ((ps.length : Int) - 1) = (qs.length : Int) := by rw [wrap64 (by omega) (by omega)]; omega
      by_cases hq0 : qs = []
      · have e2 : decide (join qs = (⟨#[62]⟩ : ByteArray)) = true := decide_eq_true ((join_root hallq).2 hq0)
        have hb : (⟨#[62]⟩ : ByteArray) ++ n = s := by rw [← hjs, hps, hq0]; exact (join_one n).symm
        simp only [evr, nextP_norm, evd, P_make, kMk_eq, kMk2_eq, beq_self_eq_true, mkRow, cond_true, cond_false, and_true, true_and, Nat.reduceEqDiff, reduceIte, Nat.reduceAdd, Int.reduceBNe, Int.reduceBEq, Int.reduceLT, Int.reduceLE, Int.reduceEq, decide_true, decide_false, Nat.zero_add, Nat.add_zero, Nat.mul_one, Int.toNat_natCast, Option.bind_some, Option.map_some, onSome_some, Tr.get_set, Tr.ofList, evBin_lss, evBin_gtr, evBin_leq, evBin_geq, evBin_eql, evBin_neq, evBin_add, evBin_sub, evBin_eqS, evBin_neS, L_slice, slotAt, Bool.not_true, Bool.not_false, List.getElem?_toArray, List.getElem?_cons_succ, List.getElem?_cons_zero, cellAt_eq, rowOb_rw, rowOb_ro, opt_none, opt_some, List.append_eq, List.cons_append, List.nil_append, typ1, typ2, typ3, typ4, typ5, typ6, typ7, evBin_addS z1, evBin_addS z2, evBin_addS z3, e2, l1, l2, hw, hb, (may_spec n h3).call, hmn]
      · have e2 : decide (join qs = (⟨#[62]⟩ : ByteArray)) = false := decide_eq_false (fun e => hq0 ((join_root hallq).1 e))
        have hb : join qs ++ (⟨#[62]⟩ : ByteArray) ++ n = s := by rw [← hjs, hps]; exact (join_snoc qs n hq0).symm
        simp only [evr, nextP_norm, evd, P_make, kMk_eq, kMk2_eq, beq_self_eq_true, mkRow, cond_true, cond_false, and_true, true_and, Nat.reduceEqDiff, reduceIte, Nat.reduceAdd, Int.reduceBNe, Int.reduceBEq, Int.reduceLT, Int.reduceLE, Int.reduceEq, decide_true, decide_false, Nat.zero_add, Nat.add_zero, Nat.mul_one, Int.toNat_natCast, Option.bind_some, Option.map_some, onSome_some, Tr.get_set, Tr.ofList, evBin_lss, evBin_gtr, evBin_leq, evBin_geq, evBin_eql, evBin_neq, evBin_add, evBin_sub, evBin_eqS, evBin_neS, L_slice, slotAt, Bool.not_true, Bool.not_false, List.getElem?_toArray, List.getElem?_cons_succ, List.getElem?_cons_zero, cellAt_eq, rowOb_rw, rowOb_ro, opt_none, opt_some, List.append_eq, List.cons_append, List.nil_append, typ1, typ2, typ3, typ4, typ5, typ6, typ7, evBin_addS z1, evBin_addS z2, e2, l1, l2, hw, hb, (may_spec n h3).call, hmn]
end Go.Proofs.YtncmgiddcefpcaaDoor
