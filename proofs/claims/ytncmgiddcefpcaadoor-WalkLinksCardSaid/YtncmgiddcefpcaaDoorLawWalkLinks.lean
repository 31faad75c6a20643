/- WalkLinks: the law's own code to the point where the number of links is known, then the evaluation of the rest. -/
import Derived.Test.YtncmgiddcefpcaaDoorConWa
import Derived.Test.YtncmgiddcefpcaaDoorConWb
import Derived.Test.YtncmgiddcefpcaaDoorConWc
import Derived.Test.YtncmgiddcefpcaaDoorConWd
import Derived.Test.YtncmgiddcefpcaaDoorConZ
namespace Go.Proofs.YtncmgiddcefpcaaDoor
open Go Go.Ev Go.RowKit Go.Con
set_option linter.unusedSimpArgs false
set_option linter.unusedVariables false
set_option maxRecDepth 1000000
theorem links_all (k : Nat) (hk : k ≤ 19) (b : Bool) : linksV ((1 + k : Nat) : Int) b := by
  cases b
  · match k, hk with
    | 0, _ => exact links_1f
    | 1, _ => exact links_2f
    | 2, _ => exact links_3f
    | 3, _ => exact links_4f
    | 4, _ => exact links_5f
    | 5, _ => exact links_6f
    | 6, _ => exact links_7f
    | 7, _ => exact links_8f
    | 8, _ => exact links_9f
    | 9, _ => exact links_10f
    | 10, _ => exact links_11f
    | 11, _ => exact links_12f
    | 12, _ => exact links_13f
    | 13, _ => exact links_14f
    | 14, _ => exact links_15f
    | 15, _ => exact links_16f
    | 16, _ => exact links_17f
    | 17, _ => exact links_18f
    | 18, _ => exact links_19f
    | 19, _ => exact links_20f
    | k + 20, h => omega
  · match k, hk with
    | 0, _ => exact links_1t
    | 1, _ => exact links_2t
    | 2, _ => exact links_3t
    | 3, _ => exact links_4t
    | 4, _ => exact links_5t
    | 5, _ => exact links_6t
    | 6, _ => exact links_7t
    | 7, _ => exact links_8t
    | 8, _ => exact links_9t
    | 9, _ => exact links_10t
    | 10, _ => exact links_11t
    | 11, _ => exact links_12t
    | 12, _ => exact links_13t
    | 13, _ => exact links_14t
    | 14, _ => exact links_15t
    | 15, _ => exact links_16t
    | 16, _ => exact links_17t
    | 17, _ => exact links_18t
    | 18, _ => exact links_19t
    | 19, _ => exact links_20t
    | k + 20, h => omega
set_option maxHeartbeats 4000000 in
theorem walkLinks_true (n : UInt8) (b : Bool) : Meets kon 9 [.int .u8 n.toNat, .bool b] h0 fun v _ => v = .bool true := by
  refine Meets.mk rfl (by kernel_rfl) Tryd.func9 rfl (congrArg Array.toList Tryd.results9) ?_
  have aw := awake_call (f := 42) (by kernel_rfl) h0
  have n0 := n.toNat_lt
  have wn : IntKind.i64.wrap (n.toNat : Int) = (n.toNat : Int) := wrap64 (by omega) (by omega)
  have nw := fun Q => callP_of (Q := Q) new_call
  have r20 : (n.toNat : Int).tmod 20 = ((n.toNat % 20 : Nat) : Int) := by rw [Int.tmod_eq_emod_of_nonneg (by omega)]; omega
  generalize hk : n.toNat % 20 = k at r20
  have hk39 : k ≤ 19 := by omega
  have wk : IntKind.i64.wrap (1 + (k : Int)) = ((1 + k : Nat) : Int) := by rw [wrap64 (by omega) (by omega)]; omega
  simp only [evr, evd, P_make, kMk_eq, kMk2_eq, beq_self_eq_true, mkRow, cond_true, cond_false, and_true, true_and, Nat.reduceEqDiff, reduceIte, Nat.reduceAdd, Int.reduceBNe, Int.reduceBEq, Int.reduceLT, Int.reduceLE, Int.reduceEq, decide_true, decide_false, Nat.zero_add, Nat.add_zero, Nat.mul_one, Int.toNat_natCast, Option.bind_some, Option.map_some, onSome_some, Tr.get_set, Tr.ofList, evBin_lss, evBin_gtr, evBin_leq, evBin_geq, evBin_eql, evBin_neq, evBin_add, evBin_sub, evBin_eqS, evBin_neS, L_slice, slotAt, Bool.not_true, Bool.not_false, List.getElem?_toArray, List.getElem?_cons_succ, List.getElem?_cons_zero, cellAt_eq, rowOb_rw, rowOb_ro, opt_none, opt_some, List.append_eq, List.cons_append, List.nil_append, typ1, typ2, typ3, typ4, typ5, typ6, typ7, aw, nw, wn, evBin_rem (b := 20) (by decide), r20, wk]
  rw [nextP_norm]
  simp only [evr, evd, P_make, kMk_eq, kMk2_eq, beq_self_eq_true, mkRow, cond_true, cond_false, and_true, true_and, Nat.reduceEqDiff, reduceIte, Nat.reduceAdd, Int.reduceBNe, Int.reduceBEq, Int.reduceLT, Int.reduceLE, Int.reduceEq, decide_true, decide_false, Nat.zero_add, Nat.add_zero, Nat.mul_one, Int.toNat_natCast, Option.bind_some, Option.map_some, onSome_some, Tr.get_set, Tr.ofList, evBin_lss, evBin_gtr, evBin_leq, evBin_geq, evBin_eql, evBin_neq, evBin_add, evBin_sub, evBin_eqS, evBin_neS, L_slice, slotAt, Bool.not_true, Bool.not_false, List.getElem?_toArray, List.getElem?_cons_succ, List.getElem?_cons_zero, cellAt_eq, rowOb_rw, rowOb_ro, opt_none, opt_some, List.append_eq, List.cons_append, List.nil_append, typ1, typ2, typ3, typ4, typ5, typ6, typ7, aw, nw, wn, evBin_rem (b := 20) (by decide), r20, wk]
  rw [nextP_norm]
  simp only [evr, evd, P_make, kMk_eq, kMk2_eq, beq_self_eq_true, mkRow, cond_true, cond_false, and_true, true_and, Nat.reduceEqDiff, reduceIte, Nat.reduceAdd, Int.reduceBNe, Int.reduceBEq, Int.reduceLT, Int.reduceLE, Int.reduceEq, decide_true, decide_false, Nat.zero_add, Nat.add_zero, Nat.mul_one, Int.toNat_natCast, Option.bind_some, Option.map_some, onSome_some, Tr.get_set, Tr.ofList, evBin_lss, evBin_gtr, evBin_leq, evBin_geq, evBin_eql, evBin_neq, evBin_add, evBin_sub, evBin_eqS, evBin_neS, L_slice, slotAt, Bool.not_true, Bool.not_false, List.getElem?_toArray, List.getElem?_cons_succ, List.getElem?_cons_zero, cellAt_eq, rowOb_rw, rowOb_ro, opt_none, opt_some, List.append_eq, List.cons_append, List.nil_append, typ1, typ2, typ3, typ4, typ5, typ6, typ7, aw, nw, wn, evBin_rem (b := 20) (by decide), r20, wk]
  rw [nextP_norm]
  simp only [evr, evd, P_make, kMk_eq, kMk2_eq, beq_self_eq_true, mkRow, cond_true, cond_false, and_true, true_and, Nat.reduceEqDiff, reduceIte, Nat.reduceAdd, Int.reduceBNe, Int.reduceBEq, Int.reduceLT, Int.reduceLE, Int.reduceEq, decide_true, decide_false, Nat.zero_add, Nat.add_zero, Nat.mul_one, Int.toNat_natCast, Option.bind_some, Option.map_some, onSome_some, Tr.get_set, Tr.ofList, evBin_lss, evBin_gtr, evBin_leq, evBin_geq, evBin_eql, evBin_neq, evBin_add, evBin_sub, evBin_eqS, evBin_neS, L_slice, slotAt, Bool.not_true, Bool.not_false, List.getElem?_toArray, List.getElem?_cons_succ, List.getElem?_cons_zero, cellAt_eq, rowOb_rw, rowOb_ro, opt_none, opt_some, List.append_eq, List.cons_append, List.nil_append, typ1, typ2, typ3, typ4, typ5, typ6, typ7, aw, nw, wn, evBin_rem (b := 20) (by decide), r20, wk]
  rw [nextP_norm]
  simp only [evr, evd, P_make, kMk_eq, kMk2_eq, beq_self_eq_true, mkRow, cond_true, cond_false, and_true, true_and, Nat.reduceEqDiff, reduceIte, Nat.reduceAdd, Int.reduceBNe, Int.reduceBEq, Int.reduceLT, Int.reduceLE, Int.reduceEq, decide_true, decide_false, Nat.zero_add, Nat.add_zero, Nat.mul_one, Int.toNat_natCast, Option.bind_some, Option.map_some, onSome_some, Tr.get_set, Tr.ofList, evBin_lss, evBin_gtr, evBin_leq, evBin_geq, evBin_eql, evBin_neq, evBin_add, evBin_sub, evBin_eqS, evBin_neS, L_slice, slotAt, Bool.not_true, Bool.not_false, List.getElem?_toArray, List.getElem?_cons_succ, List.getElem?_cons_zero, cellAt_eq, rowOb_rw, rowOb_ro, opt_none, opt_some, List.append_eq, List.cons_append, List.nil_append, typ1, typ2, typ3, typ4, typ5, typ6, typ7, aw, nw, wn, evBin_rem (b := 20) (by decide), r20, wk]
  rw [nextP_norm]
  exact Wp_rest (links_all k hk39 b _ _ _ _) (fun _ => rfl)
end Go.Proofs.YtncmgiddcefpcaaDoor
