/- NamesJoin is true at every list of texts that is not too long: the walk of the law's own code over the contracts. -/
import Derived.Test.YtncmgiddcefpcaaDoorLawNamesParent
import Derived.Test.YtncmgiddcefpcaaDoorEvRd
import Derived.Test.YtncmgiddcefpcaaDoorRows
namespace Go.Proofs.YtncmgiddcefpcaaDoor
open Go Go.Ev Go.Con
set_option linter.unusedSimpArgs false
set_option linter.unusedVariables false
set_option maxRecDepth 100000

theorem join_size {p : ByteArray} {ps : List ByteArray} : (join (p :: ps)).size = (tailJ (p :: ps)).length := by
  rw [size_eq, join_data, tailJ_inter]
theorem split_join_no {ps : List ByteArray} (h : ps.all mayN = true) (hbad : 16 < ps.length ∨ 168 < (tailJ ps).length) : split (join ps) = none := by
  cases ps with
  | nil => simp [tailJ] at hbad
  | cons p ps =>
    rw [← join_size] at hbad
    by_cases hz : 168 < (join (p :: ps)).size
    · exact split_long hz
    · have h16 : 16 < (p :: ps).length := by omega
      rw [split_at (join_data _) (inter_ne (by simp at h; exact h.1)) (by omega)]
      have hc := cut_inter h
      have hl : (cut (inter (p :: ps))).length = (p :: ps).length := by have := congrArg List.length hc; rwa [List.length_map] at this
      rw [if_pos (by omega)]

theorem tailJ_bound {ps : List ByteArray} (h : ps.all mayN = true) : (tailJ ps).length ≤ 33 * ps.length := by
  induction ps with
  | nil => simp [tailJ]
  | cons p ps ih =>
    simp only [List.all_cons, Bool.and_eq_true] at h
    have h1 := ih h.2
    have h2 := (may_pos h.1).2
    rw [size_eq] at h2
    have e : tailJ (p :: ps) = (62 :: p.data.toList) ++ tailJ ps := by simp [tailJ]
    rw [e, List.length_append, List.length_cons, List.length_cons]; omega
theorem namesJoin_true (v : Value) (l : List ByteArray) (h : Hp) (hv : StrSl h v l) (hl : l.length ≤ 2000000) : Meets kon 4 [v] h fun u _ => u = .bool true := by
  refine Meets.mk rfl (by kernel_rfl) Tryd.func4 rfl (congrArg Array.toList Tryd.results4) ?_
  have aw := awake_call (f := 22) (by kernel_rfl) h
  have la := hv.len
  simp only [evr, nextP_norm, evd, P_make, kMk_eq, kMk2_eq, beq_self_eq_true, mkRow, cond_true, cond_false, and_true, true_and, Nat.reduceEqDiff, reduceIte, Nat.reduceAdd, Int.reduceBNe, Int.reduceBEq, Int.reduceLT, Int.reduceLE, Int.reduceEq, decide_true, decide_false, Nat.zero_add, Nat.add_zero, Nat.mul_one, Int.toNat_natCast, Option.bind_some, Option.map_some, onSome_some, Tr.get_set, Tr.ofList, evBin_lss, evBin_gtr, evBin_leq, evBin_geq, evBin_eql, evBin_neq, evBin_add, evBin_sub, evBin_eqS, evBin_neS, L_slice, slotAt, Bool.not_true, Bool.not_false, List.getElem?_toArray, List.getElem?_cons_succ, List.getElem?_cons_zero, cellAt_eq, rowOb_rw, rowOb_ro, opt_none, opt_some, List.append_eq, List.cons_append, List.nil_append, typ1, typ2, typ3, typ4, typ5, typ6, typ7, aw]
  refine Wp_loop (fun k fr h' => h' = h ∧ ∃ i : Nat, k = l.length - i ∧ i ≤ l.length ∧ fr.get 0 = some v ∧ fr.get 3 = some (.int .i64 ((tailJ (l.take i)).length : Nat)) ∧ fr.get 4 = some (.int .i64 i) ∧ (l.take i).all mayN = true) l.length ⟨rfl, 0, rfl, Nat.zero_le _, ?_, ?_, ?_, rfl⟩ ?_
  · simp only [evr, nextP_norm, evd, P_make, kMk_eq, kMk2_eq, beq_self_eq_true, mkRow, cond_true, cond_false, and_true, true_and, Nat.reduceEqDiff, reduceIte, Nat.reduceAdd, Int.reduceBNe, Int.reduceBEq, Int.reduceLT, Int.reduceLE, Int.reduceEq, decide_true, decide_false, Nat.zero_add, Nat.add_zero, Nat.mul_one, Int.toNat_natCast, Option.bind_some, Option.map_some, onSome_some, Tr.get_set, Tr.ofList, evBin_lss, evBin_gtr, evBin_leq, evBin_geq, evBin_eql, evBin_neq, evBin_add, evBin_sub, evBin_eqS, evBin_neS, L_slice, slotAt, Bool.not_true, Bool.not_false, List.getElem?_toArray, List.getElem?_cons_succ, List.getElem?_cons_zero, cellAt_eq, rowOb_rw, rowOb_ro, opt_none, opt_some, List.append_eq, List.cons_append, List.nil_append, typ1, typ2, typ3, typ4, typ5, typ6, typ7]
  · simp only [evr, nextP_norm, evd, P_make, kMk_eq, kMk2_eq, beq_self_eq_true, mkRow, cond_true, cond_false, and_true, true_and, Nat.reduceEqDiff, reduceIte, Nat.reduceAdd, Int.reduceBNe, Int.reduceBEq, Int.reduceLT, Int.reduceLE, Int.reduceEq, decide_true, decide_false, Nat.zero_add, Nat.add_zero, Nat.mul_one, Int.toNat_natCast, Option.bind_some, Option.map_some, onSome_some, Tr.get_set, Tr.ofList, evBin_lss, evBin_gtr, evBin_leq, evBin_geq, evBin_eql, evBin_neq, evBin_add, evBin_sub, evBin_eqS, evBin_neS, L_slice, slotAt, Bool.not_true, Bool.not_false, List.getElem?_toArray, List.getElem?_cons_succ, List.getElem?_cons_zero, cellAt_eq, rowOb_rw, rowOb_ro, opt_none, opt_some, List.append_eq, List.cons_append, List.nil_append, typ1, typ2, typ3, typ4, typ5, typ6, typ7]
    rfl
  · simp only [evr, nextP_norm, evd, P_make, kMk_eq, kMk2_eq, beq_self_eq_true, mkRow, cond_true, cond_false, and_true, true_and, Nat.reduceEqDiff, reduceIte, Nat.reduceAdd, Int.reduceBNe, Int.reduceBEq, Int.reduceLT, Int.reduceLE, Int.reduceEq, decide_true, decide_false, Nat.zero_add, Nat.add_zero, Nat.mul_one, Int.toNat_natCast, Option.bind_some, Option.map_some, onSome_some, Tr.get_set, Tr.ofList, evBin_lss, evBin_gtr, evBin_leq, evBin_geq, evBin_eql, evBin_neq, evBin_add, evBin_sub, evBin_eqS, evBin_neS, L_slice, slotAt, Bool.not_true, Bool.not_false, List.getElem?_toArray, List.getElem?_cons_succ, List.getElem?_cons_zero, cellAt_eq, rowOb_rw, rowOb_ro, opt_none, opt_some, List.append_eq, List.cons_append, List.nil_append, typ1, typ2, typ3, typ4, typ5, typ6, typ7]
    rfl
  rintro k fr h' ⟨rfl, i, rfl, hi, g0, g3, g4, hp⟩
  have hti : (tailJ (l.take i)).length ≤ 33 * i := by
    have h1 := tailJ_bound hp
    have h2 : (l.take i).length ≤ i := List.length_take_le _ _
    omega
  by_cases h3 : i < l.length
  · have e3 : decide ((i : Int) < l.length) = true := by simp; omega
    obtain ⟨x, hx⟩ : ∃ x, l[i]? = some x := ⟨_, List.getElem?_eq_getElem h3⟩
    obtain ⟨p, ha, hld⟩ := hv.at hx
    cases hm : mayN x with
    | false => simp only [evr, nextP_norm, evd, P_make, kMk_eq, kMk2_eq, beq_self_eq_true, mkRow, cond_true, cond_false, and_true, true_and, Nat.reduceEqDiff, reduceIte, Nat.reduceAdd, Int.reduceBNe, Int.reduceBEq, Int.reduceLT, Int.reduceLE, Int.reduceEq, decide_true, decide_false, Nat.zero_add, Nat.add_zero, Nat.mul_one, Int.toNat_natCast, Option.bind_some, Option.map_some, onSome_some, Tr.get_set, Tr.ofList, evBin_lss, evBin_gtr, evBin_leq, evBin_geq, evBin_eql, evBin_neq, evBin_add, evBin_sub, evBin_eqS, evBin_neS, L_slice, slotAt, Bool.not_true, Bool.not_false, List.getElem?_toArray, List.getElem?_cons_succ, List.getElem?_cons_zero, cellAt_eq, rowOb_rw, rowOb_ro, opt_none, opt_some, List.append_eq, List.cons_append, List.nil_append, typ1, typ2, typ3, typ4, typ5, typ6, typ7, la, g0, g3, g4, e3, ha, hld, (nameMay_spec x h').call, hm]
    | true =>
      have hxs := may_pos hm
      have w1 : IntKind.i64.wrap (((tailJ (l.take i)).length : Int) + 1) = ((tailJ (l.take i)).length : Int) + 1 := wrap64 (by omega) (by omega)
      have w2 : IntKind.i64.wrap (((tailJ (l.take i)).length : Int) + 1 + x.size) = ((tailJ (l.take i)).length : Int) + 1 + x.size := wrap64 (by omega) (by omega)
      simp only [evr, nextP_norm, evd, P_make, kMk_eq, kMk2_eq, beq_self_eq_true, mkRow, cond_true, cond_false, and_true, true_and, Nat.reduceEqDiff, reduceIte, Nat.reduceAdd, Int.reduceBNe, Int.reduceBEq, Int.reduceLT, Int.reduceLE, Int.reduceEq, decide_true, decide_false, Nat.zero_add, Nat.add_zero, Nat.mul_one, Int.toNat_natCast, Option.bind_some, Option.map_some, onSome_some, Tr.get_set, Tr.ofList, evBin_lss, evBin_gtr, evBin_leq, evBin_geq, evBin_eql, evBin_neq, evBin_add, evBin_sub, evBin_eqS, evBin_neS, L_slice, slotAt, Bool.not_true, Bool.not_false, List.getElem?_toArray, List.getElem?_cons_succ, List.getElem?_cons_zero, cellAt_eq, rowOb_rw, rowOb_ro, opt_none, opt_some, List.append_eq, List.cons_append, List.nil_append, typ1, typ2, typ3, typ4, typ5, typ6, typ7, la, g0, g3, g4, e3, ha, hld, (nameMay_spec x h').call, hm, w1, w2, wrap64 (x := (i : Int) + 1) (by omega) (by omega)]
      refine ⟨l.length - (i + 1), by omega, i + 1, rfl, by omega, ?_, rfl, ?_⟩
      · rw [tailJ_take hx, List.length_append, List.length_cons, ← size_eq]
        congr 2; omega
      · rw [List.take_add_one, hx, List.all_append, hp]; simp [hm]
  · have e3 : decide ((i : Int) < l.length) = false := by simp; omega
    rw [List.take_of_length_le (by omega)] at hp g3 hti
    have hil : (inter l).length ≤ 100000000 := by have := inter_le hp; omega
    simp only [evr, nextP_norm, evd, P_make, kMk_eq, kMk2_eq, beq_self_eq_true, mkRow, cond_true, cond_false, and_true, true_and, Nat.reduceEqDiff, reduceIte, Nat.reduceAdd, Int.reduceBNe, Int.reduceBEq, Int.reduceLT, Int.reduceLE, Int.reduceEq, decide_true, decide_false, Nat.zero_add, Nat.add_zero, Nat.mul_one, Int.toNat_natCast, Option.bind_some, Option.map_some, onSome_some, Tr.get_set, Tr.ofList, evBin_lss, evBin_gtr, evBin_leq, evBin_geq, evBin_eql, evBin_neq, evBin_add, evBin_sub, evBin_eqS, evBin_neS, L_slice, slotAt, Bool.not_true, Bool.not_false, List.getElem?_toArray, List.getElem?_cons_succ, List.getElem?_cons_zero, cellAt_eq, rowOb_rw, rowOb_ro, opt_none, opt_some, List.append_eq, List.cons_append, List.nil_append, typ1, typ2, typ3, typ4, typ5, typ6, typ7, la, g0, g3, g4, e3, (join_spec hv hil (by omega)).call]
    refine callP_meets (split_spec (join l) h') ?_
    rintro u h2 hu
    have hv2 : StrSl h2 v l := SlAt.keep hv hu.1
    have la2 := hv2.len
    obtain ⟨hk, hw⟩ := hu
    by_cases hbad : 16 < l.length ∨ 168 < (tailJ l).length
    · rw [split_join_no hp hbad] at hw
      simp only at hw
      subst hw
      have ln : evLen kon.P 23 (.slice none 0 0) = some (.int .i64 0) := by kernel_rfl
      rcases Bool.eq_false_or_eq_true (decide ((16 : Int) < l.length)) with e4 | e4
      · simp only [evr, nextP_norm, evd, P_make, kMk_eq, kMk2_eq, beq_self_eq_true, mkRow, cond_true, cond_false, and_true, true_and, Nat.reduceEqDiff, reduceIte, Nat.reduceAdd, Int.reduceBNe, Int.reduceBEq, Int.reduceLT, Int.reduceLE, Int.reduceEq, decide_true, decide_false, Nat.zero_add, Nat.add_zero, Nat.mul_one, Int.toNat_natCast, Option.bind_some, Option.map_some, onSome_some, Tr.get_set, Tr.ofList, evBin_lss, evBin_gtr, evBin_leq, evBin_geq, evBin_eql, evBin_neq, evBin_add, evBin_sub, evBin_eqS, evBin_neS, L_slice, slotAt, Bool.not_true, Bool.not_false, List.getElem?_toArray, List.getElem?_cons_succ, List.getElem?_cons_zero, cellAt_eq, rowOb_rw, rowOb_ro, opt_none, opt_some, List.append_eq, List.cons_append, List.nil_append, typ1, typ2, typ3, typ4, typ5, typ6, typ7, la2, g0, g3, e4, ln]
      · have e5 : decide ((168 : Int) < (tailJ l).length) = true := by simp at e4 ⊢; omega
        simp only [evr, nextP_norm, evd, P_make, kMk_eq, kMk2_eq, beq_self_eq_true, mkRow, cond_true, cond_false, and_true, true_and, Nat.reduceEqDiff, reduceIte, Nat.reduceAdd, Int.reduceBNe, Int.reduceBEq, Int.reduceLT, Int.reduceLE, Int.reduceEq, decide_true, decide_false, Nat.zero_add, Nat.add_zero, Nat.mul_one, Int.toNat_natCast, Option.bind_some, Option.map_some, onSome_some, Tr.get_set, Tr.ofList, evBin_lss, evBin_gtr, evBin_leq, evBin_geq, evBin_eql, evBin_neq, evBin_add, evBin_sub, evBin_eqS, evBin_neS, L_slice, slotAt, Bool.not_true, Bool.not_false, List.getElem?_toArray, List.getElem?_cons_succ, List.getElem?_cons_zero, cellAt_eq, rowOb_rw, rowOb_ro, opt_none, opt_some, List.append_eq, List.cons_append, List.nil_append, typ1, typ2, typ3, typ4, typ5, typ6, typ7, la2, g0, g3, e4, e5, ln]
    · have e4 : decide ((16 : Int) < l.length) = false := by simp; omega
      have e5 : decide ((168 : Int) < (tailJ l).length) = false := by simp; omega
      have hz : (join l).size ≤ 168 := by
        cases l with
        | nil => decide
        | cons p ps => rw [join_size]; omega
      rw [split_join_of hp (by omega) hz] at hw
      simp only at hw
      obtain ⟨sl, rfl, g⟩ := hw
      have e6 : (decide (join l = (⟨#[62]⟩ : ByteArray))) = ((l.length : Int) == 0) := by
        rw [Bool.eq_iff_iff, decide_eq_true_eq, join_root hp, beq_iff_eq]
        constructor
        · rintro rfl; rfl
        · intro e; exact List.length_eq_zero_iff.1 (by omega)
      simp only [evr, nextP_norm, evd, P_make, kMk_eq, kMk2_eq, beq_self_eq_true, mkRow, cond_true, cond_false, and_true, true_and, Nat.reduceEqDiff, reduceIte, Nat.reduceAdd, Int.reduceBNe, Int.reduceBEq, Int.reduceLT, Int.reduceLE, Int.reduceEq, decide_true, decide_false, Nat.zero_add, Nat.add_zero, Nat.mul_one, Int.toNat_natCast, Option.bind_some, Option.map_some, onSome_some, Tr.get_set, Tr.ofList, evBin_lss, evBin_gtr, evBin_leq, evBin_geq, evBin_eql, evBin_neq, evBin_add, evBin_sub, evBin_eqS, evBin_neS, L_slice, slotAt, Bool.not_true, Bool.not_false, List.getElem?_toArray, List.getElem?_cons_succ, List.getElem?_cons_zero, cellAt_eq, rowOb_rw, rowOb_ro, opt_none, opt_some, List.append_eq, List.cons_append, List.nil_append, typ1, typ2, typ3, typ4, typ5, typ6, typ7, la2, g0, g3, e4, e5, (same_spec hv2 g.slAt (by omega)).call, e6]

/-! ### the law at every list that is not too great -/
theorem bulk_one {H : Type} (d : DataW H) : 1 ≤ Rows.uptoBulk d := by
  cases d with
  | lit l => cases l <;> simp [Rows.uptoBulk]
  | nil => simp [Rows.uptoBulk]
  | ptr d => simp [Rows.uptoBulk]
  | slice elems spare => simp [Rows.uptoBulk]
  | agg parts => simp [Rows.uptoBulk]
  | iface t d => simp [Rows.uptoBulk]
  | map entries => simp [Rows.uptoBulk]
  | held h => simp [Rows.uptoBulk]
theorem bulk_len {H : Type} (l : List (DataW H)) : l.length ≤ Rows.uptoBulkAll l := by
  induction l with
  | nil => simp [Rows.uptoBulkAll]
  | cons x r ih => have := bulk_one x; simp only [Rows.uptoBulkAll, List.length_cons]; omega
theorem bulk_slice {H : Type} (elems spare : List (DataW H)) : elems.length ≤ Rows.uptoBulk (.slice elems spare) := by
  have h1 := bulk_len elems
  simp only [Rows.uptoBulk]
  omega
theorem absC_len {N : Nat} {a x : Option Addr} {l c k d : Nat} (h : absC N (.slice a l c) = some (.slice x k d)) : k = l := by
  unfold absC at h
  split at h
  case h_10 b o l' c' _ heq =>
    cases heq
    cases hd : (decide (b < N) && decide (l ≤ c)) <;> rw [hd] at h <;> cases h
    rfl
  case h_9 heq =>
    cases heq
    cases hd : decide (0 < N) <;> rw [hd] at h <;> cases h
    rfl
  all_goals first | (simp at h; done) | skip
  all_goals first | (rename_i heq; cases heq; done) | (rename_i heq; cases heq; cases h; rfl)
theorem namesJoin_law (W : World) (hsh : W.ShapedOpen Tryd.prog) {base : Nat} {v0 : Value} (o0 : Value.okWide Tryd.prog W .any base 23 v0) (r0 : RdT Tryd.prog W 23 v0.cells.toList)
    {H : Type} {enc : TypeId × Value → H} {d0 : DataW H} {p0 : List MemPlace} (hd0 : DataW.Trod enc Tryd.prog W 0 (fun _ => true) true 23 v0 d0 p0) (hk : Rows.uptoSmall H ([d0] ++ []) = true) :
    Calls Tryd.prog 4 #[v0] W fun e w' => e = .returned (.bool true) ∧ Go.RowKit.Below W.heap.size W w' := by
  obtain ⟨a, len, cap, rfl⟩ := Go.WideShapes.okWide_slice Tryd.underlying23 o0
  obtain ⟨v, v', xs, cs', hv, _, hva, hsl, hlen, hR⟩ := sl_in (α := ByteArray) (n := 1) (fun x l => l = [.string x]) (P := Tryd.prog) (W := W) (e := 9) (by kernel_rfl) (Nat.le_refl _)
    (fun l h => by obtain ⟨s, rfl, _⟩ := h.string Tryd.underlying9; exact ⟨s, [.string s], rfl, rfl⟩) (by obtain ⟨m, h⟩ := maxLen hsh; exact ⟨_, h⟩) Tryd.underlying23 r0
  have hv1 : v = .slice a len cap := by
    have : (Value.slice a len cap).cells.toList = [.slice a len cap] := rfl
    rw [this] at hv; simpa using hv.symm
  subst hv1
  have hcs : cs' = strs xs := by
    apply List.ext_getElem?
    intro i
    by_cases hi : i < xs.length
    · have h1 := hR i xs[i] (List.getElem?_eq_getElem hi)
      rw [Nat.mul_one] at h1
      have h2 : (cs'.drop i)[0]? = some (.string xs[i]) := by
        have : ((cs'.drop i).take 1)[0]? = some (.string xs[i]) := by rw [h1]; rfl
        rw [List.getElem?_take, if_pos (by omega)] at this; exact this
      rw [List.getElem?_drop, Nat.add_zero] at h2
      rw [h2]; simp [strs, List.getElem?_eq_getElem hi]
    · rw [List.getElem?_eq_none (by omega), List.getElem?_eq_none (by simp [strs]; omega)]
  subst hcs
  have hn : xs.length ≤ 2000000 := by
    obtain ⟨f, hf⟩ := hd0
    have hl : xs.length = len ∨ xs.length = 0 := by
      rcases hsl with ⟨rfl, h⟩ | ⟨b, o, k, c, all, rfl, h1, h2, h3, h4, h5⟩
      · right; have := congrArg List.length h; simpa [strs] using this
      · left
        have hk : k = len := absC_len hva
        rw [hk] at h4; simpa [strs] using h4
    rcases DataW.trod_slice Tryd.underlying23 hf with ⟨h1, h2⟩ | ⟨a', len', cap', elems, rest, n, _, h1, h2, _, _, _, h3, _⟩
    · have hz : len = 0 := by
        have : (Value.slice a len cap).cells.toList = [.slice a len cap] := rfl
        rw [this] at h1; simp at h1; exact h1.2.1
      rcases hl with hl | hl <;> omega
    · have hz : len' = len := by
        have : (Value.slice a len cap).cells.toList = [.slice a len cap] := rfl
        rw [this] at h1; simp at h1; exact h1.2.1.symm
      simp only [Prod.mk.injEq] at h2
      have hb : Rows.uptoBulkAll [d0] ≤ 1048576 := by simpa [Rows.uptoSmall] using hk
      have h4 : Rows.uptoBulk d0 ≤ 1048576 := by simp only [Rows.uptoBulkAll] at hb; omega
      rw [h2.1] at h4
      have h5 := bulk_slice (elems.map (·.1)) (rest.map (·.1))
      rw [List.length_map] at h5
      rcases hl with hl | hl <;> omega
  exact open_call (kon_from hsh) kon_mix (args := [.slice a len cap]) (abs := [v']) (by simp [absA, absV, hva]) (namesJoin_true v' xs _ hsl hn)
end Go.Proofs.YtncmgiddcefpcaaDoor
