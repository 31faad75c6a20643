/- NamesSigns is true at every input: the walk of the law's own code over the contracts. -/
import Derived.Test.YtncmgiddcefpcaaDoorLawNamesParent
namespace Go.Proofs.YtncmgiddcefpcaaDoor
open Go Go.Ev Go.Con
set_option linter.unusedSimpArgs false
set_option linter.unusedVariables false
set_option maxRecDepth 100000

def byteVs (l : List UInt8) : List Value := l.map fun b => .int .u8 (b.toNat : Int)
theorem byteVs_len (l : List UInt8) : (byteVs l).length = l.length := by simp [byteVs]
theorem toBytes_vs : ∀ l : List UInt8, toBytes (byteVs l) = some l
  | [] => rfl
  | b :: l => by
    show (toBytes (byteVs l)).map (UInt8.ofNat ((b.toNat : Int)).toNat :: ·) = _
    rw [toBytes_vs l]; simp
theorem str_vs {h : Hp} {b k : Nat} {l : List UInt8} (hg : h.get b = some (.row (byteVs l) 5 (.rw 0 []))) (hl : l.length = k) : convV kon.P 35 9 h (.slice (some ⟨b, 0, none⟩) k (2 * k)) = some (.string (ofL l)) := by
  subst hl
  have hc : evCells 1 l.length (.slice (some ⟨b, 0, none⟩) l.length (2 * l.length)) h = some (byteVs l) := by
    unfold evCells
    cases hk : (l.length * 1 == 0) with
    | true =>
      have : l = [] := List.length_eq_zero_iff.1 (by simpa using hk)
      subst this; rfl
    | false =>
      simp only [cond_false, rowOf_rw hg, Option.bind_some, byteVs_len, Nat.zero_add, Nat.mul_one, Nat.le_refl, decide_true, cond_true, List.drop_zero]
      rw [List.take_of_length_le (by rw [byteVs_len]; exact Nat.le_refl _)]
  have h1 : tSliceElem kon.P 35 = some 5 := by kernel_rfl
  have h2 : kon.P.underlying 5 = some (.int .u8) := by kernel_rfl
  have h3 : tString kon.P 9 = some true := by kernel_rfl
  refine convV_eq ?_
  simp only [bytesStr, h1, Option.bind_some, h2, h3, hc, toBytes_vs, Option.map_some]
  rfl
theorem set_vs {h : Hp} {B : Nat} {l : List UInt8} (hg : h.get B = some (.row (byteVs l) 5 (.rw 0 []))) {i k : Nat} (hi : i < l.length) (hk : l.length = k) (b : UInt8) :
    evIndexAddr kon.P 35 (.slice (some ⟨B, 0, none⟩) k (2 * k)) (.int .i64 i) = some (.pointer (some ⟨B, i, none⟩)) ∧
    evStore kon.P 5 (.pointer (some ⟨B, i, none⟩)) (.int .u8 (b.toNat : Int)) h = some (h.set B (.row (byteVs (l.set i b)) 5 (.rw 0 []))) := by
  subst hk
  constructor
  · have := L_indexAddr (C := kon) (t := 35) (e := 5) (n := 1) (by kernel_rfl) (by kernel_rfl) B 0 l.length (2 * l.length) .i64 i (by omega) (by omega)
    simpa using this
  · rw [L_store (C := kon) (t := 5) (n := 1) (by kernel_rfl)]
    show writeAt h B i [.int .u8 (b.toNat : Int)] = _
    unfold writeAt
    rw [hg]
    have h1 : i + 1 ≤ (byteVs l).length := by rw [byteVs_len]; omega
    have : splice (byteVs l) i [.int .u8 (b.toNat : Int)] = byteVs (l.set i b) := by
      simp only [splice, byteVs, List.length_singleton, List.map_set]
      rw [List.set_eq_take_append_cons_drop, if_pos (by simpa using hi)]
      simp
    simp only [List.length_singleton, decide_eq_true h1, Nat.zero_le, decide_true, List.all_cons, List.all_nil, isCell, Bool.and_self, cond_true, this]

/-- The bytes of the law. -/
def signL (k j : Nat) (c : UInt8) : List UInt8 := (List.replicate k 97).set j c
theorem signL_len (k j : Nat) (c : UInt8) : (signL k j c).length = k := by simp [signL]
theorem signL_all {k j : Nat} (hj : j < k) (c : UInt8) : (signL k j c).all signB = signB c := by
  rw [Bool.eq_iff_iff, List.all_eq_true]
  constructor
  · intro h
    exact h c (by rw [List.mem_iff_getElem?]; exact ⟨j, by simp [signL, hj]⟩)
  · intro h x hx
    rcases List.mem_or_eq_of_mem_set hx with hx | rfl
    · rw [List.mem_replicate] at hx; rw [hx.2]; decide
    · exact h
theorem signL_no {k j : Nat} (c : UInt8) (hc : c ≠ 62) : (62 : UInt8) ∉ signL k j c := by
  intro hx
  rcases List.mem_or_eq_of_mem_set hx with hx | h
  · rw [List.mem_replicate] at hx; exact absurd hx.2 (by decide)
  · exact hc h.symm
theorem cut_pre (m : Nat) (r : List UInt8) : (cut (List.replicate m 97 ++ r)).length = (cut r).length := by
  induction m with
  | zero => rfl
  | succ m ih =>
    rw [List.replicate_succ, List.cons_append, cut_cons, if_neg (by decide)]
    have := cut_ne (List.replicate m (97 : UInt8) ++ r)
    cases h : cut (List.replicate m (97 : UInt8) ++ r) with
    | nil => exact absurd h this
    | cons a b => rw [h] at ih; simpa using ih
theorem cut_two {k j : Nat} (hj : j < k) : (cut (signL k j 62)).length = 2 := by
  have e : signL k j 62 = List.replicate j 97 ++ 62 :: List.replicate (k - j - 1) 97 := by
    unfold signL
    rw [List.set_eq_take_append_cons_drop, if_pos (by simpa using hj)]
    simp [List.take_replicate, List.drop_replicate, Nat.min_eq_left (Nat.le_of_lt hj)]
    omega
  have h1 := cut_pre (k - j - 1) []
  rw [List.append_nil] at h1
  rw [e, cut_pre, cut_cons, if_pos rfl, List.length_cons, h1]; rfl

def errO : Option (List ByteArray) → Int
  | none => 3
  | some _ => 0
def lenO : Option (List ByteArray) → Int
  | none => 0
  | some l => l.length
theorem SplitP.gen {s : ByteArray} {h h' : Hp} {v : Value} (p : SplitP s h v h') : Keep h h' ∧ ∃ sl, v = .tuple #[sl, .int .i64 (errO (split s))] ∧ evLen kon.P 23 sl = some (.int .i64 (lenO (split s))) := by
  obtain ⟨k, hv⟩ := p
  refine ⟨k, ?_⟩
  cases hs : split s with
  | none => rw [hs] at hv; exact ⟨_, hv, by kernel_rfl⟩
  | some ps => rw [hs] at hv; obtain ⟨sl, h1, h2⟩ := hv; exact ⟨sl, h1, StrSl.len h2.slAt⟩

/-- What the law finds at a sign that is laid in: each way. -/
theorem sign_ways {k j : Nat} (hj : j < k) (hk : k ≤ 39) (c : UInt8) : ∃ b33 b126 bne beq b32 b16 mn mu e l, decide ((33 : Int) ≤ (c.toNat : Int)) = b33 ∧ decide ((c.toNat : Int) ≤ 126) = b126 ∧ ((c.toNat : Int) != 62) = bne ∧ ((c.toNat : Int) == 62) = beq ∧
    decide ((k : Int) ≤ 32) = b32 ∧ decide ((k : Int) ≤ 16) = b16 ∧ mayN (ofL (signL k j c)) = mn ∧ mayU (ofL (signL k j c)) = mu ∧ errO (split (ofL (62 :: signL k j c))) = e ∧ lenO (split (ofL (62 :: signL k j c))) = l ∧
    ((b33, b126, bne, beq, b32, b16, mn, mu, e, l) ∈ ([(true, true, false, true, true, true, false, false, 3, 0), (true, true, false, true, true, true, false, false, 0, 2), (true, true, false, true, true, false, false, false, 3, 0), (true, true, false, true, true, false, false, false, 0, 2),
      (true, true, false, true, false, false, false, false, 3, 0), (true, true, false, true, false, false, false, false, 0, 2),
      (true, true, true, false, true, true, true, true, 0, 1), (true, true, true, false, true, false, true, false, 0, 1), (true, true, true, false, false, false, false, false, 3, 0),
      (false, true, true, false, true, true, false, false, 3, 0), (false, true, true, false, true, false, false, false, 3, 0), (false, true, true, false, false, false, false, false, 3, 0),
      (true, false, true, false, true, true, false, false, 3, 0), (true, false, true, false, true, false, false, false, 3, 0), (true, false, true, false, false, false, false, false, 3, 0)] : List (Bool × Bool × Bool × Bool × Bool × Bool × Bool × Bool × Int × Int))) := by
  have hS : (ofL (signL k j c)).size = k := by rw [size_eq, ofL_data, signL_len]
  have hpl : ∀ m, plainB (ofL (signL k j c)) m = (decide (k ≤ m) && signB c) := fun m => by
    unfold plainB; rw [hS, ofL_data, signL_all hj, decide_eq_true (show 1 ≤ k by omega), Bool.true_and]
  have hz : (ofL (62 :: signL k j c)).size ≤ 168 := by rw [size_eq, ofL_data, List.length_cons, signL_len]; omega
  have hne : signL k j c ≠ [] := by intro e; have := signL_len k j c; rw [e] at this; simp at this; omega
  have hsp := split_at (s := ofL (62 :: signL k j c)) rfl hne hz
  refine ⟨_, _, _, _, _, _, _, _, _, _, rfl, rfl, rfl, rfl, rfl, rfl, rfl, rfl, rfl, rfl, ?_⟩
  rw [show mayN (ofL (signL k j c)) = _ from hpl 32, show mayU (ofL (signL k j c)) = _ from hpl 16]
  by_cases hc : c = 62
  · subst hc
    have h2 := cut_two hj
    rw [h2, if_neg (by omega)] at hsp
    have hs : signB 62 = false := rfl
    rw [hs]
    have w : (errO (split (ofL (62 :: signL k j 62))) = 3 ∧ lenO (split (ofL (62 :: signL k j 62))) = 0) ∨ (errO (split (ofL (62 :: signL k j 62))) = 0 ∧ lenO (split (ofL (62 :: signL k j 62))) = 2) := by
      rw [hsp]
      split
      · right; simp [errO, lenO, h2]
      · left; exact ⟨rfl, rfl⟩
    by_cases k32 : k ≤ 32 <;> by_cases k16 : k ≤ 16
    · have i1 : (k : Int) ≤ 32 := by omega
      have i2 : (k : Int) ≤ 16 := by omega
      rcases w with ⟨w1, w2⟩ | ⟨w1, w2⟩ <;> simp [w1, w2, i1, i2]
    · have i1 : (k : Int) ≤ 32 := by omega
      have i2 : ¬ (k : Int) ≤ 16 := by omega
      rcases w with ⟨w1, w2⟩ | ⟨w1, w2⟩ <;> simp [w1, w2, i1, i2]
    · omega
    · have i1 : ¬ (k : Int) ≤ 32 := by omega
      have i2 : ¬ (k : Int) ≤ 16 := by omega
      rcases w with ⟨w1, w2⟩ | ⟨w1, w2⟩ <;> simp [w1, w2, i1, i2]
  · have hcut : cut (signL k j c) = [signL k j c] := by
      have := join_cut (signL k j c) [] (fun y hy => by simp at hy; subst hy; exact signL_no c hc)
      simpa [List.intercalate] using this
    rw [hcut, if_neg (by simp)] at hsp
    simp only [List.map_cons, List.map_nil, List.all_cons, List.all_nil, Bool.and_true, show mayN (ofL (signL k j c)) = _ from hpl 32] at hsp
    have hc2 : ¬ c.toNat = 62 := fun e => hc (UInt8.toNat_inj.1 e)
    have i62 : ¬ (c.toNat : Int) = 62 := by omega
    cases hs : signB c with
    | true =>
      rw [hs] at hsp
      simp [signB] at hs
      have i33 : (33 : Int) ≤ (c.toNat : Int) := by omega
      have i126 : (c.toNat : Int) ≤ 126 := by omega
      by_cases k32 : k ≤ 32 <;> by_cases k16 : k ≤ 16
      · have i1 : (k : Int) ≤ 32 := by omega
        have i2 : (k : Int) ≤ 16 := by omega
        rw [hsp]; simp [errO, lenO, i1, i2, i33, i126, i62, k32, k16]
      · have i1 : (k : Int) ≤ 32 := by omega
        have i2 : ¬ (k : Int) ≤ 16 := by omega
        rw [hsp]; simp [errO, lenO, i1, i2, i33, i126, i62, k32, k16]
      · omega
      · have i1 : ¬ (k : Int) ≤ 32 := by omega
        have i2 : ¬ (k : Int) ≤ 16 := by omega
        rw [hsp]; simp [errO, lenO, i1, i2, i33, i126, i62, k32, k16]
    | false =>
      rw [hs] at hsp
      simp only [Bool.and_false, Bool.false_eq_true, if_false] at hsp
      have hs2 : ¬ (33 : Int) ≤ (c.toNat : Int) ∧ (c.toNat : Int) ≤ 126 ∨ (33 : Int) ≤ (c.toNat : Int) ∧ ¬ (c.toNat : Int) ≤ 126 := by
        simp [signB] at hs; omega
      rw [hsp]
      rcases hs2 with ⟨i33, i126⟩ | ⟨i33, i126⟩
      all_goals
        by_cases k32 : k ≤ 32 <;> by_cases k16 : k ≤ 16
        · have i1 : (k : Int) ≤ 32 := by omega
          have i2 : (k : Int) ≤ 16 := by omega
          simp [errO, lenO, i1, i2, i33, i126, i62]
        · have i1 : (k : Int) ≤ 32 := by omega
          have i2 : ¬ (k : Int) ≤ 16 := by omega
          simp [errO, lenO, i1, i2, i33, i126, i62]
        · omega
        · have i1 : ¬ (k : Int) ≤ 32 := by omega
          have i2 : ¬ (k : Int) ≤ 16 := by omega
          simp [errO, lenO, i1, i2, i33, i126, i62]

theorem rep_flat (k : Nat) : (List.replicate k [Value.int .u8 0]).flatten = byteVs (List.replicate k 0) := by
  induction k with
  | zero => rfl
  | succ k ih => rw [List.replicate_succ, List.flatten_cons, ih, List.replicate_succ]; rfl
theorem fill_set {k i : Nat} (hi : i < k) : (List.replicate i (97 : UInt8) ++ List.replicate (k - i) 0).set i 97 = List.replicate (i + 1) 97 ++ List.replicate (k - (i + 1)) 0 := by
  rw [List.set_append, if_neg (by simp), List.length_replicate, Nat.sub_self, show k - i = (k - (i + 1)) + 1 by omega, List.replicate_succ (n := k - (i + 1)), List.set_cons_zero, List.replicate_succ' (n := i)]
  simp

set_option maxHeartbeats 4000000 in
theorem namesSigns_true (n a c : UInt8) (h : Hp) : Meets kon 7 [.int .u8 n.toNat, .int .u8 a.toNat, .int .u8 c.toNat] h fun v _ => v = .bool true := by
  refine Meets.mk rfl (by kernel_rfl) Tryd.func7 rfl (congrArg Array.toList Tryd.results7) ?_
  have aw := awake_call (f := 22) (by kernel_rfl) h
  have n0 := n.toNat_lt
  have a0 := a.toNat_lt
  have wn : IntKind.i64.wrap (n.toNat : Int) = (n.toNat : Int) := wrap64 (by omega) (by omega)
  have wa : IntKind.i64.wrap (a.toNat : Int) = (a.toNat : Int) := wrap64 (by omega) (by omega)
  have r40 : (n.toNat : Int).tmod 40 = ((n.toNat % 40 : Nat) : Int) := by rw [Int.tmod_eq_emod_of_nonneg (by omega)]; omega
  generalize hk : n.toNat % 40 = k at r40
  have hk39 : k ≤ 39 := by omega
  have hmk := L_make (C := kon) (t := 35) (e := 5) (n := 1) (by_ := 1) (z := .int .u8 0) (zs := [.int .u8 0]) (by kernel_rfl) (by kernel_rfl) (by kernel_rfl) (by kernel_rfl) rfl rfl k (by omega)
  rw [rep_flat] at hmk
  simp only [evr, nextP_norm, evd, P_make, kMk_eq, kMk2_eq, beq_self_eq_true, mkRow, cond_true, cond_false, and_true, true_and, Nat.reduceEqDiff, reduceIte, Nat.reduceAdd, Int.reduceBNe, Int.reduceBEq, Int.reduceLT, Int.reduceLE, Int.reduceEq, decide_true, decide_false, Nat.zero_add, Nat.add_zero, Nat.mul_one, Int.toNat_natCast, Option.bind_some, Option.map_some, onSome_some, Tr.get_set, Tr.ofList, evBin_lss, evBin_gtr, evBin_leq, evBin_geq, evBin_eql, evBin_neq, evBin_add, evBin_sub, evBin_eqS, evBin_neS, L_slice, slotAt, Bool.not_true, Bool.not_false, List.getElem?_toArray, List.getElem?_cons_succ, List.getElem?_cons_zero, cellAt_eq, rowOb_rw, rowOb_ro, opt_none, opt_some, List.append_eq, List.cons_append, List.nil_append, typ1, typ2, typ3, typ4, typ5, typ6, typ7, aw, wn, evBin_rem (b := 40) (by decide), r40, hmk]
  generalize hB : h.next = B
  refine Wp_loop (fun m fr h' => ∃ i : Nat, m = k - i ∧ i ≤ k ∧ fr.get 1 = some (.int .u8 a.toNat) ∧ fr.get 2 = some (.int .u8 c.toNat) ∧ fr.get 7 = some (.int .i64 k) ∧ fr.get 8 = some (.slice (some ⟨B, 0, none⟩) k (2 * k)) ∧ fr.get 9 = some (.int .i64 i) ∧
    B < h'.next ∧ h'.get B = some (.row (byteVs (List.replicate i 97 ++ List.replicate (k - i) 0)) 5 (.rw 0 []))) k ⟨0, rfl, Nat.zero_le _, ?_, ?_, ?_, ?_, ?_, ?_, ?_⟩ ?_
  · simp only [evr, nextP_norm, evd, P_make, kMk_eq, kMk2_eq, beq_self_eq_true, mkRow, cond_true, cond_false, and_true, true_and, Nat.reduceEqDiff, reduceIte, Nat.reduceAdd, Int.reduceBNe, Int.reduceBEq, Int.reduceLT, Int.reduceLE, Int.reduceEq, decide_true, decide_false, Nat.zero_add, Nat.add_zero, Nat.mul_one, Int.toNat_natCast, Option.bind_some, Option.map_some, onSome_some, Tr.get_set, Tr.ofList, evBin_lss, evBin_gtr, evBin_leq, evBin_geq, evBin_eql, evBin_neq, evBin_add, evBin_sub, evBin_eqS, evBin_neS, L_slice, slotAt, Bool.not_true, Bool.not_false, List.getElem?_toArray, List.getElem?_cons_succ, List.getElem?_cons_zero, cellAt_eq, rowOb_rw, rowOb_ro, opt_none, opt_some, List.append_eq, List.cons_append, List.nil_append, typ1, typ2, typ3, typ4, typ5, typ6, typ7]
  · simp only [evr, nextP_norm, evd, P_make, kMk_eq, kMk2_eq, beq_self_eq_true, mkRow, cond_true, cond_false, and_true, true_and, Nat.reduceEqDiff, reduceIte, Nat.reduceAdd, Int.reduceBNe, Int.reduceBEq, Int.reduceLT, Int.reduceLE, Int.reduceEq, decide_true, decide_false, Nat.zero_add, Nat.add_zero, Nat.mul_one, Int.toNat_natCast, Option.bind_some, Option.map_some, onSome_some, Tr.get_set, Tr.ofList, evBin_lss, evBin_gtr, evBin_leq, evBin_geq, evBin_eql, evBin_neq, evBin_add, evBin_sub, evBin_eqS, evBin_neS, L_slice, slotAt, Bool.not_true, Bool.not_false, List.getElem?_toArray, List.getElem?_cons_succ, List.getElem?_cons_zero, cellAt_eq, rowOb_rw, rowOb_ro, opt_none, opt_some, List.append_eq, List.cons_append, List.nil_append, typ1, typ2, typ3, typ4, typ5, typ6, typ7]
  · simp only [evr, nextP_norm, evd, P_make, kMk_eq, kMk2_eq, beq_self_eq_true, mkRow, cond_true, cond_false, and_true, true_and, Nat.reduceEqDiff, reduceIte, Nat.reduceAdd, Int.reduceBNe, Int.reduceBEq, Int.reduceLT, Int.reduceLE, Int.reduceEq, decide_true, decide_false, Nat.zero_add, Nat.add_zero, Nat.mul_one, Int.toNat_natCast, Option.bind_some, Option.map_some, onSome_some, Tr.get_set, Tr.ofList, evBin_lss, evBin_gtr, evBin_leq, evBin_geq, evBin_eql, evBin_neq, evBin_add, evBin_sub, evBin_eqS, evBin_neS, L_slice, slotAt, Bool.not_true, Bool.not_false, List.getElem?_toArray, List.getElem?_cons_succ, List.getElem?_cons_zero, cellAt_eq, rowOb_rw, rowOb_ro, opt_none, opt_some, List.append_eq, List.cons_append, List.nil_append, typ1, typ2, typ3, typ4, typ5, typ6, typ7]
  · simp only [evr, nextP_norm, evd, P_make, kMk_eq, kMk2_eq, beq_self_eq_true, mkRow, cond_true, cond_false, and_true, true_and, Nat.reduceEqDiff, reduceIte, Nat.reduceAdd, Int.reduceBNe, Int.reduceBEq, Int.reduceLT, Int.reduceLE, Int.reduceEq, decide_true, decide_false, Nat.zero_add, Nat.add_zero, Nat.mul_one, Int.toNat_natCast, Option.bind_some, Option.map_some, onSome_some, Tr.get_set, Tr.ofList, evBin_lss, evBin_gtr, evBin_leq, evBin_geq, evBin_eql, evBin_neq, evBin_add, evBin_sub, evBin_eqS, evBin_neS, L_slice, slotAt, Bool.not_true, Bool.not_false, List.getElem?_toArray, List.getElem?_cons_succ, List.getElem?_cons_zero, cellAt_eq, rowOb_rw, rowOb_ro, opt_none, opt_some, List.append_eq, List.cons_append, List.nil_append, typ1, typ2, typ3, typ4, typ5, typ6, typ7]
  · simp only [evr, nextP_norm, evd, P_make, kMk_eq, kMk2_eq, beq_self_eq_true, mkRow, cond_true, cond_false, and_true, true_and, Nat.reduceEqDiff, reduceIte, Nat.reduceAdd, Int.reduceBNe, Int.reduceBEq, Int.reduceLT, Int.reduceLE, Int.reduceEq, decide_true, decide_false, Nat.zero_add, Nat.add_zero, Nat.mul_one, Int.toNat_natCast, Option.bind_some, Option.map_some, onSome_some, Tr.get_set, Tr.ofList, evBin_lss, evBin_gtr, evBin_leq, evBin_geq, evBin_eql, evBin_neq, evBin_add, evBin_sub, evBin_eqS, evBin_neS, L_slice, slotAt, Bool.not_true, Bool.not_false, List.getElem?_toArray, List.getElem?_cons_succ, List.getElem?_cons_zero, cellAt_eq, rowOb_rw, rowOb_ro, opt_none, opt_some, List.append_eq, List.cons_append, List.nil_append, typ1, typ2, typ3, typ4, typ5, typ6, typ7]
    rfl
  · rw [← hB]; exact Nat.lt_succ_self _
  · rw [← hB, Hp.get_push_self]; rfl
  rintro m fr h' ⟨i, rfl, hi, g1, g2, g7, g8, g9, hlt, hg⟩
  by_cases h3 : i < k
  · have e3 : decide ((i : Int) < k) = true := by simp; omega
    obtain ⟨x1, x2⟩ := set_vs hg (i := i) (k := k) (by simp; omega) (by simp; omega) 97
    rw [fill_set h3] at x2
    have x2' : evStore kon.P 5 (.pointer (some ⟨B, i, none⟩)) (.int .u8 97) h' = some (h'.set B (.row (byteVs (List.replicate (i + 1) 97 ++ List.replicate (k - (i + 1)) 0)) 5 (.rw 0 []))) := x2
    simp only [evr, nextP_norm, evd, P_make, kMk_eq, kMk2_eq, beq_self_eq_true, mkRow, cond_true, cond_false, and_true, true_and, Nat.reduceEqDiff, reduceIte, Nat.reduceAdd, Int.reduceBNe, Int.reduceBEq, Int.reduceLT, Int.reduceLE, Int.reduceEq, decide_true, decide_false, Nat.zero_add, Nat.add_zero, Nat.mul_one, Int.toNat_natCast, Option.bind_some, Option.map_some, onSome_some, Tr.get_set, Tr.ofList, evBin_lss, evBin_gtr, evBin_leq, evBin_geq, evBin_eql, evBin_neq, evBin_add, evBin_sub, evBin_eqS, evBin_neS, L_slice, slotAt, Bool.not_true, Bool.not_false, List.getElem?_toArray, List.getElem?_cons_succ, List.getElem?_cons_zero, cellAt_eq, rowOb_rw, rowOb_ro, opt_none, opt_some, List.append_eq, List.cons_append, List.nil_append, typ1, typ2, typ3, typ4, typ5, typ6, typ7, g1, g2, g7, g8, g9, e3, x1, x2', wrap64 (x := (i : Int) + 1) (by omega) (by omega)]
    exact ⟨k - (i + 1), by omega, i + 1, rfl, by omega, rfl, by rw [Hp.next_set]; exact hlt, Hp.get_set_self _ _ _⟩
  have hik : i = k := by omega
  subst hik
  have e3 : decide ((i : Int) < i) = false := by simp
  rw [Nat.sub_self, List.replicate_zero, List.append_nil] at hg
  rcases Nat.eq_zero_or_pos i with rfl | hpos
  · have hS : convV kon.P 35 9 h' (.slice (some ⟨B, 0, none⟩) 0 (2 * 0)) = some (.string (ofL [])) := str_vs (l := []) hg rfl
    rw [Nat.mul_zero] at hS g8
    have z1 : ((ByteArray.mk #[62]).size : Int) + (ofL []).size ≤ 9223372036854775807 := by decide
    simp only [evr, nextP_norm, evd, P_make, kMk_eq, kMk2_eq, beq_self_eq_true, mkRow, cond_true, cond_false, and_true, true_and, Nat.reduceEqDiff, reduceIte, Nat.reduceAdd, Int.reduceBNe, Int.reduceBEq, Int.reduceLT, Int.reduceLE, Int.reduceEq, decide_true, decide_false, Nat.zero_add, Nat.add_zero, Nat.mul_one, Int.toNat_natCast, Option.bind_some, Option.map_some, onSome_some, Tr.get_set, Tr.ofList, evBin_lss, evBin_gtr, evBin_leq, evBin_geq, evBin_eql, evBin_neq, evBin_add, evBin_sub, evBin_eqS, evBin_neS, L_slice, slotAt, Bool.not_true, Bool.not_false, List.getElem?_toArray, List.getElem?_cons_succ, List.getElem?_cons_zero, cellAt_eq, rowOb_rw, rowOb_ro, opt_none, opt_some, List.append_eq, List.cons_append, List.nil_append, typ1, typ2, typ3, typ4, typ5, typ6, typ7, g1, g2, g7, g8, g9, Int.natCast_zero, hS, evBin_addS z1, stroke_app]
    refine callP_meets (split_spec _ h') ?_
    rintro v h2 hv
    obtain ⟨hk2, sl, rfl, hl⟩ := hv.gen
    have hS2 : convV kon.P 35 9 h2 (.slice (some ⟨B, 0, none⟩) 0 (2 * 0)) = some (.string (ofL [])) := str_vs (l := []) (by rw [hk2.2 B hlt]; exact hg) rfl
    rw [Nat.mul_zero] at hS2
    have q1 : errO (split (ofL [62])) = 0 := rfl
    have q2 : lenO (split (ofL [62])) = 0 := rfl
    have q3 : mayN (ofL []) = false := rfl
    have q4 : mayU (ofL []) = false := rfl
    simp only [evr, nextP_norm, evd, P_make, kMk_eq, kMk2_eq, beq_self_eq_true, mkRow, cond_true, cond_false, and_true, true_and, Nat.reduceEqDiff, reduceIte, Nat.reduceAdd, Int.reduceBNe, Int.reduceBEq, Int.reduceLT, Int.reduceLE, Int.reduceEq, decide_true, decide_false, Nat.zero_add, Nat.add_zero, Nat.mul_one, Int.toNat_natCast, Option.bind_some, Option.map_some, onSome_some, Tr.get_set, Tr.ofList, evBin_lss, evBin_gtr, evBin_leq, evBin_geq, evBin_eql, evBin_neq, evBin_add, evBin_sub, evBin_eqS, evBin_neS, L_slice, slotAt, Bool.not_true, Bool.not_false, List.getElem?_toArray, List.getElem?_cons_succ, List.getElem?_cons_zero, cellAt_eq, rowOb_rw, rowOb_ro, opt_none, opt_some, List.append_eq, List.cons_append, List.nil_append, typ1, typ2, typ3, typ4, typ5, typ6, typ7, g1, g2, g7, g8, g9, Int.natCast_zero, hS2, (may_spec (ofL []) h2).call, (user_spec (ofL []) h2).call, q1, q2, q3, q4, hl]
  · have hjk : a.toNat % i < i := Nat.mod_lt _ hpos
    have rj : (a.toNat : Int).tmod i = ((a.toNat % i : Nat) : Int) := by rw [Int.tmod_eq_emod_of_nonneg (by omega)]; omega
    generalize a.toNat % i = j at hjk rj
    have hi0 : (i : Int) ≠ 0 := by omega
    obtain ⟨x1, x2⟩ := set_vs hg (i := j) (k := i) (by simpa using hjk) (by simp) c
    have hg2 := Hp.get_set_self h' B (.row (byteVs ((List.replicate i 97).set j c)) 5 (.rw 0 []))
    have hlt2 : B < (h'.set B (.row (byteVs ((List.replicate i 97).set j c)) 5 (.rw 0 []))).next := by rw [Hp.next_set]; exact hlt
    generalize h'.set B (.row (byteVs ((List.replicate i 97).set j c)) 5 (.rw 0 [])) = H at *
    have hS : convV kon.P 35 9 H (.slice (some ⟨B, 0, none⟩) i (2 * i)) = some (.string (ofL (signL i j c))) := str_vs (l := signL i j c) hg2 (signL_len _ _ _)
    have z1 : ((ByteArray.mk #[62]).size : Int) + (ofL (signL i j c)).size ≤ 9223372036854775807 := by rw [stroke_size, size_eq, ofL_data, signL_len]; omega
    have ek : decide ((0 : Int) < i) = true := by simp; omega
    have ek0 : ((i : Int) == 0) = false := beq_eq_false_iff_ne.2 hi0
    have main : ∀ h2, Keep H h2 → convV kon.P 35 9 h2 (.slice (some ⟨B, 0, none⟩) i (2 * i)) = some (.string (ofL (signL i j c))) := fun h2 hk2 => str_vs (l := signL i j c) (by rw [hk2.2 B hlt2]; exact hg2) (signL_len _ _ _)
    obtain ⟨b33, b126, bne, beq, b32, b16, mn, mu, e, l, f1, f2, f3, f4, f5, f6, f7, f8, f9, f10, hm⟩ := sign_ways hjk hk39 c
    simp only [List.mem_cons, List.not_mem_nil, or_false, Prod.mk.injEq] at hm
    obtain ⟨fine, hfine⟩ : ∃ fine, fine = (b33 && b126 && bne) := ⟨_, rfl⟩
    cases b33 <;> cases b126 <;> cases bne
    all_goals
      simp only [Bool.and_true, Bool.and_false, Bool.true_and, Bool.false_and, Bool.and_self] at hfine
      simp only [evr, nextP_norm, evd, P_make, kMk_eq, kMk2_eq, beq_self_eq_true, mkRow, cond_true, cond_false, and_true, true_and, Nat.reduceEqDiff, reduceIte, Nat.reduceAdd, Int.reduceBNe, Int.reduceBEq, Int.reduceLT, Int.reduceLE, Int.reduceEq, decide_true, decide_false, Nat.zero_add, Nat.add_zero, Nat.mul_one, Int.toNat_natCast, Option.bind_some, Option.map_some, onSome_some, Tr.get_set, Tr.ofList, evBin_lss, evBin_gtr, evBin_leq, evBin_geq, evBin_eql, evBin_neq, evBin_add, evBin_sub, evBin_eqS, evBin_neS, L_slice, slotAt, Bool.not_true, Bool.not_false, List.getElem?_toArray, List.getElem?_cons_succ, List.getElem?_cons_zero, cellAt_eq, rowOb_rw, rowOb_ro, opt_none, opt_some, List.append_eq, List.cons_append, List.nil_append, typ1, typ2, typ3, typ4, typ5, typ6, typ7, g1, g2, g7, g8, g9, e3, ek, wa, evBin_rem (b := (i : Int)) hi0, rj, x1, x2, f1, f2, f3, hS, evBin_addS z1, stroke_app]
      refine callP_meets (split_spec _ H) ?_
      rintro v h2 hv
      obtain ⟨hk2, sl, rfl, hl⟩ := hv.gen
      rw [f10] at hl
      simp only [evr, evd, P_make, kMk_eq, kMk2_eq, beq_self_eq_true, mkRow, cond_true, cond_false, and_true, true_and, Nat.reduceEqDiff, reduceIte, Nat.reduceAdd, Int.reduceBNe, Int.reduceBEq, Int.reduceLT, Int.reduceLE, Int.reduceEq, decide_true, decide_false, Nat.zero_add, Nat.add_zero, Nat.mul_one, Int.toNat_natCast, Option.bind_some, Option.map_some, onSome_some, Tr.get_set, Tr.ofList, evBin_lss, evBin_gtr, evBin_leq, evBin_geq, evBin_eql, evBin_neq, evBin_add, evBin_sub, evBin_eqS, evBin_neS, L_slice, slotAt, Bool.not_true, Bool.not_false, List.getElem?_toArray, List.getElem?_cons_succ, List.getElem?_cons_zero, cellAt_eq, rowOb_rw, rowOb_ro, opt_none, opt_some, List.append_eq, List.cons_append, List.nil_append, typ1, typ2, typ3, typ4, typ5, typ6, typ7, f9]
      rw [nextP_norm]
      refine Wp_cut (fun fr => fr.get 2 = some (.int .u8 c.toNat) ∧ fr.get 7 = some (.int .i64 i) ∧ fr.get 8 = some (.slice (some ⟨B, 0, none⟩) i (2 * i)) ∧ fr.get 10 = some (.bool fine) ∧ fr.get 11 = some (sl) ∧ fr.get 12 = some (.int .i64 e)) ?_ ?_
      · simp only [evr, nextP_norm, evd, P_make, kMk_eq, kMk2_eq, beq_self_eq_true, mkRow, cond_true, cond_false, and_true, true_and, Nat.reduceEqDiff, reduceIte, Nat.reduceAdd, Int.reduceBNe, Int.reduceBEq, Int.reduceLT, Int.reduceLE, Int.reduceEq, decide_true, decide_false, Nat.zero_add, Nat.add_zero, Nat.mul_one, Int.toNat_natCast, Option.bind_some, Option.map_some, onSome_some, Tr.get_set, Tr.ofList, evBin_lss, evBin_gtr, evBin_leq, evBin_geq, evBin_eql, evBin_neq, evBin_add, evBin_sub, evBin_eqS, evBin_neS, L_slice, slotAt, Bool.not_true, Bool.not_false, List.getElem?_toArray, List.getElem?_cons_succ, List.getElem?_cons_zero, cellAt_eq, rowOb_rw, rowOb_ro, opt_none, opt_some, List.append_eq, List.cons_append, List.nil_append, typ1, typ2, typ3, typ4, typ5, typ6, typ7, g2, g7, g8, f9, hfine]
      rintro fr ⟨g2, g7, g8, g10, g11, g12⟩
      rcases hm with ⟨q1, q2, q3, q4, q5, q6, q7, q8, q9, q10⟩ | ⟨q1, q2, q3, q4, q5, q6, q7, q8, q9, q10⟩ | ⟨q1, q2, q3, q4, q5, q6, q7, q8, q9, q10⟩ | ⟨q1, q2, q3, q4, q5, q6, q7, q8, q9, q10⟩ | ⟨q1, q2, q3, q4, q5, q6, q7, q8, q9, q10⟩ |
          ⟨q1, q2, q3, q4, q5, q6, q7, q8, q9, q10⟩ | ⟨q1, q2, q3, q4, q5, q6, q7, q8, q9, q10⟩ | ⟨q1, q2, q3, q4, q5, q6, q7, q8, q9, q10⟩ | ⟨q1, q2, q3, q4, q5, q6, q7, q8, q9, q10⟩ | ⟨q1, q2, q3, q4, q5, q6, q7, q8, q9, q10⟩ |
          ⟨q1, q2, q3, q4, q5, q6, q7, q8, q9, q10⟩ | ⟨q1, q2, q3, q4, q5, q6, q7, q8, q9, q10⟩ | ⟨q1, q2, q3, q4, q5, q6, q7, q8, q9, q10⟩ | ⟨q1, q2, q3, q4, q5, q6, q7, q8, q9, q10⟩ | ⟨q1, q2, q3, q4, q5, q6, q7, q8, q9, q10⟩
      all_goals first | exact absurd q1 (by decide) | exact absurd q2 (by decide) | exact absurd q3 (by decide) | skip
      all_goals
        subst q4 q5 q6 q7 q8 q9 q10
        simp only [evr, nextP_norm, evd, P_make, kMk_eq, kMk2_eq, beq_self_eq_true, mkRow, cond_true, cond_false, and_true, true_and, Nat.reduceEqDiff, reduceIte, Nat.reduceAdd, Int.reduceBNe, Int.reduceBEq, Int.reduceLT, Int.reduceLE, Int.reduceEq, decide_true, decide_false, Nat.zero_add, Nat.add_zero, Nat.mul_one, Int.toNat_natCast, Option.bind_some, Option.map_some, onSome_some, Tr.get_set, Tr.ofList, evBin_lss, evBin_gtr, evBin_leq, evBin_geq, evBin_eql, evBin_neq, evBin_add, evBin_sub, evBin_eqS, evBin_neS, L_slice, slotAt, Bool.not_true, Bool.not_false, List.getElem?_toArray, List.getElem?_cons_succ, List.getElem?_cons_zero, cellAt_eq, rowOb_rw, rowOb_ro, opt_none, opt_some, List.append_eq, List.cons_append, List.nil_append, typ1, typ2, typ3, typ4, typ5, typ6, typ7, g2, g7, g8, g10, hfine, g11, g12, main h2 hk2, f1, f2, f3, f4, f5, f6, f9, ek, ek0, (may_spec (ofL (signL i j c)) h2).call, (user_spec (ofL (signL i j c)) h2).call, f7, f8, hl]
end Go.Proofs.YtncmgiddcefpcaaDoor
