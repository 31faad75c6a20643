/- names: Split, Join and Parent, and the reference's: what they return, in plain words. -/
import Derived.Test.YtncmgiddcefpcaaGreatDoorConB
namespace Go.Proofs.YtncmgiddcefpcaaGreatDoor
open Go Go.Ev Go.Con
set_option linter.unusedSimpArgs false
set_option linter.unusedVariables false
set_option maxRecDepth 100000

abbrev stroke : ByteArray := ⟨#[62]⟩
theorem stroke_size : (ByteArray.mk #[62]).size = 1 := rfl
theorem head_of {s : ByteArray} (h : 1 ≤ s.size) : ∃ c l, s.data.toList = c :: l ∧ (s.extract 1 s.size).data.toList = l ∧ (s.extract 0 1).data.toList = [c] := by
  have hl : 1 ≤ s.data.toList.length := by rw [Array.length_toList]; exact h
  cases hs : s.data.toList with
  | nil => rw [hs] at hl; simp at hl
  | cons c l =>
    have e1 : (s.extract 1 s.size).data.toList = l := by
      rw [ByteArray.data_extract, Array.toList_extract, List.extract_eq_take_drop, hs]
      have : s.size = (c :: l).length := by rw [← hs, Array.length_toList]; rfl
      rw [this]; simp
    have e2 : (s.extract 0 1).data.toList = [c] := by
      rw [ByteArray.data_extract, Array.toList_extract, List.extract_eq_take_drop, hs]; simp
    exact ⟨c, l, rfl, e1, e2⟩

theorem prefixS_spec (s : ByteArray) (h : Hp) : Meets kon 114 [.string s, .string ⟨#[62]⟩] h fun v h' => v = .bool (s.data.toList.head? == some 62) ∧ h' = h := by
  refine Meets.mk rfl (by kernel_rfl) Tryz.func114 rfl (congrArg Array.toList Tryz.results114) ?_
  rcases Bool.eq_false_or_eq_true (decide ((1 : Int) ≤ s.size)) with e1 | e1
  · have h1 : 1 ≤ s.size := by simp at e1; omega
    obtain ⟨c, l, hc, _, h2⟩ := head_of h1
    have hsl := (L_sliceStr (C := kon) (t := 9) (by kernel_rfl)).2.2 s .i64 1 (by omega) (by omega)
    have he : decide (s.extract 0 (Int.toNat 1) = (ByteArray.mk #[62])) = (s.data.toList.head? == some 62) := by
      rw [hc, Bool.eq_iff_iff]
      simp only [decide_eq_true_eq, List.head?_cons, beq_iff_eq, Option.some.injEq]
      constructor
      · intro e
        have : (s.extract 0 1).data.toList = [62] := by rw [show s.extract 0 1 = (ByteArray.mk #[62]) from e]
        rw [h2] at this; simpa using this
      · rintro rfl
        exact ba_ext h2
    simp only [evr, nextP_norm, evd, evq, beq_self_eq_true, cond_true, cond_false, reduceIte, Nat.reduceEqDiff, Nat.reduceAdd, Int.reduceBNe, Int.reduceBEq, Int.reduceLT, Int.reduceLE, Int.reduceEq, typs, stroke_size, Int.natCast_one, e1, hsl, he]
  · simp only [evr, nextP_norm, evd, evq, beq_self_eq_true, cond_true, cond_false, reduceIte, Nat.reduceEqDiff, Nat.reduceAdd, Int.reduceBNe, Int.reduceBEq, Int.reduceLT, Int.reduceLE, Int.reduceEq, typs, stroke_size, Int.natCast_one, e1]
    have : s.data.toList = [] := List.length_eq_zero_iff.1 (by rw [Array.length_toList]; simp at e1; show s.size = 0; omega)
    rw [this]; rfl
theorem prefix_spec (s : ByteArray) (h : Hp) : Meets kon 105 [.string s, .string ⟨#[62]⟩] h fun v h' => v = .bool (s.data.toList.head? == some 62) ∧ h' = h := by
  refine Meets.mk rfl (by kernel_rfl) Tryz.func105 rfl (congrArg Array.toList Tryz.results105) ?_
  simp only [evr, nextP_norm, evd, evq, beq_self_eq_true, cond_true, cond_false, reduceIte, Nat.reduceEqDiff, Nat.reduceAdd, Int.reduceBNe, Int.reduceBEq, Int.reduceLT, Int.reduceLE, Int.reduceEq, typs, (prefixS_spec s h).call]

/-- The block that strings.Split makes. -/
def splitHp (h : Hp) (s : ByteArray) : Hp := h.push (.row (strs ((cut s.data.toList).map ofL)) 9 (.rw 0 []))
def splitSl (h : Hp) (s : ByteArray) : Value := .slice (some ⟨h.next, 0, none⟩) (cut s.data.toList).length (2 * (cut s.data.toList).length)
theorem splitLib_spec (s : ByteArray) (h : Hp) (hs : s.size < 4294967281) : Meets kon 106 [.string s, .string ⟨#[62]⟩] h fun v h' => v = splitSl h s ∧ h' = splitHp h s := by
  have hb := splitB_cut s
  have hl : Lib.countB s (ofL [62]) + 1 = (cut s.data.toList).length := by
    have hk := splitK_cut (Lib.count s.data.toList [62]) s.data.toList rfl
    have key : ∀ (n : Nat) (l : List UInt8), Lib.count l [62] = n → (Lib.splitK [62] 0 n l).length = n + 1 := by
      intro n
      induction n with
      | zero => intro l _; rfl
      | succ n ih =>
        intro l hc
        have hm : ¬ Lib.index l [62] = -1 := fun e => by rw [Lib.count_miss e] at hc; omega
        have hg := Lib.index_ge l [62]
        obtain ⟨i, hi⟩ : ∃ i : Nat, Lib.index l [62] = i := ⟨(Lib.index l [62]).toNat, by omega⟩
        rw [Lib.count_hit (by simp) hi] at hc
        have e : (Lib.index l [62]).toNat = i := by omega
        unfold Lib.splitK
        rw [if_neg (fun e => hm (beq_iff_eq.1 e)), e]
        have h5 : ([62] : List UInt8).length = 1 := rfl
        rw [h5] at hc
        exact congrArg Nat.succ (ih _ (by rw [h5]; omega))
    have := key _ s.data.toList rfl
    rw [hk] at this
    exact this.symm
  refine ⟨_, _, Ret.sum (s := sumSplit 9) rfl (v := splitSl h s) (h' := splitHp h s) ?_, rfl, rfl⟩
  show (bif decide (s.size < 4294967281) && decide (1 ≤ (ofL [62]).size) then some (Value.slice (some ⟨h.next, 0, none⟩) (Lib.countB s (ofL [62]) + 1) (2 * (Lib.countB s (ofL [62]) + 1)), h.push (.row ((Lib.splitB (ofL [62]) 0 (Lib.countB s (ofL [62])) s).map Value.string) 9 (.rw 0 []))) else none) = _
  rw [decide_eq_true hs, hb, hl]
  rfl

theorem splitHp_keep (h : Hp) (s : ByteArray) : Keep h (splitHp h s) := Keep.push _ _
theorem splitSl_grown (h : Hp) (s : ByteArray) : Grown h.next (splitHp h s) (splitSl h s) 9 1 (strs ((cut s.data.toList).map ofL)) := by
  have h1 : 1 ≤ (cut s.data.toList).length := by have := cut_ne s.data.toList; cases h : cut s.data.toList <;> simp_all
  exact .inr ⟨h.next, _, 0, [], 0, rfl, by omega, by simp [strs], h1, Nat.lt_succ_self _, Hp.get_push_self _ _, by simp [strs]; exact h1, Nat.le_refl _, by simp⟩

/-- What Split returns. -/
def SplitP (s : ByteArray) (h : Hp) (v : Value) (h' : Hp) : Prop := Keep h h' ∧ match split s with
  | none => v = .tuple #[.slice none 0 0, .int .i64 3]
  | some ps => ∃ sl, v = .tuple #[sl, .int .i64 0] ∧ Grown h.next h' sl 9 1 (strs ps)
theorem SplitP.no {s : ByteArray} {h h' : Hp} (k : Keep h h') (e : split s = none) : SplitP s h (.tuple #[.slice none 0 0, .int .i64 3]) h' := ⟨k, by rw [e]⟩
theorem SplitP.yes {s : ByteArray} {h h' : Hp} {ps : List ByteArray} {sl : Value} (k : Keep h h') (e : split s = some ps) (g : Grown h.next h' sl 9 1 (strs ps)) : SplitP s h (.tuple #[sl, .int .i64 0]) h' := ⟨k, by rw [e]; exact ⟨sl, rfl, g⟩⟩

theorem split_long {s : ByteArray} (h : 168 < s.size) : split s = none := by
  unfold split
  split
  · rfl
  · rename_i c l hs
    have : s.size = l.length + 1 := by rw [size_eq, hs]; rfl
    split
    · split
      · rename_i hl; subst hl; simp at this; omega
      · rfl
    · rfl
theorem split_head {s : ByteArray} (h : (s.data.toList.head? == some 62) = false) : split s = none := by
  unfold split
  split
  · rfl
  · rename_i c l hs
    rw [hs] at h
    simp at h
    rw [if_neg h]
theorem split_at {s : ByteArray} {l : List UInt8} (hs : s.data.toList = 62 :: l) (hl : l ≠ []) (hz : s.size ≤ 168) : split s = if 16 < (cut l).length then none else if ((cut l).map ofL).all mayN then some ((cut l).map ofL) else none := by
  unfold split
  rw [hs]
  simp only [if_true, if_neg hl, if_neg (show ¬ 168 < s.size by omega)]
theorem split_root : split ⟨#[62]⟩ = some [] := rfl

theorem split_spec (s : ByteArray) (h : Hp) : Meets kon 84 [.string s] h (SplitP s h) := by
  refine Meets.mk rfl (by kernel_rfl) Tryz.func84 rfl (congrArg Array.toList Tryz.results84) ?_
  rcases Bool.eq_false_or_eq_true (decide (s = (ByteArray.mk #[62]))) with e1 | e1
  · simp only [evr, nextP_norm, evd, evq, beq_self_eq_true, cond_true, cond_false, reduceIte, Nat.reduceEqDiff, Nat.reduceAdd, Int.reduceBNe, Int.reduceBEq, Int.reduceLT, Int.reduceLE, Int.reduceEq, typs, e1]
    obtain rfl := of_decide_eq_true e1
    exact .yes (Keep.refl _) split_root (.inl ⟨rfl, rfl⟩)
  rcases Bool.eq_false_or_eq_true (decide ((168 : Int) < s.size)) with e2 | e2
  · simp only [evr, nextP_norm, evd, evq, beq_self_eq_true, cond_true, cond_false, reduceIte, Nat.reduceEqDiff, Nat.reduceAdd, Int.reduceBNe, Int.reduceBEq, Int.reduceLT, Int.reduceLE, Int.reduceEq, typs, e1, e2]
    exact .no (Keep.refl _) (split_long (by simp at e2; omega))
  have hz : s.size ≤ 168 := by simp at e2; omega
  rcases Bool.eq_false_or_eq_true (s.data.toList.head? == some 62) with e3 | e3
  · obtain ⟨l, hl⟩ : ∃ l, s.data.toList = 62 :: l := by
      cases hs : s.data.toList with
      | nil => rw [hs] at e3; simp at e3
      | cons c l => rw [hs] at e3; simp at e3; exact ⟨l, by rw [e3]⟩
    have hs1 : 1 ≤ s.size := by rw [size_eq, hl]; simp
    have hl0 : l ≠ [] := by
      rintro rfl
      exact absurd (ba_ext (a := s) (b := ByteArray.mk #[62]) hl) (of_decide_eq_false e1)
    obtain ⟨c, l', hc, h1, _⟩ := head_of hs1
    have hll : l' = l := by rw [hl] at hc; exact (List.cons.inj hc).2.symm
    subst hll
    have hsl := (L_sliceStr (C := kon) (t := 9) (by kernel_rfl)).1 s .i64 1 (by omega) (by omega)
    rw [show Int.toNat 1 = 1 from rfl] at hsl
    generalize hu : s.extract 1 s.size = u at hsl h1
    have hus : u.size < 4294967281 := by
      rw [size_eq, h1]
      have : s.size = l'.length + 1 := by rw [size_eq, hl]; rfl
      omega
    simp only [evr, nextP_norm, evd, evq, beq_self_eq_true, cond_true, cond_false, reduceIte, Nat.reduceEqDiff, Nat.reduceAdd, Int.reduceBNe, Int.reduceBEq, Int.reduceLT, Int.reduceLE, Int.reduceEq, typs, e1, e2, (prefix_spec s h).call, e3, hsl, (splitLib_spec u h hus).call]
    have hlen : evLen kon.P 46 (splitSl h u) = some (.int .i64 ((cut l').length : Nat)) := by rw [← h1]; exact evLen_slice (e := 9) (by kernel_rfl)
    have hk := splitHp_keep h u
    have hg := splitSl_grown h u
    rw [h1] at hg
    have hst : StrSl (splitHp h u) (splitSl h u) ((cut l').map ofL) := hg.slAt
    have hsp := split_at hl hl0 hz
    generalize splitSl h u = sl at *
    generalize splitHp h u = h1 at *
    rcases Bool.eq_false_or_eq_true (decide ((16 : Int) < (cut l').length)) with e4 | e4
    · simp only [evr, nextP_norm, evd, evq, beq_self_eq_true, cond_true, cond_false, reduceIte, Nat.reduceEqDiff, Nat.reduceAdd, Int.reduceBNe, Int.reduceBEq, Int.reduceLT, Int.reduceLE, Int.reduceEq, typs, hlen, e4]
      exact .no hk (by rw [hsp, if_pos (by simp at e4; omega)])
    simp only [evr, nextP_norm, evd, evq, beq_self_eq_true, cond_true, cond_false, reduceIte, Nat.reduceEqDiff, Nat.reduceAdd, Int.reduceBNe, Int.reduceBEq, Int.reduceLT, Int.reduceLE, Int.reduceEq, typs, hlen, e4]
    have h16 : (cut l').length ≤ 16 := by simp at e4; omega
    rw [if_neg (by omega)] at hsp
    refine Wp_loop (fun k fr h' => h' = h1 ∧ ∃ i : Nat, k = (cut l').length - i ∧ i ≤ (cut l').length ∧ fr.get 4 = some sl ∧ fr.get 23 = some sl ∧ fr.get 24 = some (.int .i64 (cut l').length) ∧ fr.get 25 = some (.int .i64 i) ∧
      (((cut l').map ofL).take i).all mayN = true) (cut l').length ⟨rfl, 0, rfl, Nat.zero_le _, ?_, ?_, ?_, ?_, rfl⟩ ?_
    · simp only [evr, nextP_norm, evd, evq, beq_self_eq_true, cond_true, cond_false, reduceIte, Nat.reduceEqDiff, Nat.reduceAdd, Int.reduceBNe, Int.reduceBEq, Int.reduceLT, Int.reduceLE, Int.reduceEq, typs]
    · simp only [evr, nextP_norm, evd, evq, beq_self_eq_true, cond_true, cond_false, reduceIte, Nat.reduceEqDiff, Nat.reduceAdd, Int.reduceBNe, Int.reduceBEq, Int.reduceLT, Int.reduceLE, Int.reduceEq, typs]
    · simp only [evr, nextP_norm, evd, evq, beq_self_eq_true, cond_true, cond_false, reduceIte, Nat.reduceEqDiff, Nat.reduceAdd, Int.reduceBNe, Int.reduceBEq, Int.reduceLT, Int.reduceLE, Int.reduceEq, typs]
    · simp only [evr, nextP_norm, evd, evq, beq_self_eq_true, cond_true, cond_false, reduceIte, Nat.reduceEqDiff, Nat.reduceAdd, Int.reduceBNe, Int.reduceBEq, Int.reduceLT, Int.reduceLE, Int.reduceEq, typs]
      rfl
    rintro k fr h' ⟨rfl, i, rfl, hi, g4, g23, g24, g25, hp⟩
    by_cases h3 : i < (cut l').length
    · have e5 : decide ((i : Int) < (cut l').length) = true := by simp; omega
      obtain ⟨x, hx⟩ : ∃ x, ((cut l').map ofL)[i]? = some x := ⟨_, List.getElem?_eq_getElem (by simpa using h3)⟩
      obtain ⟨p, ha, hld⟩ := hst.at hx
      cases hm : mayN x with
      | false =>
        simp only [evr, nextP_norm, evd, evq, beq_self_eq_true, cond_true, cond_false, reduceIte, Nat.reduceEqDiff, Nat.reduceAdd, Int.reduceBNe, Int.reduceBEq, Int.reduceLT, Int.reduceLE, Int.reduceEq, typs, g4, g23, g24, g25, e5, ha, hld, (may_spec x h').call, hm]
        refine .no hk ?_
        rw [hsp, if_neg]
        intro hall
        rw [List.all_eq_true] at hall
        have := hall x (List.mem_of_getElem? hx)
        rw [hm] at this; cases this
      | true =>
        simp only [evr, nextP_norm, evd, evq, beq_self_eq_true, cond_true, cond_false, reduceIte, Nat.reduceEqDiff, Nat.reduceAdd, Int.reduceBNe, Int.reduceBEq, Int.reduceLT, Int.reduceLE, Int.reduceEq, typs, g4, g23, g24, g25, e5, ha, hld, (may_spec x h').call, hm, wrap64 (x := (i : Int) + 1) (by omega) (by omega)]
        refine ⟨(cut l').length - (i + 1), by omega, i + 1, rfl, by omega, rfl, ?_⟩
        rw [List.take_add_one, hx, List.all_append, hp]
        simp [hm]
    · have e5 : decide ((i : Int) < (cut l').length) = false := by simp; omega
      simp only [evr, nextP_norm, evd, evq, beq_self_eq_true, cond_true, cond_false, reduceIte, Nat.reduceEqDiff, Nat.reduceAdd, Int.reduceBNe, Int.reduceBEq, Int.reduceLT, Int.reduceLE, Int.reduceEq, typs, g4, g23, g24, g25, e5]
      rw [List.take_of_length_le (by simp; omega)] at hp
      exact .yes hk (by rw [hsp, if_pos hp]) hg
  · simp only [evr, nextP_norm, evd, evq, beq_self_eq_true, cond_true, cond_false, reduceIte, Nat.reduceEqDiff, Nat.reduceAdd, Int.reduceBNe, Int.reduceBEq, Int.reduceLT, Int.reduceLE, Int.reduceEq, typs, e1, e2, (prefix_spec s h).call, e3]
    exact .no (Keep.refl _) (split_head e3)
end Go.Proofs.YtncmgiddcefpcaaGreatDoor
