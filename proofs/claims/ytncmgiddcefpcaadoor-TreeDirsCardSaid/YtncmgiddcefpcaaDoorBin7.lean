/- Texts joined: what the claim needs of them. No condition. -/
import Derived.Test.YtncmgiddcefpcaaDoorBin6
import Derived.Test.YtncmgiddcefpcaaDoorBin5
import Derived.Test.YtncmgiddcefpcaaDoorBin4
namespace Go.Proofs.YtncmgiddcefpcaaDoor
open Go Go.Ev Go.Con
set_option linter.unusedSimpArgs false
set_option linter.unusedVariables false
set_option maxRecDepth 100000
theorem stroke_size : (ByteArray.mk #[62]).size = 1 := rfl
theorem head_of {s : ByteArray} (h : 1 ≤ s.size) : ∃ c l, s.data.toList = c :: l ∧ (s.extract 1 s.size).data.toList = l ∧ (s.extract 0 1).data.toList = [c] := by
  have hl : 1 ≤ s.data.toList.length := by rw [Array.length_toList]; exact h
  cases hs : s.data.toList with
  | nil => rw [hs] at hl; simp at hl
  | cons c l =>
    have e1 : (s.extract 1 s.size).data.toList = l := by
      rw [ByteArray.data_extract, Array.toList_extract, List.extract_eq_take_drop, hs]
      have : s.size = (c :: l).length := by rw [← hs, Array.length_toList]; rfl
      rw [this]; simp
    have e2 : (s.extract 0 1).data.toList = [c] := by
      rw [ByteArray.data_extract, Array.toList_extract, List.extract_eq_take_drop, hs]; simp
    exact ⟨c, l, rfl, e1, e2⟩
theorem prefixS_spec (s : ByteArray) (h : Hp) : Meets kon 109 [.string s, .string ⟨#[62]⟩] h fun v h' => v = .bool (s.data.toList.head? == some 62) ∧ h' = h := by
  refine Meets.mk rfl (by kernel_rfl) Tryd.func109 rfl (congrArg Array.toList Tryd.results109) ?_
  rcases Bool.eq_false_or_eq_true (decide ((1 : Int) ≤ s.size)) with e1 | e1
  · have h1 : 1 ≤ s.size := by simp at e1; omega
    obtain ⟨c, l, hc, _, h2⟩ := head_of h1
    have hsl := (L_sliceStr (C := kon) (t := 9) (by kernel_rfl)).2.2 s .i64 1 (by omega) (by omega)
    have he : decide (s.extract 0 (Int.toNat 1) = (ByteArray.mk #[62])) = (s.data.toList.head? == some 62) := by
      rw [hc, Bool.eq_iff_iff]
      simp only [decide_eq_true_eq, List.head?_cons, beq_iff_eq, Option.some.injEq]
      constructor
      · intro e
        have : (s.extract 0 1).data.toList = [62] := by rw [show s.extract 0 1 = (ByteArray.mk #[62]) from e]
        rw [h2] at this; simpa using this
      · rintro rfl
        exact ba_ext h2
    simp only [evr, nextP_norm, evd, evq, beq_self_eq_true, cond_true, cond_false, reduceIte, Nat.reduceEqDiff, Nat.reduceAdd, Int.reduceBNe, Int.reduceBEq, Int.reduceLT, Int.reduceLE, Int.reduceEq, typs, stroke_size, Int.natCast_one, e1, hsl, he]
  · simp only [evr, nextP_norm, evd, evq, beq_self_eq_true, cond_true, cond_false, reduceIte, Nat.reduceEqDiff, Nat.reduceAdd, Int.reduceBNe, Int.reduceBEq, Int.reduceLT, Int.reduceLE, Int.reduceEq, typs, stroke_size, Int.natCast_one, e1]
    have : s.data.toList = [] := List.length_eq_zero_iff.1 (by rw [Array.length_toList]; simp at e1; show s.size = 0; omega)
    rw [this]; rfl
theorem prefix_spec (s : ByteArray) (h : Hp) : Meets kon 74 [.string s, .string ⟨#[62]⟩] h fun v h' => v = .bool (s.data.toList.head? == some 62) ∧ h' = h := by
  refine Meets.mk rfl (by kernel_rfl) Tryd.func74 rfl (congrArg Array.toList Tryd.results74) ?_
  simp only [evr, nextP_norm, evd, evq, beq_self_eq_true, cond_true, cond_false, reduceIte, Nat.reduceEqDiff, Nat.reduceAdd, Int.reduceBNe, Int.reduceBEq, Int.reduceLT, Int.reduceLE, Int.reduceEq, typs, (prefixS_spec s h).call]
def splitHp (h : Hp) (s : ByteArray) : Hp := h.push (.row (strs ((cut s.data.toList).map ofL)) 9 (.rw 0 []))
def splitSl (h : Hp) (s : ByteArray) : Value := .slice (some ⟨h.next, 0, none⟩) (cut s.data.toList).length (2 * (cut s.data.toList).length)
theorem splitLib_spec (s : ByteArray) (h : Hp) (hs : s.size < 4294967281) : Meets kon 75 [.string s, .string ⟨#[62]⟩] h fun v h' => v = splitSl h s ∧ h' = splitHp h s := by
  have hb := splitB_cut s
  have hl : Lib.countB s (ofL [62]) + 1 = (cut s.data.toList).length := by
    have hk := splitK_cut (Lib.count s.data.toList [62]) s.data.toList rfl
    have key : ∀ (n : Nat) (l : List UInt8), Lib.count l [62] = n → (Lib.splitK [62] 0 n l).length = n + 1 := by
      intro n
      induction n with
      | zero => intro l _; rfl
      | succ n ih =>
        intro l hc
        have hm : ¬ Lib.index l [62] = -1 := fun e => by rw [Lib.count_miss e] at hc; omega
        have hg := Lib.index_ge l [62]
        obtain ⟨i, hi⟩ : ∃ i : Nat, Lib.index l [62] = i := ⟨(Lib.index l [62]).toNat, by omega⟩
        rw [Lib.count_hit (by simp) hi] at hc
        have e : (Lib.index l [62]).toNat = i := by omega
        unfold Lib.splitK
        rw [if_neg (fun e => hm (beq_iff_eq.1 e)), e]
        have h5 : ([62] : List UInt8).length = 1 := rfl
        rw [h5] at hc
        exact congrArg Nat.succ (ih _ (by rw [h5]; omega))
    have := key _ s.data.toList rfl
    rw [hk] at this
    exact this.symm
  refine ⟨_, _, Ret.sum (s := sumSplit 9) rfl (v := splitSl h s) (h' := splitHp h s) ?_, rfl, rfl⟩
  show (bif decide (s.size < 4294967281) && decide (1 ≤ (ofL [62]).size) then some (Value.slice (some ⟨h.next, 0, none⟩) (Lib.countB s (ofL [62]) + 1) (2 * (Lib.countB s (ofL [62]) + 1)), h.push (.row ((Lib.splitB (ofL [62]) 0 (Lib.countB s (ofL [62])) s).map Value.string) 9 (.rw 0 []))) else none) = _
  rw [decide_eq_true hs, hb, hl]
  rfl
theorem splitHp_keep (h : Hp) (s : ByteArray) : Keep h (splitHp h s) := Keep.push _ _
theorem splitSl_grown (h : Hp) (s : ByteArray) : Grown h.next (splitHp h s) (splitSl h s) 9 1 (strs ((cut s.data.toList).map ofL)) := by
  have h1 : 1 ≤ (cut s.data.toList).length := by have := cut_ne s.data.toList; cases h : cut s.data.toList <;> simp_all
  exact .inr ⟨h.next, _, 0, [], 0, rfl, by omega, by simp [strs], h1, Nat.lt_succ_self _, Hp.get_push_self _ _, by simp [strs]; exact h1, Nat.le_refl _, by simp⟩
def SplitP (s : ByteArray) (h : Hp) (v : Value) (h' : Hp) : Prop := Keep h h' ∧ match split s with
  | none => v = .tuple #[.slice none 0 0, .int .i64 3]
  | some ps => ∃ sl, v = .tuple #[sl, .int .i64 0] ∧ Grown h.next h' sl 9 1 (strs ps)
theorem SplitP.no {s : ByteArray} {h h' : Hp} (k : Keep h h') (e : split s = none) : SplitP s h (.tuple #[.slice none 0 0, .int .i64 3]) h' := ⟨k, by rw [e]⟩
theorem SplitP.yes {s : ByteArray} {h h' : Hp} {ps : List ByteArray} {sl : Value} (k : Keep h h') (e : split s = some ps) (g : Grown h.next h' sl 9 1 (strs ps)) : SplitP s h (.tuple #[sl, .int .i64 0]) h' := ⟨k, by rw [e]; exact ⟨sl, rfl, g⟩⟩
theorem split_long {s : ByteArray} (h : 168 < s.size) : split s = none := by
  unfold split
  split
  · rfl
  · rename_i c l hs
    have : s.size = l.length + 1 := by rw [size_eq, hs]; rfl
    split
    · split
      · rename_i hl; subst hl; simp at this; omega
      · rfl
    · rfl
theorem split_head {s : ByteArray} (h : (s.data.toList.head? == some 62) = false) : split s = none := by
  unfold split
  split
  · rfl
  · rename_i c l hs
    rw [hs] at h
    simp at h
    rw [if_neg h]
theorem split_at {s : ByteArray} {l : List UInt8} (hs : s.data.toList = 62 :: l) (hl : l ≠ []) (hz : s.size ≤ 168) : split s = if 16 < (cut l).length then none else if ((cut l).map ofL).all mayN then some ((cut l).map ofL) else none := by
  unfold split
  rw [hs]
  simp only [if_true, if_neg hl, if_neg (show ¬ 168 < s.size by omega)]
theorem split_root : split ⟨#[62]⟩ = some [] := rfl
theorem split_spec (s : ByteArray) (h : Hp) : Meets kon 23 [.string s] h (SplitP s h) := by
  refine Meets.mk rfl (by kernel_rfl) Tryd.func23 rfl (congrArg Array.toList Tryd.results23) ?_
  rcases Bool.eq_false_or_eq_true (decide (s = (ByteArray.mk #[62]))) with e1 | e1
  · simp only [evr, nextP_norm, evd, evq, beq_self_eq_true, cond_true, cond_false, reduceIte, Nat.reduceEqDiff, Nat.reduceAdd, Int.reduceBNe, Int.reduceBEq, Int.reduceLT, Int.reduceLE, Int.reduceEq, typs, e1]
    obtain rfl := of_decide_eq_true e1
    exact .yes (Keep.refl _) split_root (.inl ⟨rfl, rfl⟩)
  rcases Bool.eq_false_or_eq_true (decide ((168 : Int) < s.size)) with e2 | e2
  · simp only [evr, nextP_norm, evd, evq, beq_self_eq_true, cond_true, cond_false, reduceIte, Nat.reduceEqDiff, Nat.reduceAdd, Int.reduceBNe, Int.reduceBEq, Int.reduceLT, Int.reduceLE, Int.reduceEq, typs, e1, e2]
    exact .no (Keep.refl _) (split_long (by simp at e2; omega))
  have hz : s.size ≤ 168 := by simp at e2; omega
  rcases Bool.eq_false_or_eq_true (s.data.toList.head? == some 62) with e3 | e3
  · obtain ⟨l, hl⟩ : ∃ l, s.data.toList = 62 :: l := by
      cases hs : s.data.toList with
      | nil => rw [hs] at e3; simp at e3
      | cons c l => rw [hs] at e3; simp at e3; exact ⟨l, by rw [e3]⟩
    have hs1 : 1 ≤ s.size := by rw [size_eq, hl]; simp
    have hl0 : l ≠ [] := by
      rintro rfl
      exact absurd (ba_ext (a := s) (b := ByteArray.mk #[62]) hl) (of_decide_eq_false e1)
    obtain ⟨c, l', hc, h1, _⟩ := head_of hs1
    have hll : l' = l := by rw [hl] at hc; exact (List.cons.inj hc).2.symm
    subst hll
    have hsl := (L_sliceStr (C := kon) (t := 9) (by kernel_rfl)).1 s .i64 1 (by omega) (by omega)
    rw [show Int.toNat 1 = 1 from rfl] at hsl
    generalize hu : s.extract 1 s.size = u at hsl h1
    have hus : u.size < 4294967281 := by
      rw [size_eq, h1]
      have : s.size = l'.length + 1 := by rw [size_eq, hl]; rfl
      omega
    simp only [evr, nextP_norm, evd, evq, beq_self_eq_true, cond_true, cond_false, reduceIte, Nat.reduceEqDiff, Nat.reduceAdd, Int.reduceBNe, Int.reduceBEq, Int.reduceLT, Int.reduceLE, Int.reduceEq, typs, e1, e2, (prefix_spec s h).call, e3, hsl, (splitLib_spec u h hus).call]
    have hlen : evLen kon.P 23 (splitSl h u) = some (.int .i64 ((cut l').length : Nat)) := by rw [← h1]; exact evLen_slice (e := 9) (by kernel_rfl)
    have hk := splitHp_keep h u
    have hg := splitSl_grown h u
    rw [h1] at hg
    have hst : StrSl (splitHp h u) (splitSl h u) ((cut l').map ofL) := hg.slAt
    have hsp := split_at hl hl0 hz
    generalize splitSl h u = sl at *
    generalize splitHp h u = h1 at *
    rcases Bool.eq_false_or_eq_true (decide ((16 : Int) < (cut l').length)) with e4 | e4
    · simp only [evr, nextP_norm, evd, evq, beq_self_eq_true, cond_true, cond_false, reduceIte, Nat.reduceEqDiff, Nat.reduceAdd, Int.reduceBNe, Int.reduceBEq, Int.reduceLT, Int.reduceLE, Int.reduceEq, typs, hlen, e4]
      exact .no hk (by rw [hsp, if_pos (by simp at e4; omega)])
    simp only [evr, nextP_norm, evd, evq, beq_self_eq_true, cond_true, cond_false, reduceIte, Nat.reduceEqDiff, Nat.reduceAdd, Int.reduceBNe, Int.reduceBEq, Int.reduceLT, Int.reduceLE, Int.reduceEq, typs, hlen, e4]
    have h16 : (cut l').length ≤ 16 := by simp at e4; omega
    rw [if_neg (by omega)] at hsp
    refine Wp_loop (fun k fr h' => h' = h1 ∧ ∃ i : Nat, k = (cut l').length - i ∧ i ≤ (cut l').length ∧ fr.get 4 = some sl ∧ fr.get 23 = some sl ∧ fr.get 24 = some (.int .i64 (cut l').length) ∧ fr.get 25 = some (.int .i64 i) ∧
      (((cut l').map ofL).take i).all mayN = true) (cut l').length ⟨rfl, 0, rfl, Nat.zero_le _, ?_, ?_, ?_, ?_, rfl⟩ ?_
    · simp only [evr, nextP_norm, evd, evq, beq_self_eq_true, cond_true, cond_false, reduceIte, Nat.reduceEqDiff, Nat.reduceAdd, Int.reduceBNe, Int.reduceBEq, Int.reduceLT, Int.reduceLE, Int.reduceEq, typs]
    · simp only [evr, nextP_norm, evd, evq, beq_self_eq_true, cond_true, cond_false, reduceIte, Nat.reduceEqDiff, Nat.reduceAdd, Int.reduceBNe, Int.reduceBEq, Int.reduceLT, Int.reduceLE, Int.reduceEq, typs]
    · simp only [evr, nextP_norm, evd, evq, beq_self_eq_true, cond_true, cond_false, reduceIte, Nat.reduceEqDiff, Nat.reduceAdd, Int.reduceBNe, Int.reduceBEq, Int.reduceLT, Int.reduceLE, Int.reduceEq, typs]
    · simp only [evr, nextP_norm, evd, evq, beq_self_eq_true, cond_true, cond_false, reduceIte, Nat.reduceEqDiff, Nat.reduceAdd, Int.reduceBNe, Int.reduceBEq, Int.reduceLT, Int.reduceLE, Int.reduceEq, typs]
      rfl
    rintro k fr h' ⟨rfl, i, rfl, hi, g4, g23, g24, g25, hp⟩
    by_cases h3 : i < (cut l').length
    · have e5 : decide ((i : Int) < (cut l').length) = true := by simp; omega
      obtain ⟨x, hx⟩ : ∃ x, ((cut l').map ofL)[i]? = some x := ⟨_, List.getElem?_eq_getElem (by simpa using h3)⟩
      obtain ⟨p, ha, hld⟩ := hst.at hx
      cases hm : mayN x with
      | false =>
        simp only [evr, nextP_norm, evd, evq, beq_self_eq_true, cond_true, cond_false, reduceIte, Nat.reduceEqDiff, Nat.reduceAdd, Int.reduceBNe, Int.reduceBEq, Int.reduceLT, Int.reduceLE, Int.reduceEq, typs, g4, g23, g24, g25, e5, ha, hld, (may_spec x h').call, hm]
        refine .no hk ?_
        rw [hsp, if_neg]
        intro hall
        rw [List.all_eq_true] at hall
        have := hall x (List.mem_of_getElem? hx)
        rw [hm] at this; cases this
      | true =>
        simp only [evr, nextP_norm, evd, evq, beq_self_eq_true, cond_true, cond_false, reduceIte, Nat.reduceEqDiff, Nat.reduceAdd, Int.reduceBNe, Int.reduceBEq, Int.reduceLT, Int.reduceLE, Int.reduceEq, typs, g4, g23, g24, g25, e5, ha, hld, (may_spec x h').call, hm, wrap64 (x := (i : Int) + 1) (by omega) (by omega)]
        refine ⟨(cut l').length - (i + 1), by omega, i + 1, rfl, by omega, rfl, ?_⟩
        rw [List.take_add_one, hx, List.all_append, hp]
        simp [hm]
    · have e5 : decide ((i : Int) < (cut l').length) = false := by simp; omega
      simp only [evr, nextP_norm, evd, evq, beq_self_eq_true, cond_true, cond_false, reduceIte, Nat.reduceEqDiff, Nat.reduceAdd, Int.reduceBNe, Int.reduceBEq, Int.reduceLT, Int.reduceLE, Int.reduceEq, typs, g4, g23, g24, g25, e5]
      rw [List.take_of_length_le (by simp; omega)] at hp
      exact .yes hk (by rw [hsp, if_pos hp]) hg
  · simp only [evr, nextP_norm, evd, evq, beq_self_eq_true, cond_true, cond_false, reduceIte, Nat.reduceEqDiff, Nat.reduceAdd, Int.reduceBNe, Int.reduceBEq, Int.reduceLT, Int.reduceLE, Int.reduceEq, typs, e1, e2, (prefix_spec s h).call, e3]
    exact .no (Keep.refl _) (split_head e3)
end Go.Proofs.YtncmgiddcefpcaaDoor
namespace Go.Proofs.YtncmgiddcefpcaaDoor
open Go Go.Ev Go.Con
set_option linter.unusedSimpArgs false
set_option linter.unusedVariables false
set_option maxRecDepth 100000
def bkV (b : Bk) : Value := .agg #[.int .i64 b.r1, .int .i64 b.r2, .int .i64 b.r3, .int .i64 b.g]
def tmC (t : Tm) : List Value := [.string t.user, .bool t.f.r, .bool t.f.w, .bool t.f.e]
def tmV (t : Tm) : Value := .agg #[.string t.user, .bool t.f.r, .bool t.f.w, .bool t.f.e]
def tms (l : List Tm) : List Value := (l.map tmC).flatten
abbrev TmTy (h : Hp) (F : Nat → Prop) (v : Value) (l : List Tm) : Prop := SlTy h F 64 4 v (tms l)
abbrev TmSl (h : Hp) (v : Value) (l : List Tm) : Prop := SlAt h 4 v (tms l)
theorem tms_len (l : List Tm) : (tms l).length = l.length * 4 := by
  induction l with
  | nil => rfl
  | cons a l ih => simp only [tms, List.map_cons, List.flatten_cons, List.length_append] at ih ⊢; rw [ih]; simp [tmC]; omega
theorem tms_at (l : List Tm) {i : Nat} {x : Tm} (h : l[i]? = some x) : ((tms l).drop (i * 4)).take 4 = tmC x := by
  induction l generalizing i with
  | nil => simp at h
  | cons a l ih =>
    cases i with
    | zero =>
      simp at h; subst h
      simp [tms, tmC]
    | succ i =>
      have := ih (by simpa using h)
      have e : tms (a :: l) = tmC a ++ tms l := by simp [tms]
      rw [e, List.drop_append, show (tmC a).length = 4 from rfl, List.drop_eq_nil_of_le (by simp [tmC]; omega), List.nil_append, show (i + 1) * 4 - 4 = i * 4 by omega]
      exact this
theorem tms_cell (l : List Tm) : (tms l).all isCell = true := by
  rw [List.all_eq_true]; intro x hx
  simp only [tms, List.mem_flatten, List.mem_map] at hx
  obtain ⟨c, ⟨t, _, rfl⟩, hx⟩ := hx
  simp only [tmC, List.mem_cons, List.not_mem_nil, or_false] at hx
  rcases hx with rfl | rfl | rfl | rfl <;> rfl
theorem TmSl.len {h : Hp} {v : Value} {l : List Tm} (s : TmSl h v l) : evLen kon.P 37 v = some (.int .i64 l.length) := by
  rcases s with ⟨rfl, hl⟩ | ⟨b, o, k, c, all, rfl, h2, h3, h4, h5, h6⟩
  · have : (tms l).length = 0 := by rw [hl]; rfl
    rw [tms_len] at this
    have : l = [] := List.length_eq_zero_iff.1 (by omega)
    subst this
    exact evLen_slice (e := 64) (by kernel_rfl)
  · have : l.length = k := by rw [tms_len] at h5; omega
    subst this
    exact evLen_slice (e := 64) (by kernel_rfl)
theorem TmSl.at {h : Hp} {v : Value} {l : List Tm} (s : TmSl h v l) {i : Nat} {x : Tm} (hi : l[i]? = some x) : ∃ b o all, evIndexAddr kon.P 37 v (.int .i64 i) = some (.pointer (some ⟨b, o, none⟩)) ∧ b < h.next ∧
    rowOf h b = some all ∧ o + 4 ≤ all.length ∧ (all.drop o).take 4 = tmC x := by
  have hlt : i < l.length := (List.getElem?_eq_some_iff.1 hi).1
  rcases s with ⟨rfl, hl⟩ | ⟨b, o, k, c, all, rfl, h2, h3, h4, h5, h6⟩
  · have : (tms l).length = 0 := by rw [hl]; rfl
    rw [tms_len] at this; omega
  · have hk : l.length = k := by rw [tms_len] at h5; omega
    subst hk
    have hz : o + l.length * 4 ≤ all.length := by
      have := congrArg List.length h6
      rw [List.length_take, List.length_drop, tms_len] at this; omega
    refine ⟨b, o + i * 4, all, ?_, h3, h4, by omega, ?_⟩
    · have := L_indexAddr (C := kon) (t := 37) (e := 64) (n := 4) (by kernel_rfl) (by kernel_rfl) b o l.length c .i64 i (by omega) (by omega)
      simpa using this
    · rw [← tms_at l hi, ← h6, List.drop_take, List.take_take, List.drop_drop]
      congr 1; omega
theorem TmSl.load {h : Hp} {v : Value} {l : List Tm} (s : TmSl h v l) {i : Nat} {x : Tm} (hi : l[i]? = some x) : ∃ p, evIndexAddr kon.P 37 v (.int .i64 i) = some p ∧ evLoad kon.P 64 p h = some (tmV x) := by
  obtain ⟨b, o, all, h1, _, h2, h3, h4⟩ := s.at hi
  refine ⟨_, h1, ?_⟩
  rw [L_loadA (C := kon) (t := 64) (n := 4) (by kernel_rfl) (by kernel_rfl), h2, Option.bind_some, aggAt_eq h3, h4]; rfl
theorem auser_spec (s : ByteArray) (h : Hp) : Meets kon 114 [.string s] h fun v h' => v = .bool (userT s) ∧ h' = h := by
  refine Meets.mk rfl (by kernel_rfl) Tryd.func114 rfl (congrArg Array.toList Tryd.results114) ?_
  rcases Bool.eq_false_or_eq_true (decide (s = (ByteArray.mk #[42]))) with e1 | e1
  · simp only [evr, nextP_norm, evd, evq, beq_self_eq_true, cond_true, cond_false, reduceIte, Nat.reduceEqDiff, Nat.reduceAdd, Int.reduceBNe, Int.reduceBEq, Int.reduceLT, Int.reduceLE, Int.reduceEq, typs, e1]
    unfold userT star; rw [e1]; rfl
  · simp only [evr, nextP_norm, evd, evq, beq_self_eq_true, cond_true, cond_false, reduceIte, Nat.reduceEqDiff, Nat.reduceAdd, Int.reduceBNe, Int.reduceBEq, Int.reduceLT, Int.reduceLE, Int.reduceEq, typs, e1, (user_spec s h).call]
    unfold userT star; rw [e1]; rfl
theorem cmpLib_spec (s u : ByteArray) (h : Hp) : Meets kon 127 [.string s, .string u] h fun v h' => v = .int .i64 (Lib.compareBytes s.data.toList u.data.toList) ∧ h' = h :=
  ⟨_, _, Ret.sum (s := sumCmp Lib.compareBytes) rfl rfl, rfl, rfl⟩
theorem acompare_spec (a b : Tm) (h : Hp) : Meets kon 115 [tmV a, tmV b] h fun v h' => v = .int .i64 (Lib.compareBytes a.user.data.toList b.user.data.toList) ∧ Keep h h' := by
  unfold tmV
  refine Meets.mk rfl (by kernel_rfl) Tryd.func115 rfl (congrArg Array.toList Tryd.results115) ?_
  simp only [evr, nextP_norm, evd, evq, beq_self_eq_true, cond_true, cond_false, reduceIte, Nat.reduceEqDiff, Nat.reduceAdd, Int.reduceBNe, Int.reduceBEq, Int.reduceLT, Int.reduceLE, Int.reduceEq, evh, evp, Nat.reduceLeDiff, Nat.reduceSub, Nat.reduceBEq, typs, (cmpLib_spec a.user b.user _).call]
  exact ((Keep.push _ _).pushed)
theorem tmAt_eq {l : List Tm} {i : Nat} {x : Tm} (h : l[i]? = some x) : tmAt l i = x := by unfold tmAt; rw [h]; rfl
theorem all_succ {f : Nat → Bool} {i : Nat} (h : (List.range i).all f = true) (hi : f i = true) : (List.range (i + 1)).all f = true := by
  rw [List.range_succ, List.all_append, h]; simp [hi]
theorem all_no {f : Nat → Bool} {i n : Nat} (hi : i < n) (h : f i = false) : (List.range n).all f = false := by
  rw [Bool.eq_false_iff]; intro ha
  have := List.all_eq_true.1 ha i (List.mem_range.2 hi)
  rw [h] at this; cases this
theorem aMay_spec {h : Hp} {v : Value} {l : List Tm} (s : TmSl h v l) (hl : l.length ≤ 1000000000) : Meets kon 85 [v] h fun u h' => u = .bool (listMay l) ∧ Keep h h' := by
  refine Meets.mk rfl (by kernel_rfl) Tryd.func85 rfl (congrArg Array.toList Tryd.results85) ?_
  have la := s.len
  simp only [evr, nextP_norm, evd, evq, beq_self_eq_true, cond_true, cond_false, reduceIte, Nat.reduceEqDiff, Nat.reduceAdd, Int.reduceBNe, Int.reduceBEq, Int.reduceLT, Int.reduceLE, Int.reduceEq, typs, la]
  refine Wp_loop (fun k fr h' => Keep h h' ∧ ∃ i : Nat, k = l.length - i ∧ i ≤ l.length ∧ fr.get 0 = some v ∧ fr.get 5 = some v ∧ fr.get 6 = some (.int .i64 l.length) ∧ fr.get 7 = some (.int .i64 i) ∧ (List.range i).all (okAt l) = true) l.length ⟨Keep.refl _, 0, rfl, Nat.zero_le _, ?_, ?_, ?_, ?_, rfl⟩ ?_
  · simp only [evr, nextP_norm, evd, evq, beq_self_eq_true, cond_true, cond_false, reduceIte, Nat.reduceEqDiff, Nat.reduceAdd, Int.reduceBNe, Int.reduceBEq, Int.reduceLT, Int.reduceLE, Int.reduceEq, typs]
  · simp only [evr, nextP_norm, evd, evq, beq_self_eq_true, cond_true, cond_false, reduceIte, Nat.reduceEqDiff, Nat.reduceAdd, Int.reduceBNe, Int.reduceBEq, Int.reduceLT, Int.reduceLE, Int.reduceEq, typs]
  · simp only [evr, nextP_norm, evd, evq, beq_self_eq_true, cond_true, cond_false, reduceIte, Nat.reduceEqDiff, Nat.reduceAdd, Int.reduceBNe, Int.reduceBEq, Int.reduceLT, Int.reduceLE, Int.reduceEq, typs]
  · simp only [evr, nextP_norm, evd, evq, beq_self_eq_true, cond_true, cond_false, reduceIte, Nat.reduceEqDiff, Nat.reduceAdd, Int.reduceBNe, Int.reduceBEq, Int.reduceLT, Int.reduceLE, Int.reduceEq, typs]
    rfl
  rintro k fr h' ⟨hk, i, rfl, hi, g0, g5, g6, g7, hp⟩
  by_cases h3 : i < l.length
  · have e3 : decide ((i : Int) < l.length) = true := by simp; omega
    obtain ⟨x, hx⟩ : ∃ x, l[i]? = some x := ⟨_, List.getElem?_eq_getElem h3⟩
    obtain ⟨p, ha, hld⟩ := TmSl.load (s.keep hk) hx
    unfold tmV at hld
    simp only [evr, nextP_norm, evd, evq, beq_self_eq_true, cond_true, cond_false, reduceIte, Nat.reduceEqDiff, Nat.reduceAdd, Int.reduceBNe, Int.reduceBEq, Int.reduceLT, Int.reduceLE, Int.reduceEq, evh, evp, Nat.reduceLeDiff, Nat.reduceSub, Nat.reduceBEq, typs, la, g0, g5, g6, g7, e3, ha, hld, tmC]
    refine Eq.mpr (Wp_drawOrd (KR.mk (by kernel_rfl))) ?_
    generalize hh : (h'.push (Ob.row _ _ _)).set h'.next (Ob.row _ _ _) = h2
    have hk2 : Keep h h2 := by rw [← hh]; exact (hk.pushed).set hk.1
    have hg : h2.get h'.next = some (.row [.string x.user, .bool x.f.r, .bool x.f.w, .bool x.f.e] 64 (.rw 0 [])) := by rw [← hh]; exact Hp.get_set_self _ _ _
    have hr := rowOf_rw hg
    have hx' := tmAt_eq hx
    clear hh
    cases hu : userT x.user with
    | false =>
      simp only [evr, nextP_norm, evd, evq, beq_self_eq_true, cond_true, cond_false, reduceIte, Nat.reduceEqDiff, Nat.reduceAdd, Int.reduceBNe, Int.reduceBEq, Int.reduceLT, Int.reduceLE, Int.reduceEq, evh, evp, Nat.reduceLeDiff, Nat.reduceSub, Nat.reduceBEq, typs, la, g0, g5, g6, g7, hr, (auser_spec x.user _).call, hu]
      refine ⟨?_, hk2⟩
      unfold listMay
      rw [all_no h3 (by unfold okAt; rw [hx', hu]; rfl)]; rfl
    | true =>
      cases i with
      | zero =>
        simp only [evr, nextP_norm, evd, evq, beq_self_eq_true, cond_true, cond_false, reduceIte, Nat.reduceEqDiff, Nat.reduceAdd, Int.reduceBNe, Int.reduceBEq, Int.reduceLT, Int.reduceLE, Int.reduceEq, evh, evp, Nat.reduceLeDiff, Nat.reduceSub, Nat.reduceBEq, typs, la, g0, g5, g6, g7, hr, (auser_spec x.user _).call, hu, Int.natCast_zero, Int.lt_irrefl, wrap64 (x := ((0 : Nat) : Int) + 1) (by omega) (by omega)]
        refine ⟨l.length - 1, by omega, hk2, 1, rfl, by omega, rfl, ?_⟩
        refine all_succ hp ?_
        unfold okAt; rw [hx', hu]; rfl
      | succ j =>
        obtain ⟨y, hy⟩ : ∃ y, l[j]? = some y := ⟨_, List.getElem?_eq_getElem (by omega)⟩
        obtain ⟨p2, ha2, hld2⟩ := TmSl.load (s.keep hk2) hy
        unfold tmV at hld2
        have hy' := tmAt_eq hy
        have e4 : decide ((0 : Int) < ((j + 1 : Nat) : Int)) = true := decide_eq_true (by omega)
        have w1 : IntKind.i64.wrap (((j + 1 : Nat) : Int) - 1) = (j : Int) := by rw [wrap64 (by omega) (by omega)]; omega
        simp only [evr, nextP_norm, evd, evq, beq_self_eq_true, cond_true, cond_false, reduceIte, Nat.reduceEqDiff, Nat.reduceAdd, Int.reduceBNe, Int.reduceBEq, Int.reduceLT, Int.reduceLE, Int.reduceEq, evh, evp, Nat.reduceLeDiff, Nat.reduceSub, Nat.reduceBEq, typs, la, g0, g5, g6, g7, hr, (auser_spec x.user _).call, hu, e4, w1, ha2, hld2]
        refine callP_meets (acompare_spec y x _) ?_
        rintro u h3' ⟨rfl, hk3⟩
        have hok : okAt l (j + 1) = ltS y.user x.user := by
          unfold okAt; rw [hx', hu, Nat.add_sub_cancel, hy']; simp
        rw [ltS_cmp] at hok
        rcases Bool.eq_false_or_eq_true (decide ((0 : Int) ≤ Lib.compareBytes y.user.data.toList x.user.data.toList)) with e5 | e5
        · simp only [evr, nextP_norm, evd, evq, beq_self_eq_true, cond_true, cond_false, reduceIte, Nat.reduceEqDiff, Nat.reduceAdd, Int.reduceBNe, Int.reduceBEq, Int.reduceLT, Int.reduceLE, Int.reduceEq, evh, evp, Nat.reduceLeDiff, Nat.reduceSub, Nat.reduceBEq, typs, la, g0, g5, g6, g7, e5]
          refine ⟨?_, hk2.trans hk3⟩
          unfold listMay
          rw [all_no h3 (by rw [hok]; simp at e5 ⊢; omega)]; rfl
        · simp only [evr, nextP_norm, evd, evq, beq_self_eq_true, cond_true, cond_false, reduceIte, Nat.reduceEqDiff, Nat.reduceAdd, Int.reduceBNe, Int.reduceBEq, Int.reduceLT, Int.reduceLE, Int.reduceEq, evh, evp, Nat.reduceLeDiff, Nat.reduceSub, Nat.reduceBEq, typs, la, g0, g5, g6, g7, e5, wrap64 (x := ((j + 1 : Nat) : Int) + 1) (by omega) (by omega)]
          refine ⟨l.length - (j + 1 + 1), by omega, hk2.trans hk3, j + 1 + 1, rfl, by omega, rfl, ?_⟩
          refine all_succ hp ?_
          rw [hok]; simp at e5 ⊢; omega
  · have e3 : decide ((i : Int) < l.length) = false := by simp; omega
    have hi2 : i = l.length := by omega
    subst hi2
    simp only [evr, nextP_norm, evd, evq, beq_self_eq_true, cond_true, cond_false, reduceIte, Nat.reduceEqDiff, Nat.reduceAdd, Int.reduceBNe, Int.reduceBEq, Int.reduceLT, Int.reduceLE, Int.reduceEq, evh, evp, Nat.reduceLeDiff, Nat.reduceSub, Nat.reduceBEq, typs, la, g0, g5, g6, g7, e3]
    refine ⟨?_, hk⟩
    unfold listMay
    rw [hp]
    simp
    omega
theorem clone_spec {h : Hp} {v : Value} {l : List Tm} (s : TmSl h v l) (hl : l.length ≤ 1000000000) : Meets kon 86 [v] h fun u h' => Keep h h' ∧ TmTy h' (fun b => h.next ≤ b) u l := by
  refine Meets.mk rfl (by kernel_rfl) Tryd.func86 rfl (congrArg Array.toList Tryd.results86) ?_
  rcases id s with ⟨rfl, hn⟩ | ⟨b, o, k, c, all, rfl, h1, h2, h3, h4, h5⟩
  · repeat' (first | simp only [evr, nextP_norm, evd, evq, beq_self_eq_true, cond_true, cond_false, reduceIte, Nat.reduceEqDiff, Nat.reduceAdd, Int.reduceBNe, Int.reduceBEq, Int.reduceLT, Int.reduceLE, Int.reduceEq, evh, evp, Nat.reduceLeDiff, Nat.reduceSub, Nat.reduceBEq, typs] | refine kCond2_by (fun hc => ?_) (fun hc => ?_) <;> try simp only [hc] | refine kPick_by (fun hc => ?_) (fun hc => ?_) <;> try simp only [hc] | refine kWant_by (fun hc => ?_) (fun hc => ?_) <;> try simp only [hc])
    exact ⟨Keep.refl _, .inl ⟨rfl, hn⟩⟩
  · have hk : k = l.length := by rw [tms_len] at h4; omega
    subst hk
    obtain ⟨j, e1, e2, e3⟩ := SlAt.cells (s.keep (Keep.push h (.row [] 64 (.rw 0 []))))
    simp only [lenOf, Option.some.injEq] at e1
    subst e1
    have ha := append_zero (P := kon.P) (t := 37) (e := 64) (n := 4) (by_ := 24) (z := .agg #[.string ByteArray.empty, .bool false, .bool false, .bool false]) (by kernel_rfl) (by kernel_rfl) (by kernel_rfl) (by kernel_rfl) (by kernel_rfl) (b := h.next) (x := .slice (some ⟨b, o, none⟩) l.length c) rfl e2 e3 (tms_cell l)
      (Nat.le_trans (Nat.mul_le_mul_right 25 (show _ ≤ 2000001024 by omega)) (by decide))
    rcases Bool.eq_false_or_eq_true (l.length == 0) with hz | hz
    · rw [hz] at ha
      simp only [cond_true] at ha
      repeat' (first | simp only [evr, nextP_norm, evd, evq, beq_self_eq_true, cond_true, cond_false, reduceIte, Nat.reduceEqDiff, Nat.reduceAdd, Int.reduceBNe, Int.reduceBEq, Int.reduceLT, Int.reduceLE, Int.reduceEq, evh, evp, Nat.reduceLeDiff, Nat.reduceSub, Nat.reduceBEq, typs, ha] | refine kCond2_by (fun hc => ?_) (fun hc => ?_) <;> try simp only [hc] | refine kPick_by (fun hc => ?_) (fun hc => ?_) <;> try simp only [hc] | refine kWant_by (fun hc => ?_) (fun hc => ?_) <;> try simp only [hc])
      refine ⟨Keep.push _ _, .inr ⟨h.next, 0, 0, 2 * 0, [], _, rfl, Nat.le_refl _, Nat.le_refl _, Nat.lt_succ_self _, Hp.get_push_self _ _, trivial, ?_, ?_⟩⟩
      · rw [tms_len]; simp at hz; simp [hz]
      · have : (tms l).length = 0 := by rw [tms_len]; simp at hz; simp [hz]
        simp [List.length_eq_zero_iff.1 this]
    · rw [hz] at ha
      simp only [cond_false] at ha
      repeat' (first | simp only [evr, nextP_norm, evd, evq, beq_self_eq_true, cond_true, cond_false, reduceIte, Nat.reduceEqDiff, Nat.reduceAdd, Int.reduceBNe, Int.reduceBEq, Int.reduceLT, Int.reduceLE, Int.reduceEq, evh, evp, Nat.reduceLeDiff, Nat.reduceSub, Nat.reduceBEq, typs, ha] | refine kCond2_by (fun hc => ?_) (fun hc => ?_) <;> try simp only [hc] | refine kPick_by (fun hc => ?_) (fun hc => ?_) <;> try simp only [hc] | refine kWant_by (fun hc => ?_) (fun hc => ?_) <;> try simp only [hc])
      refine ⟨(Keep.push _ _).pushed, .inr ⟨h.next + 1, 0, l.length, 2 * l.length + 1, tms l, _, rfl, by omega, by omega, Nat.lt_succ_self _, Hp.get_push_self (h.push _) _, trivial, tms_len l, ?_⟩⟩
      rw [List.drop_zero, List.take_of_length_le (by rw [tms_len]; omega)]
theorem ringMay_spec (b : Bk) (h : Hp) : Meets kon 87 [bkV b] h fun v h' => v = .bool (bkMay b) ∧ Keep h h' := by
  unfold bkV
  refine Meets.mk rfl (by kernel_rfl) Tryd.func87 rfl (congrArg Array.toList Tryd.results87) ?_
  repeat' (first | simp only [evr, nextP_norm, evd, evq, beq_self_eq_true, cond_true, cond_false, reduceIte, Nat.reduceEqDiff, Nat.reduceAdd, Int.reduceBNe, Int.reduceBEq, Int.reduceLT, Int.reduceLE, Int.reduceEq, evh, evp, Nat.reduceLeDiff, Nat.reduceSub, Nat.reduceBEq, typs] | refine kCond2_by (fun hc => ?_) (fun hc => ?_) <;> try simp only [hc] | refine kPick_by (fun hc => ?_) (fun hc => ?_) <;> try simp only [hc] | refine kWant_by (fun hc => ?_) (fun hc => ?_) <;> try simp only [hc])
  all_goals (refine ⟨?_, Keep.push _ _⟩; congr 1; unfold bkMay; simp_all; try (intros; omega))
end Go.Proofs.YtncmgiddcefpcaaDoor
namespace Go.Proofs.YtncmgiddcefpcaaDoor
open Go Go.Ev Go.Con
set_option linter.unusedSimpArgs false
set_option linter.unusedVariables false
set_option maxRecDepth 100000
def ptrV (b : Nat) : Value := .pointer (some ⟨b, 0, none⟩)
def optP : Option Nat → Value
  | none => .pointer none
  | some b => ptrV b
def intV (n : Int) : Value := .int .i64 n
def bnC (b : Bn) (sl : Value) : List Value := [.int .i64 b.kind, .int .i64 b.uid, .int .i64 b.dir, .string b.link, .bool b.object, sl, .int .i64 b.b.r1, .int .i64 b.b.r2, .int .i64 b.b.r3, .int .i64 b.b.g]
structure Nd where
  b : Bn
  home : Int
  many : Int
def ndC (x : Nd) (sl : Value) : List Value := [.int .i64 x.b.kind, .int .i64 x.b.uid, .int .i64 x.b.dir, .string x.b.link, .bool x.b.object, sl, .int .i64 x.b.b.r1, .int .i64 x.b.b.r2, .int .i64 x.b.b.r3, .int .i64 x.b.b.g, .int .i64 x.home, .int .i64 x.many]
structure CoreAt (h : Hp) (bt bl bd bu : Nat) (fL : Int × ByteArray → Option Nat) (fD : Int → Option Int) (fU : Int → Option Nat) (nx : Int) : Prop where
  row : h.get bt = some (.row [.map (some bl), .map (some bd), .map (some bu), .int .i64 nx] 119 (.rw 0 []))
  l : MapIs keyK ptrV h bl fL
  d : MapIs keyI intV h bd fD
  u : MapIs keyI ptrV h bu fU
  ld : bl ≠ bd
  lu : bl ≠ bu
  du : bd ≠ bu
def NodeAt (h : Hp) (F : Nat → Prop) (b : Nat) (x : Nd) : Prop := ∃ sl, b < h.next ∧ h.get b = some (.row (ndC x sl) 126 (.rw 0 [])) ∧ TmTy h F sl x.b.acl
section
variable {h : Hp} {bt bl bd bu : Nat} {fL : Int × ByteArray → Option Nat} {fD : Int → Option Int} {fU : Int → Option Nat} {nx : Int}
theorem CoreAt.lookD (c : CoreAt h bt bl bd bu fL fD fU nx) (d : Int) (f : Bool) : evLookup kon.P 116 (.map (some bd)) (.int .i64 d) f h = some (match fD d with
    | some n => bif f then .tuple #[.int .i64 n, .bool true] else .int .i64 n
    | none => bif f then .tuple #[.int .i64 0, .bool false] else .int .i64 0) := by
  have := c.d.look (kt := 3) (et := 3) (t := 116) (P := kon.P) (by kernel_rfl) (keyI_ok Tryd.underlying3) (z := .int .i64 0) (by kernel_rfl) rfl d f
  unfold keyI at this
  rw [this]
  cases fD d <;> rfl
theorem CoreAt.lookL (c : CoreAt h bt bl bd bu fL fD fU nx) (d : Int) (s : ByteArray) : evLookup kon.P 115 (.map (some bl)) (.agg #[.int .i64 d, .string s]) false h = some (optP (fL (d, s))) := by
  have := c.l.look (kt := 153) (et := 122) (t := 115) (P := kon.P) (by kernel_rfl) keyK_ok (z := .pointer none) (by kernel_rfl) rfl (d, s) false
  unfold keyK at this
  rw [this]
  cases fL (d, s) <;> rfl
theorem CoreAt.lookU (c : CoreAt h bt bl bd bu fL fD fU nx) (u : Int) : evLookup kon.P 117 (.map (some bu)) (.int .i64 u) false h = some (optP (fU u)) := by
  have := c.u.look (kt := 3) (et := 122) (t := 117) (P := kon.P) (by kernel_rfl) (keyI_ok Tryd.underlying3) (z := .pointer none) (by kernel_rfl) rfl u false
  unfold keyI at this
  rw [this]
  cases fU u <;> rfl
theorem is_spec (c : CoreAt h bt bl bd bu fL fD fU nx) (d : Int) : Meets kon 79 [ptrV bt, .int .i64 d] h fun v h' => v = .bool (fD d).isSome ∧ h' = h := by
  unfold ptrV
  refine Meets.mk rfl (by kernel_rfl) Tryd.func79 rfl (congrArg Array.toList Tryd.results79) ?_
  have hr := rowOf_rw c.row
  have e1 := c.lookD d true
  cases hd : fD d with
  | none =>
    rw [hd] at e1
    simp only [cond_true] at e1
    simp only [evr, nextP_norm, evd, evq, beq_self_eq_true, cond_true, cond_false, reduceIte, Nat.reduceEqDiff, Nat.reduceAdd, Int.reduceBNe, Int.reduceBEq, Int.reduceLT, Int.reduceLE, Int.reduceEq, evh, evp, Nat.reduceLeDiff, Nat.reduceSub, Nat.reduceBEq, typs, hr, e1]
    rfl
  | some n =>
    rw [hd] at e1
    simp only [cond_true] at e1
    simp only [evr, nextP_norm, evd, evq, beq_self_eq_true, cond_true, cond_false, reduceIte, Nat.reduceEqDiff, Nat.reduceAdd, Int.reduceBNe, Int.reduceBEq, Int.reduceLT, Int.reduceLE, Int.reduceEq, evh, evp, Nat.reduceLeDiff, Nat.reduceSub, Nat.reduceBEq, typs, hr, e1]
    rfl
theorem none_spec (b : Nat) (h : Hp) : Meets kon 80 [ptrV b] h fun v h' => v = .int .i64 4 ∧ h' = h := by
  unfold ptrV
  refine Meets.mk rfl (by kernel_rfl) Tryd.func80 rfl (congrArg Array.toList Tryd.results80) ?_
  simp only [evr, nextP_norm, evd, evq, beq_self_eq_true, cond_true, cond_false, reduceIte, Nat.reduceEqDiff, Nat.reduceAdd, Int.reduceBNe, Int.reduceBEq, Int.reduceLT, Int.reduceLE, Int.reduceEq, evh, evp, Nat.reduceLeDiff, Nat.reduceSub, Nat.reduceBEq, typs]
theorem get_spec (c : CoreAt h bt bl bd bu fL fD fU nx) (d : Int) (s : ByteArray) : Meets kon 81 [ptrV bt, .int .i64 d, .string s] h fun v h' => v = optP (fL (d, s)) ∧ h' = h := by
  unfold ptrV
  refine Meets.mk rfl (by kernel_rfl) Tryd.func81 rfl (congrArg Array.toList Tryd.results81) ?_
  have hr := rowOf_rw c.row
  have e1 := c.lookL d s
  simp only [evr, nextP_norm, evd, evq, beq_self_eq_true, cond_true, cond_false, reduceIte, Nat.reduceEqDiff, Nat.reduceAdd, Int.reduceBNe, Int.reduceBEq, Int.reduceLT, Int.reduceLE, Int.reduceEq, evh, evp, Nat.reduceLeDiff, Nat.reduceSub, Nat.reduceBEq, typs, hr, e1]
theorem get_ne {h : Hp} {a b : Nat} {x y : Ob} (ha : h.get a = some x) (hb : h.get b = some y) (hn : x ≠ y) : a ≠ b := by
  rintro rfl; rw [ha] at hb; exact hn (Option.some.inj hb)
theorem CoreAt.bt_bl (c : CoreAt h bt bl bd bu fL fD fU nx) : bt ≠ bl := by obtain ⟨es, ck, hg⟩ := c.l.get; exact get_ne c.row hg (by simp)
theorem CoreAt.bt_bd (c : CoreAt h bt bl bd bu fL fD fU nx) : bt ≠ bd := by obtain ⟨es, ck, hg⟩ := c.d.get; exact get_ne c.row hg (by simp)
theorem CoreAt.bt_bu (c : CoreAt h bt bl bd bu fL fD fU nx) : bt ≠ bu := by obtain ⟨es, ck, hg⟩ := c.u.get; exact get_ne c.row hg (by simp)
theorem CoreAt.row_ne (c : CoreAt h bt bl bd bu fL fD fU nx) {n : Nat} {cs : List Value} {e : TypeId} {st : St} (hn : h.get n = some (.row cs e st)) : n ≠ bl ∧ n ≠ bd ∧ n ≠ bu := by
  obtain ⟨es, ck, h1⟩ := c.l.get
  obtain ⟨es2, ck2, h2⟩ := c.d.get
  obtain ⟨es3, ck3, h3⟩ := c.u.get
  exact ⟨get_ne hn h1 (by simp), get_ne hn h2 (by simp), get_ne hn h3 (by simp)⟩
theorem CoreAt.node_ne (c : CoreAt h bt bl bd bu fL fD fU nx) {n : Nat} {cs : List Value} {st : St} (hn : h.get n = some (.row cs 126 st)) : n ≠ bt :=
  get_ne hn c.row (fun e => by simp at e)
theorem put_spec (c : CoreAt h bt bl bd bu fL fD fU nx) {n : Nat} {x : Nd} {sl : Value} (hn : h.get n = some (.row (ndC x sl) 126 (.rw 0 []))) (d : Int) (s : ByteArray)
    (b1 : -4000000000000000000 ≤ (fD d).getD 0) (b2 : (fD d).getD 0 ≤ 4000000000000000000) (b3 : -4000000000000000000 ≤ x.many) (b4 : x.many ≤ 4000000000000000000) :
    Meets kon 83 [ptrV bt, .int .i64 d, .string s, ptrV n] h fun v h' => v = .tuple #[] ∧ CoreAt h' bt bl bd bu (upd fL (d, s) (some n)) (upd fD d (some ((fD d).getD 0 + 1))) fU nx ∧
      h'.get n = some (.row (ndC { x with many := x.many + 1 } sl) 126 (.rw 0 [])) ∧ h'.next = h.next ∧ ∀ k, k ≠ bl → k ≠ bd → k ≠ n → h'.get k = h.get k := by
  obtain ⟨nl, nd, nu⟩ := c.row_ne hn
  have nt := c.node_ne hn
  obtain ⟨h1, e1, m1, n1, s1⟩ := c.l.put (t := 115) (kt := 153) (et := 122) (P := kon.P) (by kernel_rfl) keyK_ok (d, s) n
  have md1 : MapIs keyI intV h1 bd fD := c.d.eq (s1 bd (Ne.symm c.ld))
  obtain ⟨h2, e2, m2, n2, s2⟩ := md1.put (t := 116) (kt := 3) (et := 3) (P := kon.P) (by kernel_rfl) (keyI_ok Tryd.underlying3) d ((fD d).getD 0 + 1)
  have c1 : CoreAt h1 bt bl bd bu (upd fL (d, s) (some n)) fD fU nx := ⟨by rw [s1 bt c.bt_bl]; exact c.row, m1, md1, c.u.eq (s1 bu (Ne.symm c.lu)), c.ld, c.lu, c.du⟩
  have c2 : CoreAt h2 bt bl bd bu (upd fL (d, s) (some n)) (upd fD d (some ((fD d).getD 0 + 1))) fU nx := ⟨by rw [s2 bt c1.bt_bd]; exact c1.row, c1.l.eq (s2 bl c.ld), m2, c1.u.eq (s2 bu (Ne.symm c.du)), c.ld, c.lu, c.du⟩
  have hn2 : h2.get n = some (.row (ndC x sl) 126 (.rw 0 [])) := by rw [s2 n nd, s1 n nl]; exact hn
  have r0 := rowOf_rw c.row
  have r1 := rowOf_rw c1.row
  have r2 := rowOf_rw hn2
  have l1 : evLookup kon.P 116 (.map (some bd)) (.int .i64 d) false h1 = some (.int .i64 ((fD d).getD 0)) := by
    rw [c1.lookD d false]; cases fD d <;> rfl
  have w1 := wrap64 (x := (fD d).getD 0 + 1) (by omega) (by omega)
  have w2 := wrap64 (x := x.many + 1) (by omega) (by omega)
  unfold keyK ptrV at e1
  unfold keyI intV at e2
  unfold ptrV
  unfold ndC at hn2 r2
  refine Meets.mk rfl (by kernel_rfl) Tryd.func83 rfl (congrArg Array.toList Tryd.results83) ?_
  simp only [evr, nextP_norm, evd, evq, beq_self_eq_true, cond_true, cond_false, reduceIte, Nat.reduceEqDiff, Nat.reduceAdd, Int.reduceBNe, Int.reduceBEq, Int.reduceLT, Int.reduceLE, Int.reduceEq, evh, evp, Nat.reduceLeDiff, Nat.reduceSub, Nat.reduceBEq, typs, r0, e1, r1, l1, w1, e2, r2, w2, hn2]
  refine ⟨⟨by rw [Hp.get_set_ne (Ne.symm nt)]; exact c2.row, c2.l.eq (Hp.get_set_ne (Ne.symm nl)), c2.d.eq (Hp.get_set_ne (Ne.symm nd)), c2.u.eq (Hp.get_set_ne (Ne.symm nu)), c.ld, c.lu, c.du⟩, ?_, ?_, fun k k1 k2 k3 => ?_⟩
  · rfl
  · rw [n2, n1]
  · rw [if_neg k3, s2 k k2, s1 k k1]
theorem take_spec (c : CoreAt h bt bl bd bu fL fD fU nx) {n : Nat} {x : Nd} {sl : Value} (hn : h.get n = some (.row (ndC x sl) 126 (.rw 0 []))) (d : Int) (s : ByteArray) (hf : fL (d, s) = some n)
    (b1 : -4000000000000000000 ≤ (fD d).getD 0) (b2 : (fD d).getD 0 ≤ 4000000000000000000) (b3 : -4000000000000000000 ≤ x.many) (b4 : x.many ≤ 4000000000000000000) :
    Meets kon 108 [ptrV bt, .int .i64 d, .string s] h fun v h' => v = .tuple #[] ∧ CoreAt h' bt bl bd bu (upd fL (d, s) none) (upd fD d (some ((fD d).getD 0 - 1))) fU nx ∧
      h'.get n = some (.row (ndC { x with many := x.many - 1 } sl) 126 (.rw 0 [])) ∧ h'.next = h.next ∧ ∀ k, k ≠ bl → k ≠ bd → k ≠ n → h'.get k = h.get k := by
  obtain ⟨nl, nd, nu⟩ := c.row_ne hn
  have nt := c.node_ne hn
  have l0 := c.lookL d s
  rw [hf] at l0
  unfold optP ptrV at l0
  generalize hg : h.set n (.row (ndC { x with many := x.many - 1 } sl) 126 (.rw 0 [])) = h1
  have s1 : ∀ k, k ≠ n → h1.get k = h.get k := fun k hk => by rw [← hg]; exact Hp.get_set_ne hk
  have hn1 : h1.get n = some (.row (ndC { x with many := x.many - 1 } sl) 126 (.rw 0 [])) := by rw [← hg]; exact Hp.get_set_self _ _ _
  have x1 : h1.next = h.next := by rw [← hg]; rfl
  have c1 : CoreAt h1 bt bl bd bu fL fD fU nx := ⟨by rw [s1 bt (Ne.symm nt)]; exact c.row, c.l.eq (s1 bl (Ne.symm nl)), c.d.eq (s1 bd (Ne.symm nd)), c.u.eq (s1 bu (Ne.symm nu)), c.ld, c.lu, c.du⟩
  obtain ⟨h2, e2, m2, n2, s2⟩ := c1.l.del (t := 115) (kt := 153) (et := 122) (P := kon.P) (by kernel_rfl) keyK_ok (d, s)
  have c2 : CoreAt h2 bt bl bd bu (upd fL (d, s) none) fD fU nx := ⟨by rw [s2 bt c1.bt_bl]; exact c1.row, m2, c1.d.eq (s2 bd (Ne.symm c.ld)), c1.u.eq (s2 bu (Ne.symm c.lu)), c.ld, c.lu, c.du⟩
  obtain ⟨h3, e3, m3, n3, s3⟩ := c2.d.put (t := 116) (kt := 3) (et := 3) (P := kon.P) (by kernel_rfl) (keyI_ok Tryd.underlying3) d ((fD d).getD 0 - 1)
  have r0 := rowOf_rw c.row
  have r1 := rowOf_rw hn
  have r2 := rowOf_rw c1.row
  have r3 := rowOf_rw c2.row
  have l1 : evLookup kon.P 116 (.map (some bd)) (.int .i64 d) false h2 = some (.int .i64 ((fD d).getD 0)) := by
    rw [c2.lookD d false]; cases fD d <;> rfl
  have w1 := wrap64 (x := (fD d).getD 0 - 1) (by omega) (by omega)
  have w2 := wrap64 (x := x.many - 1) (by omega) (by omega)
  unfold keyK at e2
  unfold keyI intV at e3
  unfold ptrV
  have hn' := hn
  unfold ndC at hn' r1 hg
  refine Meets.mk rfl (by kernel_rfl) Tryd.func108 rfl (congrArg Array.toList Tryd.results108) ?_
  simp only [evr, nextP_norm, evd, evq, beq_self_eq_true, cond_true, cond_false, reduceIte, Nat.reduceEqDiff, Nat.reduceAdd, Int.reduceBNe, Int.reduceBEq, Int.reduceLT, Int.reduceLE, Int.reduceEq, evh, evp, Nat.reduceLeDiff, Nat.reduceSub, Nat.reduceBEq, typs, r0, l0, r1, w2, hn', hg, r2, e2, r3, l1, w1, e3]
  refine ⟨⟨by rw [s3 bt c2.bt_bd]; exact c2.row, c2.l.eq (s3 bl c.ld), m3, c2.u.eq (s3 bu (Ne.symm c.du)), c.ld, c.lu, c.du⟩, ?_, ?_, fun k k1 k2 k3 => ?_⟩
  · rw [s3 n nd, s2 n nl]; exact hn1
  · rw [n3, n2, x1]
  · rw [s3 k k2, s2 k k1, s1 k k3]
def outV (b : Bn) (sl : Value) : Value := .tuple #[.agg (bnC b sl).toArray, .bool true]
def noneV : Value := .tuple #[.agg #[.int .i64 0, .int .i64 0, .int .i64 0, .string ByteArray.empty, .bool false, .slice none 0 0, .int .i64 0, .int .i64 0, .int .i64 0, .int .i64 0], .bool false]
def OutP (o : Option Bn) (h : Hp) (v : Value) (h' : Hp) : Prop := Keep h h' ∧ match o with
  | none => v = noneV
  | some b => ∃ sl, v = outV b sl ∧ TmTy h' (fun k => h.next ≤ k) sl b.acl
theorem out_nil (h : Hp) : Meets kon 88 [.pointer none] h (OutP none h) := by
  refine Meets.mk rfl (by kernel_rfl) Tryd.func88 rfl (congrArg Array.toList Tryd.results88) ?_
  repeat' (first | simp only [evr, nextP_norm, evd, evq, beq_self_eq_true, cond_true, cond_false, reduceIte, Nat.reduceEqDiff, Nat.reduceAdd, Int.reduceBNe, Int.reduceBEq, Int.reduceLT, Int.reduceLE, Int.reduceEq, evh, evp, Nat.reduceLeDiff, Nat.reduceSub, Nat.reduceBEq, typs] | refine kCond2_by (fun hc => ?_) (fun hc => ?_) <;> try simp only [hc] | refine kPick_by (fun hc => ?_) (fun hc => ?_) <;> try simp only [hc] | refine kWant_by (fun hc => ?_) (fun hc => ?_) <;> try simp only [hc])
  exact ⟨(Keep.push _ _).set (Nat.le_refl _), rfl⟩
theorem out_spec {F : Nat → Prop} {n : Nat} {x : Nd} (hN : NodeAt h F n x) (hl : x.b.acl.length ≤ 1000000000) : Meets kon 88 [ptrV n] h (OutP (some x.b) h) := by
  obtain ⟨sl, hlt, hn, hs⟩ := hN
  have r1 := rowOf_rw hn
  have e0 : (n = h.next) = False := eq_false (by omega)
  have e1 : (n = h.next + 1) = False := eq_false (by omega)
  unfold ndC at r1
  unfold ptrV
  refine Meets.mk rfl (by kernel_rfl) Tryd.func88 rfl (congrArg Array.toList Tryd.results88) ?_
  have hsc := hs.isCell
  repeat' (first | simp only [evr, nextP_norm, evd, evq, beq_self_eq_true, cond_true, cond_false, reduceIte, Nat.reduceEqDiff, Nat.reduceAdd, Int.reduceBNe, Int.reduceBEq, Int.reduceLT, Int.reduceLE, Int.reduceEq, evh, evp, Nat.reduceLeDiff, Nat.reduceSub, Nat.reduceBEq, typs, r1, e0, e1, if_false, hsc] | refine kCond2_by (fun hc => ?_) (fun hc => ?_) <;> try simp only [hc] | refine kPick_by (fun hc => ?_) (fun hc => ?_) <;> try simp only [hc] | refine kWant_by (fun hc => ?_) (fun hc => ?_) <;> try simp only [hc])
  generalize hh : Hp.set _ (h.next + 1) _ = H
  have g1 : H.get (h.next + 1) = some (.row (bnC x.b sl) 45 (.rw 0 [])) := by rw [← hh]; exact Hp.get_set_self _ _ _
  have hk : Keep h H := by rw [← hh]; exact ((Keep.push _ _).pushed).set (Nat.le_succ _)
  have g0 : ∃ zs, H.get h.next = some (.row zs 45 (.rw 0 [])) ∧ zs.length = 10 := by
    refine ⟨_, by rw [← hh, Hp.get_set_ne (by omega), Hp.get_push_lt (Nat.lt_succ_self _)]; exact Hp.get_push_self _ _, rfl⟩
  have hx : H.next = h.next + 2 := by rw [← hh]; rfl
  obtain ⟨zs, g0, hz⟩ := g0
  clear hh
  refine callP_meets (clone_spec (SlAt.keep hs.slAt hk) hl) ?_
  rintro sl' h3 ⟨hk3, hs3⟩
  have g1' := (hk3.2 _ (by omega)).trans g1
  have g0' := (hk3.2 _ (by omega)).trans g0
  have q1 := rowOf_rw g1'
  have q0 := rowOf_rw g0'
  unfold bnC at g1' q1
  have hsc3 := hs3.isCell
  have hcv := hs3.cellsV
  have hd : List.drop 10 zs = [] := List.drop_eq_nil_of_le (by omega)
  repeat' (first | simp only [evr, nextP_norm, evd, evq, beq_self_eq_true, cond_true, cond_false, reduceIte, Nat.reduceEqDiff, Nat.reduceAdd, Int.reduceBNe, Int.reduceBEq, Int.reduceLT, Int.reduceLE, Int.reduceEq, evh, evp, Nat.reduceLeDiff, Nat.reduceSub, Nat.reduceBEq, typs, q1, g1', q0, g0', hz, hsc3, hcv, hd] | refine kCond2_by (fun hc => ?_) (fun hc => ?_) <;> try simp only [hc] | refine kPick_by (fun hc => ?_) (fun hc => ?_) <;> try simp only [hc] | refine kWant_by (fun hc => ?_) (fun hc => ?_) <;> try simp only [hc])
  refine ⟨((hk.trans hk3).set (Nat.le_succ _)).set (Nat.le_refl _), sl', rfl, ?_⟩
  refine hs3.same (Same.trans (Same.set (b := h.next + 1) ?_) (Same.set (b := h.next) ?_)) (fun k hk => by omega)
  · rw [g1']; exact (by decide : 45 ≠ 64)
  · rw [Hp.get_set_ne (by omega), g0']; exact (by decide : 45 ≠ 64)
def OutOf (h : Hp) (F : Nat → Prop) (o : Option Nat) (r : Option Bn) : Prop := match o, r with
  | none, none => True
  | some n, some b => ∃ x, NodeAt h F n x ∧ x.b = b ∧ b.acl.length ≤ 1000000000
  | _, _ => False
theorem out_any {F : Nat → Prop} {o : Option Nat} {r : Option Bn} (hO : OutOf h F o r) : Meets kon 88 [optP o] h (OutP r h) := by
  cases o with
  | none => cases r with
    | none => exact out_nil h
    | some b => exact hO.elim
  | some n => cases r with
    | none => exact hO.elim
    | some b =>
      obtain ⟨x, hN, rfl, hl⟩ := hO
      exact out_spec hN hl
theorem CoreAt.keep (c : CoreAt h bt bl bd bu fL fD fU nx) {h' : Hp} (k : Keep h h') (lt : bt < h.next ∧ bl < h.next ∧ bd < h.next ∧ bu < h.next) : CoreAt h' bt bl bd bu fL fD fU nx :=
  ⟨by rw [k.2 bt lt.1]; exact c.row, c.l.eq (k.2 bl lt.2.1), c.d.eq (k.2 bd lt.2.2.1), c.u.eq (k.2 bu lt.2.2.2), c.ld, c.lu, c.du⟩
theorem NodeAt.keep {F : Nat → Prop} {n : Nat} {x : Nd} (hN : NodeAt h F n x) {h' : Hp} (k : Keep h h') : NodeAt h' F n x := by
  obtain ⟨sl, h1, h2, h3⟩ := hN
  refine ⟨sl, Nat.lt_of_lt_of_le h1 k.1, by rw [k.2 n h1]; exact h2, ?_⟩
  exact h3.same (Same.keep k) fun _ hk => hk
theorem OutOf.keep {F : Nat → Prop} {o : Option Nat} {r : Option Bn} (hO : OutOf h F o r) {h' : Hp} (k : Keep h h') : OutOf h' F o r := by
  cases o with
  | none => cases r with
    | none => trivial
    | some b => exact hO.elim
  | some n => cases r with
    | none => exact hO.elim
    | some b => obtain ⟨x, h1, h2⟩ := hO; exact ⟨x, h1.keep k, h2⟩
theorem OutP.cells {r : Option Bn} {h h' : Hp} {v : Value} (o : OutP r h v h') : ∃ cs b, v = .tuple #[.agg cs, .bool b] ∧ b = r.isSome ∧ cs.toList.length = 10 ∧ cs.toList.all isCell = true := by
  obtain ⟨_, o⟩ := o
  cases r with
  | none => subst o; exact ⟨_, _, rfl, rfl, rfl, rfl⟩
  | some b =>
    obtain ⟨sl, rfl, hs⟩ := o
    refine ⟨_, _, rfl, rfl, rfl, ?_⟩
    simp [bnC, isCell_int, isCell_string, isCell_bool, hs.isCell]
theorem OutP.set {r : Option Bn} {h0 h h' : Hp} {v : Value} (o : OutP r h v h') (k : Keep h0 h) {b : Nat} (hb : h0.next ≤ b) {cs cs' : List Value} (hg : h'.get b = some (.row cs 45 (.rw 0 []))) : OutP r h0 v (h'.set b (.row cs' 45 (.rw 0 []))) := by
  obtain ⟨k1, o⟩ := o
  refine ⟨(k.trans k1).set hb, ?_⟩
  cases r with
  | none => exact o
  | some x =>
    obtain ⟨sl, hv, hs⟩ := o
    refine ⟨sl, hv, hs.same (Same.set ?_) fun j hj => Nat.le_trans k.1 hj⟩
    rw [hg]; exact (by decide : 45 ≠ 64)
theorem look_spec (c : CoreAt h bt bl bd bu fL fD fU nx) (lt : bt < h.next ∧ bl < h.next ∧ bd < h.next ∧ bu < h.next) {F : Nat → Prop} (d : Int) (s : ByteArray) {r : Option Bn} (hO : OutOf h F (fL (d, s)) r) : Meets kon 40 [ptrV bt, .int .i64 d, .string s] h (OutP r h) := by
  refine Meets.mk rfl (by kernel_rfl) Tryd.func40 rfl (congrArg Array.toList Tryd.results40) ?_
  repeat' (first | simp only [evr, nextP_norm, evd, evq, beq_self_eq_true, cond_true, cond_false, reduceIte, Nat.reduceEqDiff, Nat.reduceAdd, Int.reduceBNe, Int.reduceBEq, Int.reduceLT, Int.reduceLE, Int.reduceEq, evh, evp, Nat.reduceLeDiff, Nat.reduceSub, Nat.reduceBEq, typs] | refine kCond2_by (fun hc => ?_) (fun hc => ?_) <;> try simp only [hc] | refine kPick_by (fun hc => ?_) (fun hc => ?_) <;> try simp only [hc] | refine kWant_by (fun hc => ?_) (fun hc => ?_) <;> try simp only [hc])
  generalize hh : Hp.push h _ = H
  have hk : Keep h H := by rw [← hh]; exact Keep.push _ _
  have g0 : H.get h.next = some (.row [.int .i64 0, .int .i64 0, .int .i64 0, .string ByteArray.empty, .bool false, .slice none 0 0, .int .i64 0, .int .i64 0, .int .i64 0, .int .i64 0] 45 (.rw 0 [])) := by rw [← hh]; exact Hp.get_push_self _ _
  have hx : H.next = h.next + 1 := by rw [← hh]; rfl
  clear hh
  refine callP_meets (get_spec (c.keep hk lt) d s) ?_
  rintro u h1 ⟨rfl, rfl⟩
  repeat' (first | simp only [evr, nextP_norm, evd, evq, beq_self_eq_true, cond_true, cond_false, reduceIte, Nat.reduceEqDiff, Nat.reduceAdd, Int.reduceBNe, Int.reduceBEq, Int.reduceLT, Int.reduceLE, Int.reduceEq, evh, evp, Nat.reduceLeDiff, Nat.reduceSub, Nat.reduceBEq, typs] | refine kCond2_by (fun hc => ?_) (fun hc => ?_) <;> try simp only [hc] | refine kPick_by (fun hc => ?_) (fun hc => ?_) <;> try simp only [hc] | refine kWant_by (fun hc => ?_) (fun hc => ?_) <;> try simp only [hc])
  refine callP_meets (out_any (hO.keep hk)) ?_
  rintro v h3 ho
  obtain ⟨cs, b, rfl, rfl, hc, hcc⟩ := ho.cells
  have g1 := (ho.1.2 h.next (by omega)).trans g0
  have q1 := rowOf_rw g1
  have hsz : cs.size = 10 := by rw [← Array.length_toList]; exact hc
  repeat' (first | simp only [evr, nextP_norm, evd, evq, beq_self_eq_true, cond_true, cond_false, reduceIte, Nat.reduceEqDiff, Nat.reduceAdd, Int.reduceBNe, Int.reduceBEq, Int.reduceLT, Int.reduceLE, Int.reduceEq, evh, evp, Nat.reduceLeDiff, Nat.reduceSub, Nat.reduceBEq, typs, q1, g1, hc, hcc, hsz] | refine kCond2_by (fun hc => ?_) (fun hc => ?_) <;> try simp only [hc] | refine kPick_by (fun hc => ?_) (fun hc => ?_) <;> try simp only [hc] | refine kWant_by (fun hc => ?_) (fun hc => ?_) <;> try simp only [hc])
  rw [List.take_of_length_le (by omega), Array.toArray_toList]
  exact ho.set hk (Nat.le_refl _) g1
def Chd (h : Hp) (o : Option Nat) (b b' : Bn) (h' : Hp) : Prop := ∃ n x sl sl', o = some n ∧ h.get n = some (.row (ndC x sl) 126 (.rw 0 [])) ∧ n < h.next ∧ x.b = b ∧
  h'.get n = some (.row (ndC ⟨b', x.home, x.many⟩ sl') 126 (.rw 0 [])) ∧ (sl' = sl ∧ b'.acl = b.acl ∨ TmTy h' (fun k => h.next ≤ k) sl' b'.acl) ∧ h.next ≤ h'.next ∧ ∀ k, k < h.next → k ≠ n → h'.get k = h.get k
end
end Go.Proofs.YtncmgiddcefpcaaDoor
namespace Go.Proofs.YtncmgiddcefpcaaDoor
open Go Go.Ev Go.Con
set_option linter.unusedSimpArgs false
set_option linter.unusedVariables false
set_option maxRecDepth 100000
theorem new_spec (h : Hp) : Meets kon 34 [] h fun v h' => v = ptrV (h.next + 3) ∧ Keep h h' ∧ h'.next = h.next + 4 ∧ CoreAt h' (h.next + 3) h.next (h.next + 1) (h.next + 2) (fun _ => none) (upd (fun _ => none) 0 (some 0)) (fun _ => none) 0 := by
  have m0 : MapIs keyK ptrV (h.push (.map [] 0)) h.next (fun _ => none) := MapIs.new h keyK ptrV
  have m1 : MapIs keyI intV ((h.push (.map [] 0)).push (.map [] 0)) (h.next + 1) (fun _ => none) := MapIs.new (h.push (.map [] 0)) keyI intV
  obtain ⟨h2, e1, m2, n2, s2⟩ := m1.put (t := 116) (kt := 3) (et := 3) (P := kon.P) (by kernel_rfl) (keyI_ok Tryd.underlying3) 0 0
  have n2' : h2.next = h.next + 2 := n2
  have g0 : MapIs keyK ptrV h2 h.next (fun _ => none) := (m0.eq (Hp.get_push_lt (Nat.lt_succ_self _))).eq (s2 h.next (by omega))
  have k2 : Keep h h2 := ⟨by omega, fun k hk => by rw [s2 k (by omega), Hp.get_push_lt (show k < h.next + 1 by omega), Hp.get_push_lt hk]⟩
  unfold keyI intV at e1
  refine Meets.mk rfl (by kernel_rfl) Tryd.func34 rfl (congrArg Array.toList Tryd.results34) ?_
  repeat' (first | simp only [evr, nextP_norm, evd, evq, beq_self_eq_true, cond_true, cond_false, reduceIte, Nat.reduceEqDiff, Nat.reduceAdd, Int.reduceBNe, Int.reduceBEq, Int.reduceLT, Int.reduceLE, Int.reduceEq, evh, evp, Nat.reduceLeDiff, Nat.reduceSub, Nat.reduceBEq, typs, P_insert, e1, n2'] | refine kCond2_by (fun hc => ?_) (fun hc => ?_) <;> try simp only [hc] | refine kPick_by (fun hc => ?_) (fun hc => ?_) <;> try simp only [hc] | refine kWant_by (fun hc => ?_) (fun hc => ?_) <;> try simp only [hc])
  have x1 : (h2.push (.map [] 0)).next = h.next + 3 := by rw [Hp.next_push, n2']
  have z : ∀ k, k < h.next + 2 → ∀ o, ((h2.push (.map [] 0)).push o).get k = h2.get k := fun k hk o => by rw [Hp.get_push_lt (by omega), Hp.get_push_lt (by omega)]
  refine ⟨rfl, (k2.pushed).pushed, ⟨?_, g0.eq (z _ (by omega) _), ?_, ?_, by omega, by omega, by omega⟩⟩
  · have := Hp.get_push_self (h2.push (.map [] 0)) (.row [.map (some h.next), .map (some (h.next + 1)), .map (some (h.next + 2)), .int .i64 0] 119 (.rw 0 []))
    rw [x1] at this; exact this
  · exact m2.eq (z _ (by omega) _)
  · have h3 := MapIs.new h2 keyI ptrV
    rw [n2'] at h3
    exact h3.eq (Hp.get_push_lt (by omega))
section
variable {h : Hp} {bt bl bd bu : Nat} {fL : Int × ByteArray → Option Nat} {fD : Int → Option Int} {fU : Int → Option Nat} {nx : Int}
def cleanR (fU : Int → Option Nat) (nx : Int) (b : Bn) : Bn × Int :=
  if b.kind = 1 then (if b.uid < 1 ∨ listMay b.acl = false ∨ bkMay b.b = false then (noBn, 1) else if (fU b.uid).isSome then (noBn, 5) else (⟨1, b.uid, 0, ByteArray.empty, b.object, b.acl, b.b⟩, 0))
  else if b.kind = 2 then (⟨2, 0, nx + 1, ByteArray.empty, false, [], noBk⟩, 0)
  else if b.kind = 3 then (if (split b.link).isSome then (⟨3, 0, 0, b.link, false, [], noBk⟩, 0) else (noBn, 3))
  else (noBn, 15)
theorem build_seg {h : Hp} {F : Nat → Prop} {sl : Value} {l : List Tm} (s : TmTy h F sl l) (u : Int) (o : Bool) (x1 x2 x3 g : Int) :
    evBuild kon.P 45 [(0, .int .i64 1), (1, .int .i64 u), (4, .bool o), (5, sl), (6, .agg #[.int .i64 x1, .int .i64 x2, .int .i64 x3, .int .i64 g])] =
      some (.agg #[.int .i64 1, .int .i64 u, .int .i64 0, .string ByteArray.empty, .bool o, sl, .int .i64 x1, .int .i64 x2, .int .i64 x3, .int .i64 g]) := by
  rcases id s with ⟨rfl, _⟩ | ⟨b, o, k, c, all, st, rfl, _⟩ <;> kernel_rfl
theorem clean_spec (c : CoreAt h bt bl bd bu fL fD fU nx) (lt : bt < h.next ∧ bl < h.next ∧ bd < h.next ∧ bu < h.next) (n1 : -4000000000000000000 ≤ nx) (n2 : nx ≤ 4000000000000000000) {b : Bn} {sl : Value} (hs : TmSl h sl b.acl) (hl : b.acl.length ≤ 1000000000) :
    Meets kon 82 [ptrV bt, .agg (bnC b sl).toArray] h fun v h' => Keep h h' ∧ ∃ sl', v = .tuple #[.agg (bnC (cleanR fU nx b).1 sl').toArray, .int .i64 (cleanR fU nx b).2] ∧ TmTy h' (fun k => h.next ≤ k) sl' (cleanR fU nx b).1.acl := by
  have hsc : isCell sl = true := by rcases hs with ⟨rfl, _⟩ | ⟨b, o, k, c, all, rfl, _⟩ <;> rfl
  have hcv : sl.cells = #[sl] := by rcases hs with ⟨rfl, _⟩ | ⟨b, o, k, c, all, rfl, _⟩ <;> rfl
  unfold bnC
  refine Meets.mk rfl (by kernel_rfl) Tryd.func82 rfl (congrArg Array.toList Tryd.results82) ?_
  by_cases k1 : b.kind = 1
  · have f1 : (b.kind == 1) = true := by simp [k1]
    by_cases hu : b.uid < 1
    · have f2 : decide (b.uid < 1) = true := decide_eq_true hu
      have cl : cleanR fU nx b = (noBn, 1) := by unfold cleanR; rw [if_pos k1, if_pos (.inl hu)]
      repeat' (first | simp only [evr, nextP_norm, evd, evq, beq_self_eq_true, cond_true, cond_false, reduceIte, Nat.reduceEqDiff, Nat.reduceAdd, Int.reduceBNe, Int.reduceBEq, Int.reduceLT, Int.reduceLE, Int.reduceEq, evh, evp, Nat.reduceLeDiff, Nat.reduceSub, Nat.reduceBEq, typs, hsc, hcv, f1, f2] | refine kCond2_by (fun hc => ?_) (fun hc => ?_) <;> try simp only [hc] | refine kPick_by (fun hc => ?_) (fun hc => ?_) <;> try simp only [hc] | refine kWant_by (fun hc => ?_) (fun hc => ?_) <;> try simp only [hc])
      rw [cl]
      exact ⟨((Keep.push _ _).pushed).set (Nat.le_succ _), _, rfl, .inl ⟨rfl, rfl⟩⟩
    · have f2 : decide (b.uid < 1) = false := decide_eq_false hu
      repeat' (first | simp only [evr, nextP_norm, evd, evq, beq_self_eq_true, cond_true, cond_false, reduceIte, Nat.reduceEqDiff, Nat.reduceAdd, Int.reduceBNe, Int.reduceBEq, Int.reduceLT, Int.reduceLE, Int.reduceEq, evh, evp, Nat.reduceLeDiff, Nat.reduceSub, Nat.reduceBEq, typs, hsc, hcv, f1, f2] | refine kCond2_by (fun hc => ?_) (fun hc => ?_) <;> try simp only [hc] | refine kPick_by (fun hc => ?_) (fun hc => ?_) <;> try simp only [hc] | refine kWant_by (fun hc => ?_) (fun hc => ?_) <;> try simp only [hc])
      generalize hh : Hp.push (Hp.push h _) _ = H
      have g3 : H.get h.next = some (.row [.int .i64 b.kind, .int .i64 b.uid, .int .i64 b.dir, .string b.link, .bool b.object, sl, .int .i64 b.b.r1, .int .i64 b.b.r2, .int .i64 b.b.r3, .int .i64 b.b.g] 45 (.rw 0 [])) := by rw [← hh, Hp.get_push_lt (Nat.lt_succ_self _)]; exact Hp.get_push_self _ _
      have g4 : H.get (h.next + 1) = some (.row [.int .i64 0, .int .i64 0, .int .i64 0, .string ByteArray.empty, .bool false, .slice none 0 0, .int .i64 0, .int .i64 0, .int .i64 0, .int .i64 0] 45 (.rw 0 [])) := by rw [← hh]; exact Hp.get_push_self _ _
      have hk : Keep h H := by rw [← hh]; exact (Keep.push _ _).pushed
      have hx : H.next = h.next + 2 := by rw [← hh]; rfl
      clear hh
      refine callP_meets (aMay_spec (SlAt.keep hs hk) hl) ?_
      rintro _ h1 ⟨rfl, k1'⟩
      have g3' := (k1'.2 _ (by omega)).trans g3
      have g4' := (k1'.2 _ (by omega)).trans g4
      have q3 := rowOf_rw g3'
      have q4 := rowOf_rw g4'
      cases hm : listMay b.acl with
      | false =>
        have cl : cleanR fU nx b = (noBn, 1) := by unfold cleanR; rw [if_pos k1, if_pos (.inr (.inl hm))]
        repeat' (first | simp only [evr, nextP_norm, evd, evq, beq_self_eq_true, cond_true, cond_false, reduceIte, Nat.reduceEqDiff, Nat.reduceAdd, Int.reduceBNe, Int.reduceBEq, Int.reduceLT, Int.reduceLE, Int.reduceEq, evh, evp, Nat.reduceLeDiff, Nat.reduceSub, Nat.reduceBEq, typs, q3, q4, g3', g4'] | refine kCond2_by (fun hc => ?_) (fun hc => ?_) <;> try simp only [hc] | refine kPick_by (fun hc => ?_) (fun hc => ?_) <;> try simp only [hc] | refine kWant_by (fun hc => ?_) (fun hc => ?_) <;> try simp only [hc])
        rw [cl]
        exact ⟨(hk.trans k1').set (Nat.le_succ _), _, rfl, .inl ⟨rfl, rfl⟩⟩
      | true =>
        repeat' (first | simp only [evr, nextP_norm, evd, evq, beq_self_eq_true, cond_true, cond_false, reduceIte, Nat.reduceEqDiff, Nat.reduceAdd, Int.reduceBNe, Int.reduceBEq, Int.reduceLT, Int.reduceLE, Int.reduceEq, evh, evp, Nat.reduceLeDiff, Nat.reduceSub, Nat.reduceBEq, typs, q3, q4, g3', g4'] | refine kCond2_by (fun hc => ?_) (fun hc => ?_) <;> try simp only [hc] | refine kPick_by (fun hc => ?_) (fun hc => ?_) <;> try simp only [hc] | refine kWant_by (fun hc => ?_) (fun hc => ?_) <;> try simp only [hc])
        refine callP_meets (ringMay_spec b.b _) ?_
        rintro _ h2 ⟨rfl, k2'⟩
        have hx1 := k1'.1
        have hx2 := k2'.1
        have g3'' := (k2'.2 _ (by omega)).trans g3'
        have g4'' := (k2'.2 _ (by omega)).trans g4'
        have q3 := rowOf_rw g3''
        have q4 := rowOf_rw g4''
        cases hb : bkMay b.b with
        | false =>
          have cl : cleanR fU nx b = (noBn, 1) := by unfold cleanR; rw [if_pos k1, if_pos (.inr (.inr hb))]
          repeat' (first | simp only [evr, nextP_norm, evd, evq, beq_self_eq_true, cond_true, cond_false, reduceIte, Nat.reduceEqDiff, Nat.reduceAdd, Int.reduceBNe, Int.reduceBEq, Int.reduceLT, Int.reduceLE, Int.reduceEq, evh, evp, Nat.reduceLeDiff, Nat.reduceSub, Nat.reduceBEq, typs, q3, q4, g3'', g4''] | refine kCond2_by (fun hc => ?_) (fun hc => ?_) <;> try simp only [hc] | refine kPick_by (fun hc => ?_) (fun hc => ?_) <;> try simp only [hc] | refine kWant_by (fun hc => ?_) (fun hc => ?_) <;> try simp only [hc])
          rw [cl]
          exact ⟨((hk.trans k1').trans k2').set (Nat.le_succ _), _, rfl, .inl ⟨rfl, rfl⟩⟩
        | true =>
          have K2 := (hk.trans k1').trans k2'
          have c2 := c.keep K2 lt
          have r0 := rowOf_rw c2.row
          have lu := c2.lookU b.uid
          repeat' (first | simp only [evr, nextP_norm, evd, evq, beq_self_eq_true, cond_true, cond_false, reduceIte, Nat.reduceEqDiff, Nat.reduceAdd, Int.reduceBNe, Int.reduceBEq, Int.reduceLT, Int.reduceLE, Int.reduceEq, evh, evp, Nat.reduceLeDiff, Nat.reduceSub, Nat.reduceBEq, typs, q3, q4, g3'', g4''] | refine kCond2_by (fun hc => ?_) (fun hc => ?_) <;> try simp only [hc] | refine kPick_by (fun hc => ?_) (fun hc => ?_) <;> try simp only [hc] | refine kWant_by (fun hc => ?_) (fun hc => ?_) <;> try simp only [hc])
          unfold ptrV
          refine Eq.mpr (Wp_drawOrd (KR.mk (by kernel_rfl))) ?_
          cases hf : fU b.uid with
          | some n =>
            have cl : cleanR fU nx b = (noBn, 5) := by unfold cleanR; rw [if_pos k1, if_neg (by rw [hm, hb]; simp; omega), hf]; rfl
            rw [hf] at lu
            unfold optP ptrV at lu
            repeat' (first | simp only [evr, nextP_norm, evd, evq, beq_self_eq_true, cond_true, cond_false, reduceIte, Nat.reduceEqDiff, Nat.reduceAdd, Int.reduceBNe, Int.reduceBEq, Int.reduceLT, Int.reduceLE, Int.reduceEq, evh, evp, Nat.reduceLeDiff, Nat.reduceSub, Nat.reduceBEq, typs, q3, q4, g3'', g4'', r0, lu] | refine kCond2_by (fun hc => ?_) (fun hc => ?_) <;> try simp only [hc] | refine kPick_by (fun hc => ?_) (fun hc => ?_) <;> try simp only [hc] | refine kWant_by (fun hc => ?_) (fun hc => ?_) <;> try simp only [hc])
            rw [cl]
            exact ⟨K2.set (Nat.le_succ _), _, rfl, .inl ⟨rfl, rfl⟩⟩
          | none =>
            have cl : cleanR fU nx b = (⟨1, b.uid, 0, ByteArray.empty, b.object, b.acl, b.b⟩, 0) := by unfold cleanR; rw [if_pos k1, if_neg (by rw [hm, hb]; simp; omega), hf]; rfl
            rw [hf] at lu
            unfold optP at lu
            repeat' (first | simp only [evr, nextP_norm, evd, evq, beq_self_eq_true, cond_true, cond_false, reduceIte, Nat.reduceEqDiff, Nat.reduceAdd, Int.reduceBNe, Int.reduceBEq, Int.reduceLT, Int.reduceLE, Int.reduceEq, evh, evp, Nat.reduceLeDiff, Nat.reduceSub, Nat.reduceBEq, typs, q3, q4, g3'', g4'', r0, lu] | refine kCond2_by (fun hc => ?_) (fun hc => ?_) <;> try simp only [hc] | refine kPick_by (fun hc => ?_) (fun hc => ?_) <;> try simp only [hc] | refine kWant_by (fun hc => ?_) (fun hc => ?_) <;> try simp only [hc])
            refine Wp_drawE [0, 1, 0, 1, 0, 1, 3, 0, 1, 0, 4, 0] (KR.mk (by kernel_rfl)) ?_
            repeat' (first | simp only [evr, nextP_norm, evd, evq, beq_self_eq_true, cond_true, cond_false, reduceIte, Nat.reduceEqDiff, Nat.reduceAdd, Int.reduceBNe, Int.reduceBEq, Int.reduceLT, Int.reduceLE, Int.reduceEq, evh, evp, Nat.reduceLeDiff, Nat.reduceSub, Nat.reduceBEq, typs, q3, q4, g3'', g4'', hcv, hsc] | refine kCond2_by (fun hc => ?_) (fun hc => ?_) <;> try simp only [hc] | refine kPick_by (fun hc => ?_) (fun hc => ?_) <;> try simp only [hc] | refine kWant_by (fun hc => ?_) (fun hc => ?_) <;> try simp only [hc])
            refine callP_meets (clone_spec (SlAt.keep hs K2) hl) ?_
            rintro sl' h3 ⟨k3', hs3⟩
            have g3x := (k3'.2 _ (by omega)).trans g3''
            have g4x := (k3'.2 _ (by omega)).trans g4''
            have p3 := rowOf_rw g3x
            have p4 := rowOf_rw g4x
            have hsc3 := hs3.isCell
            have hcv3 := hs3.cellsV
            repeat' (first | simp only [evr, nextP_norm, evd, evq, beq_self_eq_true, cond_true, cond_false, reduceIte, Nat.reduceEqDiff, Nat.reduceAdd, Int.reduceBNe, Int.reduceBEq, Int.reduceLT, Int.reduceLE, Int.reduceEq, evh, evp, Nat.reduceLeDiff, Nat.reduceSub, Nat.reduceBEq, typs, q3, q4, g3'', g4'', p3, p4, g3x, g4x, hsc3, hcv3, build_seg hs3] | refine kCond2_by (fun hc => ?_) (fun hc => ?_) <;> try simp only [hc] | refine kPick_by (fun hc => ?_) (fun hc => ?_) <;> try simp only [hc] | refine kWant_by (fun hc => ?_) (fun hc => ?_) <;> try simp only [hc])
            rw [cl]
            refine ⟨(K2.trans k3').set (Nat.le_succ _), sl', rfl, ?_⟩
            refine hs3.same (Same.set ?_) (fun k hk => Nat.le_trans K2.1 hk)
            rw [g4x]; exact (by decide : 45 ≠ 64)
  · have f1 : (b.kind == 1) = false := by simp [k1]
    by_cases k2 : b.kind = 2
    · have f2 : (b.kind == 2) = true := by simp [k2]
      have r0 := rowOf_rw c.row
      have e0 : (bt = h.next) = False := eq_false (by omega)
      have e1 : (bt = h.next + 1) = False := eq_false (by omega)
      have cl : cleanR fU nx b = (⟨2, 0, nx + 1, ByteArray.empty, false, [], noBk⟩, 0) := by unfold cleanR; rw [if_neg k1, if_pos k2]
      unfold ptrV
      repeat' (first | simp only [evr, nextP_norm, evd, evq, beq_self_eq_true, cond_true, cond_false, reduceIte, Nat.reduceEqDiff, Nat.reduceAdd, Int.reduceBNe, Int.reduceBEq, Int.reduceLT, Int.reduceLE, Int.reduceEq, evh, evp, Nat.reduceLeDiff, Nat.reduceSub, Nat.reduceBEq, typs, hsc, hcv, f1, f2, r0, e0, e1, if_false, wrap64 (x := nx + 1) (by omega) (by omega)] | refine kCond2_by (fun hc => ?_) (fun hc => ?_) <;> try simp only [hc] | refine kPick_by (fun hc => ?_) (fun hc => ?_) <;> try simp only [hc] | refine kWant_by (fun hc => ?_) (fun hc => ?_) <;> try simp only [hc])
      rw [cl]
      exact ⟨((Keep.push _ _).pushed).set (Nat.le_succ _), _, rfl, .inl ⟨rfl, rfl⟩⟩
    · have f2 : (b.kind == 2) = false := by simp [k2]
      by_cases k3 : b.kind = 3
      · have f3 : (b.kind == 3) = true := by simp [k3]
        repeat' (first | simp only [evr, nextP_norm, evd, evq, beq_self_eq_true, cond_true, cond_false, reduceIte, Nat.reduceEqDiff, Nat.reduceAdd, Int.reduceBNe, Int.reduceBEq, Int.reduceLT, Int.reduceLE, Int.reduceEq, evh, evp, Nat.reduceLeDiff, Nat.reduceSub, Nat.reduceBEq, typs, hsc, hcv, f1, f2, f3] | refine kCond2_by (fun hc => ?_) (fun hc => ?_) <;> try simp only [hc] | refine kPick_by (fun hc => ?_) (fun hc => ?_) <;> try simp only [hc] | refine kWant_by (fun hc => ?_) (fun hc => ?_) <;> try simp only [hc])
        generalize hh : Hp.push (Hp.push h _) _ = H
        have g3 : H.get h.next = some (.row [.int .i64 b.kind, .int .i64 b.uid, .int .i64 b.dir, .string b.link, .bool b.object, sl, .int .i64 b.b.r1, .int .i64 b.b.r2, .int .i64 b.b.r3, .int .i64 b.b.g] 45 (.rw 0 [])) := by rw [← hh, Hp.get_push_lt (Nat.lt_succ_self _)]; exact Hp.get_push_self _ _
        have g4 : H.get (h.next + 1) = some (.row [.int .i64 0, .int .i64 0, .int .i64 0, .string ByteArray.empty, .bool false, .slice none 0 0, .int .i64 0, .int .i64 0, .int .i64 0, .int .i64 0] 45 (.rw 0 [])) := by rw [← hh]; exact Hp.get_push_self _ _
        have hk : Keep h H := by rw [← hh]; exact (Keep.push _ _).pushed
        have hx : H.next = h.next + 2 := by rw [← hh]; rfl
        clear hh
        refine callP_meets (split_spec b.link H) ?_
        rintro v h1 hv
        obtain ⟨k1', hv⟩ := hv
        have g3' := (k1'.2 _ (by omega)).trans g3
        have g4' := (k1'.2 _ (by omega)).trans g4
        have q3 := rowOf_rw g3'
        have q4 := rowOf_rw g4'
        cases hsp : split b.link with
        | none =>
          have cl : cleanR fU nx b = (noBn, 3) := by unfold cleanR; rw [if_neg k1, if_neg k2, if_pos k3, hsp]; rfl
          rw [hsp] at hv
          have hv : v = .tuple #[.slice none 0 0, .int .i64 3] := hv
          subst hv
          repeat' (first | simp only [evr, nextP_norm, evd, evq, beq_self_eq_true, cond_true, cond_false, reduceIte, Nat.reduceEqDiff, Nat.reduceAdd, Int.reduceBNe, Int.reduceBEq, Int.reduceLT, Int.reduceLE, Int.reduceEq, evh, evp, Nat.reduceLeDiff, Nat.reduceSub, Nat.reduceBEq, typs, q3, q4, g3', g4'] | refine kCond2_by (fun hc => ?_) (fun hc => ?_) <;> try simp only [hc] | refine kPick_by (fun hc => ?_) (fun hc => ?_) <;> try simp only [hc] | refine kWant_by (fun hc => ?_) (fun hc => ?_) <;> try simp only [hc])
          rw [cl]
          exact ⟨(hk.trans k1').set (Nat.le_succ _), _, rfl, .inl ⟨rfl, rfl⟩⟩
        | some ps =>
          have cl : cleanR fU nx b = (⟨3, 0, 0, b.link, false, [], noBk⟩, 0) := by unfold cleanR; rw [if_neg k1, if_neg k2, if_pos k3, hsp]; rfl
          rw [hsp] at hv
          obtain ⟨sl1, rfl, -⟩ := hv
          repeat' (first | simp only [evr, nextP_norm, evd, evq, beq_self_eq_true, cond_true, cond_false, reduceIte, Nat.reduceEqDiff, Nat.reduceAdd, Int.reduceBNe, Int.reduceBEq, Int.reduceLT, Int.reduceLE, Int.reduceEq, evh, evp, Nat.reduceLeDiff, Nat.reduceSub, Nat.reduceBEq, typs, q3, q4, g3', g4'] | refine kCond2_by (fun hc => ?_) (fun hc => ?_) <;> try simp only [hc] | refine kPick_by (fun hc => ?_) (fun hc => ?_) <;> try simp only [hc] | refine kWant_by (fun hc => ?_) (fun hc => ?_) <;> try simp only [hc])
          rw [cl]
          exact ⟨(hk.trans k1').set (Nat.le_succ _), _, rfl, .inl ⟨rfl, rfl⟩⟩
      · have f3 : (b.kind == 3) = false := by simp [k3]
        have cl : cleanR fU nx b = (noBn, 15) := by unfold cleanR; rw [if_neg k1, if_neg k2, if_neg k3]
        repeat' (first | simp only [evr, nextP_norm, evd, evq, beq_self_eq_true, cond_true, cond_false, reduceIte, Nat.reduceEqDiff, Nat.reduceAdd, Int.reduceBNe, Int.reduceBEq, Int.reduceLT, Int.reduceLE, Int.reduceEq, evh, evp, Nat.reduceLeDiff, Nat.reduceSub, Nat.reduceBEq, typs, hsc, hcv, f1, f2, f3] | refine kCond2_by (fun hc => ?_) (fun hc => ?_) <;> try simp only [hc] | refine kPick_by (fun hc => ?_) (fun hc => ?_) <;> try simp only [hc] | refine kWant_by (fun hc => ?_) (fun hc => ?_) <;> try simp only [hc])
        rw [cl]
        exact ⟨((Keep.push _ _).pushed).set (Nat.le_succ _), _, rfl, .inl ⟨rfl, rfl⟩⟩
def addE (fL : Int × ByteArray → Option Nat) (fD : Int → Option Int) (fU : Int → Option Nat) (nx : Int) (d : Int) (s : ByteArray) (b : Bn) : Int :=
  if (fD d).isNone then 4 else if mayN s = false then 3 else if (fL (d, s)).isSome then 5 else (cleanR fU nx b).2
structure AddQ (h : Hp) (bt bl bd bu : Nat) (fL : Int × ByteArray → Option Nat) (fD : Int → Option Int) (fU : Int → Option Nat) (nx : Int) (d : Int) (s : ByteArray) (b : Bn) (h' : Hp) (n : Nat) : Prop where
  new : h.next ≤ n
  core : CoreAt h' bt bl bd bu (upd fL (d, s) (some n)) (if b.kind = 2 then upd (upd fD d (some ((fD d).getD 0 + 1))) (nx + 1) (some 0) else upd fD d (some ((fD d).getD 0 + 1)))
    (if b.kind = 1 then upd fU b.uid (some n) else fU) (if b.kind = 2 then nx + 1 else nx)
  node : NodeAt h' (fun k => h.next ≤ k) n ⟨b, d, 1⟩
  next : h.next ≤ h'.next
  same : ∀ k, k < h.next → k ≠ bt → k ≠ bl → k ≠ bd → k ≠ bu → h'.get k = h.get k
def AddP (h : Hp) (bt bl bd bu : Nat) (fL : Int × ByteArray → Option Nat) (fD : Int → Option Int) (fU : Int → Option Nat) (nx : Int) (d : Int) (s : ByteArray) (b : Bn) (v : Value) (h' : Hp) : Prop :=
  (addE fL fD fU nx d s b ≠ 0 ∧ v = .tuple #[.int .i64 0, .int .i64 (addE fL fD fU nx d s b)] ∧ Keep h h') ∨
  (addE fL fD fU nx d s b = 0 ∧ v = .tuple #[.int .i64 (cleanR fU nx b).1.dir, .int .i64 0] ∧ ∃ n, AddQ h bt bl bd bu fL fD fU nx d s (cleanR fU nx b).1 h' n)
theorem build_node {h : Hp} {F : Nat → Prop} {sl : Value} {l : List Tm} (s : TmTy h F sl l) (b : Bn) (d : Int) :
    evBuild kon.P 126 [(0, .agg #[.int .i64 b.kind, .int .i64 b.uid, .int .i64 b.dir, .string b.link, .bool b.object, sl, .int .i64 b.b.r1, .int .i64 b.b.r2, .int .i64 b.b.r3, .int .i64 b.b.g]), (1, .int .i64 d)] =
      some (.agg #[.int .i64 b.kind, .int .i64 b.uid, .int .i64 b.dir, .string b.link, .bool b.object, sl, .int .i64 b.b.r1, .int .i64 b.b.r2, .int .i64 b.b.r3, .int .i64 b.b.g, .int .i64 d, .int .i64 0]) := by
  rcases id s with ⟨rfl, _⟩ | ⟨b, o, k, c, all, st, rfl, _⟩ <;> kernel_rfl
theorem add_spec (c : CoreAt h bt bl bd bu fL fD fU nx) (lt : bt < h.next ∧ bl < h.next ∧ bd < h.next ∧ bu < h.next) (n1 : -4000000000000000000 ≤ nx) (n2 : nx ≤ 4000000000000000000) {b : Bn} {sl : Value} (hs : TmSl h sl b.acl) (hl : b.acl.length ≤ 1000000000)
    (d : Int) (s : ByteArray) (d1 : -4000000000000000000 ≤ (fD d).getD 0) (d2 : (fD d).getD 0 ≤ 4000000000000000000) :
    Meets kon 35 [ptrV bt, .int .i64 d, .string s, .agg (bnC b sl).toArray] h (AddP h bt bl bd bu fL fD fU nx d s b) := by
  have hsc : isCell sl = true := by rcases hs with ⟨rfl, _⟩ | ⟨b, o, k, c, all, rfl, _⟩ <;> rfl
  have hcv : sl.cells = #[sl] := by rcases hs with ⟨rfl, _⟩ | ⟨b, o, k, c, all, rfl, _⟩ <;> rfl
  unfold bnC
  refine Meets.mk rfl (by kernel_rfl) Tryd.func35 rfl (congrArg Array.toList Tryd.results35) ?_
  repeat' (first | simp only [evr, nextP_norm, evd, evq, beq_self_eq_true, cond_true, cond_false, reduceIte, Nat.reduceEqDiff, Nat.reduceAdd, Int.reduceBNe, Int.reduceBEq, Int.reduceLT, Int.reduceLE, Int.reduceEq, evh, evp, Nat.reduceLeDiff, Nat.reduceSub, Nat.reduceBEq, typs, hsc, hcv] | refine kCond2_by (fun hc => ?_) (fun hc => ?_) <;> try simp only [hc] | refine kPick_by (fun hc => ?_) (fun hc => ?_) <;> try simp only [hc] | refine kWant_by (fun hc => ?_) (fun hc => ?_) <;> try simp only [hc])
  generalize hh : Hp.push h _ = H
  have g3 : H.get h.next = some (.row [.int .i64 b.kind, .int .i64 b.uid, .int .i64 b.dir, .string b.link, .bool b.object, sl, .int .i64 b.b.r1, .int .i64 b.b.r2, .int .i64 b.b.r3, .int .i64 b.b.g] 45 (.rw 0 [])) := by rw [← hh]; exact Hp.get_push_self _ _
  have hk : Keep h H := by rw [← hh]; exact Keep.push _ _
  have hx : H.next = h.next + 1 := by rw [← hh]; rfl
  clear hh
  have cH := c.keep hk lt
  have ltH : bt < H.next ∧ bl < H.next ∧ bd < H.next ∧ bu < H.next := ⟨by omega, by omega, by omega, by omega⟩
  refine callP_meets (is_spec cH d) ?_
  rintro v0 H0 ⟨ev, eh⟩
  rw [ev, eh]
  clear ev eh v0 H0
  cases hd : fD d with
  | none =>
    repeat' (first | simp only [evr, nextP_norm, evd, evq, beq_self_eq_true, cond_true, cond_false, reduceIte, Nat.reduceEqDiff, Nat.reduceAdd, Int.reduceBNe, Int.reduceBEq, Int.reduceLT, Int.reduceLE, Int.reduceEq, evh, evp, Nat.reduceLeDiff, Nat.reduceSub, Nat.reduceBEq, typs, (none_spec bt H).call, Option.isSome_none] | refine kCond2_by (fun hc => ?_) (fun hc => ?_) <;> try simp only [hc] | refine kPick_by (fun hc => ?_) (fun hc => ?_) <;> try simp only [hc] | refine kWant_by (fun hc => ?_) (fun hc => ?_) <;> try simp only [hc])
    exact .inl ⟨by simp [addE, hd], by simp [addE, hd], hk⟩
  | some nd =>
    have hmc := (may_spec s H).call
    cases hm : mayN s with
    | false =>
      rw [hm] at hmc
      repeat' (first | simp only [evr, nextP_norm, evd, evq, beq_self_eq_true, cond_true, cond_false, reduceIte, Nat.reduceEqDiff, Nat.reduceAdd, Int.reduceBNe, Int.reduceBEq, Int.reduceLT, Int.reduceLE, Int.reduceEq, evh, evp, Nat.reduceLeDiff, Nat.reduceSub, Nat.reduceBEq, typs, hmc, Option.isSome_some] | refine kCond2_by (fun hc => ?_) (fun hc => ?_) <;> try simp only [hc] | refine kPick_by (fun hc => ?_) (fun hc => ?_) <;> try simp only [hc] | refine kWant_by (fun hc => ?_) (fun hc => ?_) <;> try simp only [hc])
      exact .inl ⟨by simp [addE, hd, hm], by simp [addE, hd, hm], hk⟩
    | true =>
      rw [hm] at hmc
      repeat' (first | simp only [evr, nextP_norm, evd, evq, beq_self_eq_true, cond_true, cond_false, reduceIte, Nat.reduceEqDiff, Nat.reduceAdd, Int.reduceBNe, Int.reduceBEq, Int.reduceLT, Int.reduceLE, Int.reduceEq, evh, evp, Nat.reduceLeDiff, Nat.reduceSub, Nat.reduceBEq, typs, hmc, Option.isSome_some] | refine kCond2_by (fun hc => ?_) (fun hc => ?_) <;> try simp only [hc] | refine kPick_by (fun hc => ?_) (fun hc => ?_) <;> try simp only [hc] | refine kWant_by (fun hc => ?_) (fun hc => ?_) <;> try simp only [hc])
      refine callP_meets (get_spec cH d s) ?_
      rintro v0 H0 ⟨ev, eh⟩
      rw [ev, eh]
      clear ev eh v0 H0
      cases hf : fL (d, s) with
      | some n =>
        unfold optP ptrV
        repeat' (first | simp only [evr, nextP_norm, evd, evq, beq_self_eq_true, cond_true, cond_false, reduceIte, Nat.reduceEqDiff, Nat.reduceAdd, Int.reduceBNe, Int.reduceBEq, Int.reduceLT, Int.reduceLE, Int.reduceEq, evh, evp, Nat.reduceLeDiff, Nat.reduceSub, Nat.reduceBEq, typs] | refine kCond2_by (fun hc => ?_) (fun hc => ?_) <;> try simp only [hc] | refine kPick_by (fun hc => ?_) (fun hc => ?_) <;> try simp only [hc] | refine kWant_by (fun hc => ?_) (fun hc => ?_) <;> try simp only [hc])
        exact .inl ⟨by simp [addE, hd, hm, hf], by simp [addE, hd, hm, hf], hk⟩
      | none =>
        unfold optP
        have q3 := rowOf_rw g3
        repeat' (first | simp only [evr, nextP_norm, evd, evq, beq_self_eq_true, cond_true, cond_false, reduceIte, Nat.reduceEqDiff, Nat.reduceAdd, Int.reduceBNe, Int.reduceBEq, Int.reduceLT, Int.reduceLE, Int.reduceEq, evh, evp, Nat.reduceLeDiff, Nat.reduceSub, Nat.reduceBEq, typs, q3] | refine kCond2_by (fun hc => ?_) (fun hc => ?_) <;> try simp only [hc] | refine kPick_by (fun hc => ?_) (fun hc => ?_) <;> try simp only [hc] | refine kWant_by (fun hc => ?_) (fun hc => ?_) <;> try simp only [hc])
        refine callP_meets (clean_spec cH ltH n1 n2 (SlAt.keep hs hk) hl) ?_
        rintro _ h1 ⟨k1, sl1, rfl, hs1⟩
        have g3' := (k1.2 _ (by omega)).trans g3
        have hx1 := k1.1
        have hsc1 := hs1.isCell
        have hcv1 := hs1.cellsV
        generalize hR : cleanR fU nx b = R at *
        obtain ⟨bb, e⟩ := R
        have hs1 : TmTy h1 (fun k => H.next ≤ k) sl1 bb.acl := hs1
        unfold bnC
        by_cases he : e = 0
        · subst he
          repeat' (first | simp only [evr, nextP_norm, evd, evq, beq_self_eq_true, cond_true, cond_false, reduceIte, Nat.reduceEqDiff, Nat.reduceAdd, Int.reduceBNe, Int.reduceBEq, Int.reduceLT, Int.reduceLE, Int.reduceEq, evh, evp, Nat.reduceLeDiff, Nat.reduceSub, Nat.reduceBEq, typs, hsc1, hcv1] | refine kCond2_by (fun hc => ?_) (fun hc => ?_) <;> try simp only [hc] | refine kPick_by (fun hc => ?_) (fun hc => ?_) <;> try simp only [hc] | refine kWant_by (fun hc => ?_) (fun hc => ?_) <;> try simp only [hc])
          generalize hh : Hp.set _ _ _ = H2
          have g10 : H2.get h1.next = some (.row [.int .i64 bb.kind, .int .i64 bb.uid, .int .i64 bb.dir, .string bb.link, .bool bb.object, sl1, .int .i64 bb.b.r1, .int .i64 bb.b.r2, .int .i64 bb.b.r3, .int .i64 bb.b.g] 45 (.rw 0 [])) := by rw [← hh]; exact Hp.get_set_self _ _ _
          have K2 : Keep h1 H2 := by rw [← hh]; exact (Keep.push _ _).set (Nat.le_refl _)
          have hx2 : H2.next = h1.next + 1 := by rw [← hh]; rfl
          clear hh
          repeat' (first | simp only [evr, nextP_norm, evd, evq, beq_self_eq_true, cond_true, cond_false, reduceIte, Nat.reduceEqDiff, Nat.reduceAdd, Int.reduceBNe, Int.reduceBEq, Int.reduceLT, Int.reduceLE, Int.reduceEq, evh, evp, Nat.reduceLeDiff, Nat.reduceSub, Nat.reduceBEq, typs, build_node hs1, hsc1, hcv1] | refine kCond2_by (fun hc => ?_) (fun hc => ?_) <;> try simp only [hc] | refine kPick_by (fun hc => ?_) (fun hc => ?_) <;> try simp only [hc] | refine kWant_by (fun hc => ?_) (fun hc => ?_) <;> try simp only [hc])
          generalize hh : Hp.push H2 _ = H3
          have gn : H3.get H2.next = some (.row (ndC ⟨bb, d, 0⟩ sl1) 126 (.rw 0 [])) := by rw [← hh]; exact Hp.get_push_self _ _
          have K3 : Keep h1 H3 := by rw [← hh]; exact K2.pushed
          have g10 : H3.get h1.next = _ := (by rw [← hh]; exact Hp.get_push_lt (by omega) : H3.get h1.next = H2.get h1.next).trans g10
          have hx3 : H3.next = H2.next + 1 := by rw [← hh]; rfl
          clear hh
          have Kh : Keep h H3 := (hk.trans k1).trans K3
          have c3 := c.keep Kh lt
          refine callP_meets (put_spec c3 (n := H2.next) (x := ⟨bb, d, 0⟩) (sl := sl1) gn d s d1 d2 (show -4000000000000000000 ≤ (0 : Int) by decide) (show (0 : Int) ≤ 4000000000000000000 by decide)) ?_
          rintro _ h4 ⟨rfl, c4, gn4, nx4, s4⟩
          have g10 := (s4 h1.next (by omega) (by omega) (by omega)).trans g10
          have q10 := rowOf_rw g10
          have hnode : NodeAt h4 (fun k => h.next ≤ k) H2.next ⟨bb, d, 1⟩ := by
            refine ⟨sl1, by omega, gn4, (hs1.same (Same.keep K3) fun k hk' => Nat.le_trans hk.1 hk').same ⟨Nat.le_of_eq nx4.symm, fun j all st hj hg => ?_⟩ fun _ hk' => hk'⟩
            have hj1 := c3.row_ne hg
            rw [s4 j hj1.1 hj1.2.1 (get_ne hg gn (fun e => by simp at e))]
            exact hg
          have hsame : ∀ k, k < h.next → k ≠ bl → k ≠ bd → h4.get k = h.get k := fun k h1k h2k h3k => (s4 k h2k h3k (by omega)).trans (Kh.2 k h1k)
          have hz : addE fL fD fU nx d s b = 0 := by simp [addE, hd, hm, hf, hR]
          by_cases hk1 : bb.kind = 1
          · have f1 : (bb.kind == 1) = true := by simp [hk1]
            obtain ⟨h5, e5, m5, n5, s5⟩ := c4.u.put (t := 117) (kt := 3) (et := 122) (P := kon.P) (by kernel_rfl) (keyI_ok Tryd.underlying3) bb.uid H2.next
            have r0 := rowOf_rw c4.row
            have q5 := rowOf_rw ((s5 h1.next (by omega)).trans g10)
            unfold keyI ptrV at e5
            unfold ptrV
            repeat' (first | simp only [evr, nextP_norm, evd, evq, beq_self_eq_true, cond_true, cond_false, reduceIte, Nat.reduceEqDiff, Nat.reduceAdd, Int.reduceBNe, Int.reduceBEq, Int.reduceLT, Int.reduceLE, Int.reduceEq, evh, evp, Nat.reduceLeDiff, Nat.reduceSub, Nat.reduceBEq, typs, q10, f1] | refine kCond2_by (fun hc => ?_) (fun hc => ?_) <;> try simp only [hc] | refine kPick_by (fun hc => ?_) (fun hc => ?_) <;> try simp only [hc] | refine kWant_by (fun hc => ?_) (fun hc => ?_) <;> try simp only [hc])
            refine Eq.mpr (Wp_drawOrd (KR.mk (by kernel_rfl))) ?_
            repeat' (first | simp only [evr, nextP_norm, evd, evq, beq_self_eq_true, cond_true, cond_false, reduceIte, Nat.reduceEqDiff, Nat.reduceAdd, Int.reduceBNe, Int.reduceBEq, Int.reduceLT, Int.reduceLE, Int.reduceEq, evh, evp, Nat.reduceLeDiff, Nat.reduceSub, Nat.reduceBEq, typs, q10, r0, P_insert, e5, q5] | refine kCond2_by (fun hc => ?_) (fun hc => ?_) <;> try simp only [hc] | refine kPick_by (fun hc => ?_) (fun hc => ?_) <;> try simp only [hc] | refine kWant_by (fun hc => ?_) (fun hc => ?_) <;> try simp only [hc])
            have hlt : ∀ k, k < h.next → k ≠ H2.next := fun k hk' => by omega
            refine .inr ⟨hz, by rw [hR], H2.next, ?_⟩
            rw [hR]
            have hb2 : ¬ bb.kind = 2 := by omega
            obtain ⟨sln, z1, z2, z3⟩ := hnode
            refine ⟨by omega, ?_, ⟨sln, by omega, by rw [s5 _ (by omega)]; exact z2, z3.same (Same.one (b := bu) ?_ (by omega) fun j _ hj => s5 j hj) fun _ hk' => hk'⟩, by omega, fun k e1 e2 e3 e4 e5 => (s5 k e5).trans (hsame k e1 e3 e4)⟩
            · rw [if_neg hb2, if_pos hk1, if_neg hb2]
              exact ⟨by rw [s5 bt c4.bt_bu]; exact c4.row, c4.l.eq (s5 bl c.lu), c4.d.eq (s5 bd c.du), m5, c.ld, c.lu, c.du⟩
            · obtain ⟨es, ck, hg⟩ := c4.u.get
              rw [hg]; trivial
          · have f1 : (bb.kind == 1) = false := by simp [hk1]
            by_cases hk2 : bb.kind = 2
            · have f2 : (bb.kind == 2) = true := by simp [hk2]
              have r0 := rowOf_rw c4.row
              have grow := c4.row
              unfold ptrV
              repeat' (first | simp only [evr, nextP_norm, evd, evq, beq_self_eq_true, cond_true, cond_false, reduceIte, Nat.reduceEqDiff, Nat.reduceAdd, Int.reduceBNe, Int.reduceBEq, Int.reduceLT, Int.reduceLE, Int.reduceEq, evh, evp, Nat.reduceLeDiff, Nat.reduceSub, Nat.reduceBEq, typs, q10, f1, f2, r0, grow, wrap64 (x := nx + 1) (by omega) (by omega)] | refine kCond2_by (fun hc => ?_) (fun hc => ?_) <;> try simp only [hc] | refine kPick_by (fun hc => ?_) (fun hc => ?_) <;> try simp only [hc] | refine kWant_by (fun hc => ?_) (fun hc => ?_) <;> try simp only [hc])
              generalize hh : Hp.set h4 bt _ = H5
              have g5 : H5.get bt = some (.row [.map (some bl), .map (some bd), .map (some bu), .int .i64 (nx + 1)] 119 (.rw 0 [])) := by rw [← hh]; exact Hp.get_set_self _ _ _
              have s5 : ∀ k, k ≠ bt → H5.get k = h4.get k := fun k hk' => by rw [← hh]; exact Hp.get_set_ne hk'
              have x5 : H5.next = h4.next := by rw [← hh]; rfl
              clear hh
              have c5 : CoreAt H5 bt bl bd bu (upd fL (d, s) (some H2.next)) (upd fD d (some ((fD d).getD 0 + 1))) fU (nx + 1) :=
                ⟨g5, c4.l.eq (s5 bl (Ne.symm c4.bt_bl)), c4.d.eq (s5 bd (Ne.symm c4.bt_bd)), c4.u.eq (s5 bu (Ne.symm c4.bt_bu)), c.ld, c.lu, c.du⟩
              obtain ⟨h6, e6, m6, n6, s6⟩ := c5.d.put (t := 116) (kt := 3) (et := 3) (P := kon.P) (by kernel_rfl) (keyI_ok Tryd.underlying3) (nx + 1) 0
              have r5 := rowOf_rw g5
              have q6 := rowOf_rw ((s6 h1.next (by omega)).trans ((s5 h1.next (by omega)).trans g10))
              unfold keyI intV at e6
              refine Eq.mpr (Wp_drawOrd (KR.mk (by kernel_rfl))) ?_
              repeat' (first | simp only [evr, nextP_norm, evd, evq, beq_self_eq_true, cond_true, cond_false, reduceIte, Nat.reduceEqDiff, Nat.reduceAdd, Int.reduceBNe, Int.reduceBEq, Int.reduceLT, Int.reduceLE, Int.reduceEq, evh, evp, Nat.reduceLeDiff, Nat.reduceSub, Nat.reduceBEq, typs, r5, P_insert, e6, q6] | refine kCond2_by (fun hc => ?_) (fun hc => ?_) <;> try simp only [hc] | refine kPick_by (fun hc => ?_) (fun hc => ?_) <;> try simp only [hc] | refine kWant_by (fun hc => ?_) (fun hc => ?_) <;> try simp only [hc])
              refine .inr ⟨hz, by rw [hR], H2.next, ?_⟩
              rw [hR]
              obtain ⟨sln, z1, z2, z3⟩ := hnode
              have st : ∀ k, k ≠ bt → k ≠ bd → h6.get k = h4.get k := fun k e1 e2 => (s6 k e2).trans (s5 k e1)
              refine ⟨by omega, ?_, ⟨sln, by omega, by rw [st _ (by omega) (by omega)]; exact z2, (z3.same (Same.one (b := bt) ?_ (by omega) fun j _ hj => s5 j hj) fun _ hk' => hk').same (Same.one (b := bd) ?_ (by omega) fun j _ hj => s6 j hj) fun _ hk' => hk'⟩, by omega,
                fun k e1 e2 e3 e4 e5 => (st k e2 e4).trans (hsame k e1 e3 e4)⟩
              · rw [if_pos hk2, if_neg hk1, if_pos hk2]
                exact ⟨by rw [s6 bt c5.bt_bd]; exact g5, c5.l.eq (s6 bl c.ld), m6, c5.u.eq (s6 bu (Ne.symm c.du)), c.ld, c.lu, c.du⟩
              · rw [c4.row]; exact (by decide : 119 ≠ 64)
              · obtain ⟨es, ck, hg⟩ := c5.d.get
                rw [hg]; trivial
            · have f2 : (bb.kind == 2) = false := by simp [hk2]
              repeat' (first | simp only [evr, nextP_norm, evd, evq, beq_self_eq_true, cond_true, cond_false, reduceIte, Nat.reduceEqDiff, Nat.reduceAdd, Int.reduceBNe, Int.reduceBEq, Int.reduceLT, Int.reduceLE, Int.reduceEq, evh, evp, Nat.reduceLeDiff, Nat.reduceSub, Nat.reduceBEq, typs, q10, f1, f2] | refine kCond2_by (fun hc => ?_) (fun hc => ?_) <;> try simp only [hc] | refine kPick_by (fun hc => ?_) (fun hc => ?_) <;> try simp only [hc] | refine kWant_by (fun hc => ?_) (fun hc => ?_) <;> try simp only [hc])
              refine .inr ⟨hz, by rw [hR], H2.next, ?_⟩
              rw [hR]
              exact ⟨by omega, by rw [if_neg hk2, if_neg hk1, if_neg hk2]; exact c4, hnode, by omega, fun k e1 e2 e3 e4 e5 => hsame k e1 e3 e4⟩
        · have fe : (e != 0) = true := by simp [he]
          repeat' (first | simp only [evr, nextP_norm, evd, evq, beq_self_eq_true, cond_true, cond_false, reduceIte, Nat.reduceEqDiff, Nat.reduceAdd, Int.reduceBNe, Int.reduceBEq, Int.reduceLT, Int.reduceLE, Int.reduceEq, evh, evp, Nat.reduceLeDiff, Nat.reduceSub, Nat.reduceBEq, typs, hsc1, hcv1, fe] | refine kCond2_by (fun hc => ?_) (fun hc => ?_) <;> try simp only [hc] | refine kPick_by (fun hc => ?_) (fun hc => ?_) <;> try simp only [hc] | refine kWant_by (fun hc => ?_) (fun hc => ?_) <;> try simp only [hc])
          refine .inl ⟨by simp [addE, hd, hm, hf, hR, he], by simp [addE, hd, hm, hf, hR], ?_⟩
          exact ((hk.trans k1).pushed).set (by omega)
end
end Go.Proofs.YtncmgiddcefpcaaDoor
namespace Go.Proofs.YtncmgiddcefpcaaDoor
open Go Go.Ev Go.Con
set_option linter.unusedSimpArgs false
set_option linter.unusedVariables false
set_option maxRecDepth 100000
def nodeF (nb : List Nat) (o : Option Nat) : Option Nat := o.bind fun i => nb[i]?
theorem nodeF_isSome {nb : List Nat} {o : Option Nat} (h : ∀ i, o = some i → i < nb.length) : (nodeF nb o).isSome = o.isSome := by
  cases o with
  | none => rfl
  | some i => simp [nodeF, List.getElem?_eq_getElem (h i rfl)]
theorem nodeF_snoc {nb : List Nat} {n : Nat} {o : Option Nat} (h : ∀ i, o = some i → i < nb.length) : nodeF (nb ++ [n]) o = nodeF nb o := by
  cases o with
  | none => rfl
  | some i => simp [nodeF, List.getElem?_append_left (h i rfl)]
theorem nodeF_new {nb : List Nat} {n i : Nat} (h : i = nb.length) : nodeF (nb ++ [n]) (some i) = some n := by subst h; simp [nodeF]
structure TreeB (h : Hp) (F : Nat → Prop) (T : Hi) (bt bl bd bu : Nat) (nb : List Nat) : Prop where
  len : nb.length = T.B.length
  core : CoreAt h bt bl bd bu (fun k => nodeF nb (T.getF k)) T.dirF (fun u => nodeF nb (T.seg u)) ((T.D.length : Int) - 1)
  node : ∀ e ∈ T.L, ∃ n, nb[e.id]? = some n ∧ F n ∧ NodeAt h F n ⟨T.br e.id, e.dir, T.many e.id⟩
  nd : nb.Nodup
  nF : ∀ n ∈ nb, F n
  own : F bt ∧ F bl ∧ F bd ∧ F bu
  lt : ∀ k, F k → k < h.next
  ok : T.Ok
  acl : ∀ i, (T.br i).acl.length ≤ 1000000000
def TreeAt (h : Hp) (F : Nat → Prop) (T : Hi) (bt : Nat) : Prop := ∃ bl bd bu nb, TreeB h F T bt bl bd bu nb
structure Upd (h : Hp) (F : Nat → Prop) (h' : Hp) (F' : Nat → Prop) : Prop where
  next : h.next ≤ h'.next
  same : ∀ k, k < h.next → ¬ F k → h'.get k = h.get k
  own : ∀ k, F' k → F k ∨ h.next ≤ k
section
variable {h : Hp} {F : Nat → Prop} {T : Hi} {bt bl bd bu : Nat} {nb : List Nat}
theorem TreeB.ltb (t : TreeB h F T bt bl bd bu nb) : bt < h.next ∧ bl < h.next ∧ bd < h.next ∧ bu < h.next := ⟨t.lt _ t.own.1, t.lt _ t.own.2.1, t.lt _ t.own.2.2.1, t.lt _ t.own.2.2.2⟩
theorem TreeB.getlt (t : TreeB h F T bt bl bd bu nb) (k : Int × ByteArray) : ∀ i, T.getF k = some i → i < nb.length := fun i e => by rw [t.len]; exact t.ok.get_lt e
theorem TreeB.seglt (t : TreeB h F T bt bl bd bu nb) (u : Int) : ∀ i, T.seg u = some i → i < nb.length := fun i e => by rw [t.len]; exact t.ok.seg_lt e
theorem TreeB.out_id (t : TreeB h F T bt bl bd bu nb) {e : En} (he : e ∈ T.L) : OutOf h F (nodeF nb (some e.id)) (some (T.br e.id)) := by
  obtain ⟨n, h1, _, h2⟩ := t.node e he
  have : nodeF nb (some e.id) = some n := h1
  rw [this]
  exact ⟨_, h2, rfl, t.acl _⟩
theorem TreeB.out_get (t : TreeB h F T bt bl bd bu nb) (d : Int) (s : ByteArray) : OutOf h F (nodeF nb (T.getF (d, s))) (T.look d s) := by
  unfold Hi.look Hi.get
  cases hg : T.getF (d, s) with
  | none => trivial
  | some i =>
    obtain ⟨e, he, _, rfl⟩ := Hi.get_some hg
    exact t.out_id he
theorem TreeB.keep (t : TreeB h F T bt bl bd bu nb) {h' : Hp} (hn : h.next ≤ h'.next) (hs : ∀ k, F k → h'.get k = h.get k) : TreeB h' F T bt bl bd bu nb := by
  have c := t.core
  have o := t.own
  refine ⟨t.len, ⟨by rw [hs bt o.1]; exact c.row, c.l.eq (hs bl o.2.1), c.d.eq (hs bd o.2.2.1), c.u.eq (hs bu o.2.2.2), c.ld, c.lu, c.du⟩, fun e he => ?_, t.nd, t.nF, o, fun k hk => Nat.lt_of_lt_of_le (t.lt k hk) hn, t.ok, t.acl⟩
  obtain ⟨n, h1, h2, sl, h3, h4, h5⟩ := t.node e he
  refine ⟨n, h1, h2, sl, Nat.lt_of_lt_of_le h3 hn, by rw [hs n h2]; exact h4, ?_⟩
  rcases h5 with h5 | ⟨b, o, k, c, all, st, e1, e2, e3, e4, e5, e6⟩
  · exact .inl h5
  · exact .inr ⟨b, o, k, c, all, st, e1, e2, e3, Nat.lt_of_lt_of_le e4 hn, by rw [hs b e3]; exact e5, e6⟩
theorem TreeAt.keep {bt : Nat} (t : TreeAt h F T bt) {h' : Hp} (hn : h.next ≤ h'.next) (hs : ∀ k, F k → h'.get k = h.get k) : TreeAt h' F T bt := by
  obtain ⟨bl, bd, bu, nb, t⟩ := t; exact ⟨bl, bd, bu, nb, t.keep hn hs⟩
theorem TreeAt.keeps {bt : Nat} (t : TreeAt h F T bt) {h' : Hp} (k : Keep h h') : TreeAt h' F T bt := by
  obtain ⟨bl, bd, bu, nb, t⟩ := t; exact ⟨bl, bd, bu, nb, t.keep k.1 fun j hj => k.2 j (t.lt j hj)⟩
theorem tLook_spec (t : TreeAt h F T bt) (d : Int) (s : ByteArray) : Meets kon 40 [ptrV bt, .int .i64 d, .string s] h (OutP (T.look d s) h) := by
  obtain ⟨bl, bd, bu, nb, t⟩ := t
  exact look_spec t.core t.ltb d s (t.out_get d s)
theorem tNew_spec (h : Hp) : Meets kon 34 [] h fun v h' => ∃ F bt, v = ptrV bt ∧ Keep h h' ∧ TreeAt h' F newHi bt ∧ ∀ k, F k → h.next ≤ k := by
  refine (new_spec h).mono ?_
  rintro v h' ⟨rfl, hk, hx, c⟩
  refine ⟨fun k => h.next ≤ k ∧ k < h.next + 4, _, rfl, hk, ⟨h.next, h.next + 1, h.next + 2, [], ⟨rfl, ?_, by simp [newHi], .nil, by simp, ⟨⟨by omega, by omega⟩, ⟨by omega, by omega⟩, ⟨by omega, by omega⟩, ⟨by omega, by omega⟩⟩, fun k hk' => by omega, Hi.newHi_ok, fun i => by simp [newHi, Hi.br, noBn]⟩⟩, fun k hk' => hk'.1⟩
  have e2 : newHi.dirF = upd (fun _ => none) 0 (some 0) := by
    funext d
    unfold Hi.dirF Hi.is upd newHi Hi.count
    by_cases hd : d = 0
    · subst hd; simp
    · rw [if_neg hd, if_neg]
      simp only [Bool.and_eq_true, decide_eq_true_eq, beq_iff_eq]
      rintro ⟨h1, h2⟩
      have : d.toNat < 1 := by
        have := (List.getElem?_eq_some_iff.1 h2).1; simpa using this
      omega
  rw [e2]
  exact c
theorem TreeB.clean_eq (t : TreeB h F T bt bl bd bu nb) (b : Bn) : cleanR (fun u => nodeF nb (T.seg u)) ((T.D.length : Int) - 1) b = if T.cleanE b = 0 then (T.clean b, 0) else (noBn, T.cleanE b) := by
  unfold cleanR Hi.cleanE Hi.clean
  rw [nodeF_isSome (t.seglt b.uid)]
  by_cases k1 : b.kind = 1
  · simp only [if_pos k1]
    split
    · rfl
    · split <;> rfl
  · simp only [if_neg k1]
    by_cases k2 : b.kind = 2
    · simp only [if_pos k2]
      rw [show (T.D.length : Int) - 1 + 1 = T.D.length by omega]; rfl
    · simp only [if_neg k2]
      by_cases k3 : b.kind = 3
      · simp only [if_pos k3]
        split <;> rfl
      · simp only [if_neg k3]; rfl
theorem TreeB.addE_eq (t : TreeB h F T bt bl bd bu nb) (d : Int) (s : ByteArray) (b : Bn) : addE (fun k => nodeF nb (T.getF k)) T.dirF (fun u => nodeF nb (T.seg u)) ((T.D.length : Int) - 1) d s b = T.why d s b := by
  unfold addE Hi.why Hi.get
  rw [t.clean_eq, nodeF_isSome (t.getlt (d, s))]
  have e1 : (T.dirF d).isNone = !T.is d := by unfold Hi.dirF; cases T.is d <;> rfl
  rw [e1]
  cases T.is d with
  | false => rfl
  | true =>
    simp only [Bool.not_true, Bool.false_eq_true, Bool.true_eq_false, if_false]
    cases mayN s with
    | false => rfl
    | true =>
      simp only [Bool.true_eq_false, if_false]
      cases T.getF (d, s) with
      | some i => rfl
      | none =>
        simp only [Option.isSome_none, Bool.false_eq_true, if_false]
        split
        · rename_i hz; exact hz.symm
        · rfl
theorem CoreAt.sameTm {fL : Int × ByteArray → Option Nat} {fD : Int → Option Int} {fU : Int → Option Nat} {nx : Int} (c : CoreAt h bt bl bd bu fL fD fU nx) {h' : Hp} (hn : h.next ≤ h'.next)
    (hs : ∀ k, k < h.next → k ≠ bt → k ≠ bl → k ≠ bd → k ≠ bu → h'.get k = h.get k) : Same 64 h h' := ⟨hn, fun b all st hb hg => by
  obtain ⟨e1, e2, e3⟩ := c.row_ne hg
  rw [hs b hb (get_ne hg c.row (fun e => by simp at e)) e1 e2 e3]
  exact hg⟩
theorem br_out (T : Hi) {i : Nat} (h : ¬ i < T.B.length) : T.br i = noBn := by
  unfold Hi.br; rw [List.getElem?_eq_none (by omega)]; rfl
theorem TreeB.added (t : TreeB h F T bt bl bd bu nb) {d : Int} {s : ByteArray} {b : Bn} (hw : T.why d s b = 0) (hl : b.acl.length ≤ 1000000000) {h' : Hp} {n : Nat}
    (q : AddQ h bt bl bd bu (fun k => nodeF nb (T.getF k)) T.dirF (fun u => nodeF nb (T.seg u)) ((T.D.length : Int) - 1) d s (T.clean b) h' n) :
    TreeB h' (fun k => F k ∨ h.next ≤ k ∧ k < h'.next) (T.added d s b) bt bl bd bu (nb ++ [n]) := by
  have hnlt : n < h'.next := by obtain ⟨sl, h1, _⟩ := q.node; exact h1
  have hnn : ∀ k, F k → k ≠ n := fun k hk e => by have := t.lt k hk; have := q.new; omega
  have hd : T.is d = true := by
    unfold Hi.why at hw; cases hi : T.is d with
    | true => rfl
    | false => rw [hi, if_pos rfl] at hw; cases hw
  have hg : T.getF (d, s) = none := by
    unfold Hi.why Hi.get at hw; cases hi : T.getF (d, s) with
    | none => rfl
    | some i => rw [hi, hd] at hw; simp only [Bool.true_eq_false, if_false, Option.isSome_some, if_true] at hw; split at hw <;> cases hw
  have hnd : ¬ d = (T.D.length : Int) := fun e => by
    unfold Hi.is at hd
    rw [e] at hd
    simp at hd
  have hkind : ((T.clean b).kind = 2 ↔ b.kind = 2) := by
    unfold Hi.clean; split
    · rename_i hk; simp [hk]
    · split
      · rename_i hk; simp [hk]
      · rename_i hk; simp [hk]
  have hseg : (T.clean b).kind = 1 → T.seg (T.clean b).uid = none := fun hk => by
    have hb1 : b.kind = 1 := by
      unfold Hi.clean at hk; split at hk
      · assumption
      · split at hk <;> simp at hk
    have hu : (T.clean b).uid = b.uid := by unfold Hi.clean; rw [if_pos hb1]
    rw [hu]
    unfold Hi.why Hi.cleanE at hw
    rw [hd] at hw
    simp only [Bool.true_eq_false, if_false, if_pos hb1] at hw
    cases hi : T.seg b.uid with
    | none => rfl
    | some i =>
      rw [hi] at hw
      simp only [Option.isSome_some, if_true] at hw
      split at hw
      · cases hw
      · split at hw
        · cases hw
        · split at hw <;> cases hw
  have sm := t.core.sameTm q.next q.same
  have ok' := t.ok.added hw
  refine ⟨by simp [Hi.added, t.len], ?_, fun e he => ?_, ?_, fun k hk => ?_, ⟨.inl t.own.1, .inl t.own.2.1, .inl t.own.2.2.1, .inl t.own.2.2.2⟩, fun k hk => ?_, ok', fun i => ?_⟩
  · have c := q.core
    have eL : (fun k => nodeF (nb ++ [n]) ((T.added d s b).getF k)) = upd (fun k => nodeF nb (T.getF k)) (d, s) (some n) := by
      have := Hi.getF_snoc (B := T.B) (L := T.L) (D := T.D) (e := ⟨d, T.B.length, s⟩) (T.B ++ [T.clean b]) (if b.kind = 2 then T.D ++ [true] else T.D) hg
      have e1 : (T.added d s b).getF = _ := this
      rw [e1]
      funext k
      by_cases hk : k = (d, s)
      · subst hk
        show nodeF (nb ++ [n]) (upd _ (d, s) _ (d, s)) = _
        rw [upd_self, upd_self, nodeF_new t.len.symm]
      · show nodeF (nb ++ [n]) (upd _ (d, s) _ k) = _
        rw [upd_ne _ _ hk, upd_ne _ _ hk]
        exact nodeF_snoc (t.getlt k)
    have cnt : ∀ d', (T.added d s b).count d' = T.count d' + if d = d' then 1 else 0 := fun d' => Hi.count_snoc (e := ⟨d, T.B.length, s⟩) _ _ d'
    have c0 : (T.dirF d).getD 0 = T.count d := by unfold Hi.dirF; rw [if_pos hd]; rfl
    have noD : T.count (T.D.length : Int) = 0 := by
      refine Nat.eq_zero_of_not_pos fun hp => ?_
      obtain ⟨e, he, h1⟩ := Hi.count_pos.1 hp
      have h2 := t.ok.dirs e he
      rw [h1] at h2
      unfold Hi.is at h2
      simp at h2
    have eD : (T.added d s b).dirF = (if (T.clean b).kind = 2 then upd (upd T.dirF d (some ((T.dirF d).getD 0 + 1))) ((T.D.length : Int) - 1 + 1) (some 0) else upd T.dirF d (some ((T.dirF d).getD 0 + 1))) := by
      rw [c0, show (T.D.length : Int) - 1 + 1 = T.D.length by omega]
      by_cases hk : b.kind = 2
      · have his : ∀ d', (T.added d s b).is d' = if d' = (T.D.length : Int) then true else T.is d' := fun d' => by
          have := Hi.is_snoc (L := T.L) (B := T.B) (D := T.D) (T.added d s b).B (T.added d s b).L d'
          have e : (T.added d s b) = ⟨(T.added d s b).B, (T.added d s b).L, T.D ++ [true]⟩ := by unfold Hi.added; simp [hk]
          rw [e]; exact this
        rw [if_pos (hkind.2 hk)]
        funext d'
        show (if (T.added d s b).is d' = true then some ((T.added d s b).count d' : Int) else none) = _
        rw [his, cnt]
        by_cases e1 : d' = (T.D.length : Int)
        · subst e1
          rw [upd_self, if_pos rfl, if_pos rfl, noD, if_neg hnd]; rfl
        · rw [upd_ne _ _ e1, if_neg e1]
          by_cases e2 : d' = d
          · subst e2
            rw [upd_self, if_pos hd, if_pos rfl]; simp
          · rw [upd_ne _ _ e2, if_neg (Ne.symm e2), Nat.add_zero]; rfl
      · have his : ∀ d', (T.added d s b).is d' = T.is d' := fun d' => by unfold Hi.added Hi.is; simp [hk]
        rw [if_neg (fun h => hk (hkind.1 h))]
        funext d'
        show (if (T.added d s b).is d' = true then some ((T.added d s b).count d' : Int) else none) = _
        rw [his, cnt]
        by_cases e2 : d' = d
        · subst e2
          rw [upd_self, if_pos hd, if_pos rfl]; simp
        · rw [upd_ne _ _ e2, if_neg (Ne.symm e2), Nat.add_zero]; rfl
    have eS : (fun u => nodeF (nb ++ [n]) ((T.added d s b).seg u)) = if (T.clean b).kind = 1 then upd (fun u => nodeF nb (T.seg u)) (T.clean b).uid (some n) else fun u => nodeF nb (T.seg u) := by
      have e1 : (T.added d s b).seg = _ := Hi.seg_added (B := T.B) (L := T.L) (D := T.D) (e := ⟨d, T.B.length, s⟩) (c := T.clean b) t.ok.ids rfl (if b.kind = 2 then T.D ++ [true] else T.D) hseg
      rw [e1]
      by_cases hk : (T.clean b).kind = 1
      · rw [if_pos hk, if_pos hk]
        funext u
        by_cases hu : u = (T.clean b).uid
        · subst hu
          rw [upd_self, upd_self, nodeF_new t.len.symm]
        · rw [upd_ne _ _ hu, upd_ne _ _ hu]
          exact nodeF_snoc (t.seglt u)
      · rw [if_neg hk, if_neg hk]
        funext u
        exact nodeF_snoc (t.seglt u)
    have eN : (((T.added d s b).D.length : Nat) : Int) - 1 = if (T.clean b).kind = 2 then (T.D.length : Int) - 1 + 1 else (T.D.length : Int) - 1 := by
      by_cases hk : b.kind = 2
      · rw [if_pos (hkind.2 hk)]; simp [Hi.added, hk]
      · rw [if_neg (fun h => hk (hkind.1 h))]; simp [Hi.added, hk]
    rw [eL, eD, eS, eN]
    exact c
  · have hmany : ∀ i, (T.added d s b).many i = T.many i + if T.B.length = i then 1 else 0 := fun i => Hi.many_snoc (e := ⟨d, T.B.length, s⟩) _ _ i
    have he' : e ∈ T.L ∨ e = ⟨d, T.B.length, s⟩ := by simpa [Hi.added] using he
    rcases he' with he | rfl
    · have hid := t.ok.ids e he
      obtain ⟨m, h1, h2, sl, h3, h4, h5⟩ := t.node e he
      have hbr : (T.added d s b).br e.id = T.br e.id := Hi.br_snoc hid
      have hne := t.core.row_ne h4
      refine ⟨m, by rw [List.getElem?_append_left (by rw [t.len]; exact hid)]; exact h1, .inl h2, sl, Nat.lt_of_lt_of_le h3 q.next, ?_, ?_⟩
      · rw [q.same m h3 (t.core.node_ne h4) hne.1 hne.2.1 hne.2.2, hbr, hmany, if_neg (by omega)]
        exact h4
      · rw [hbr]; exact h5.same sm fun k hk => .inl hk
    · obtain ⟨sl, h3, h4, h5⟩ := q.node
      have hbr : (T.added d s b).br T.B.length = T.clean b := Hi.br_new
      have h0 : T.many T.B.length = 0 := by
        refine Nat.eq_zero_of_not_pos fun hp => ?_
        obtain ⟨e, he, h1⟩ := Hi.many_pos.1 hp
        have := t.ok.ids e he
        omega
      refine ⟨n, by rw [← t.len]; simp, .inr ⟨q.new, h3⟩, sl, h3, ?_, ?_⟩
      · rw [hbr, hmany, h0, if_pos rfl]
        exact h4
      · rw [hbr]
        rcases h5 with h5 | ⟨b, o, k, c, all, st, e1, e2, e3, e4, e5⟩
        · exact .inl h5
        · exact .inr ⟨b, o, k, c, all, st, e1, e2, .inr ⟨e3, e4⟩, e4, e5⟩
  · rw [List.nodup_append]
    refine ⟨t.nd, by simp, fun a ha b hb => ?_⟩
    simp only [List.mem_singleton] at hb
    subst hb
    exact hnn a (t.nF a ha)
  · rcases List.mem_append.1 hk with hk | hk
    · exact .inl (t.nF k hk)
    · simp only [List.mem_singleton] at hk; subst hk; exact .inr ⟨q.new, hnlt⟩
  · rcases hk with hk | hk
    · exact Nat.lt_of_lt_of_le (t.lt k hk) q.next
    · exact hk.2
  · by_cases hi : i < T.B.length
    · have : (T.added d s b).br i = T.br i := Hi.br_snoc hi
      rw [this]; exact t.acl i
    · by_cases hi2 : i = T.B.length
      · subst hi2
        have : (T.added d s b).br T.B.length = T.clean b := Hi.br_new
        rw [this]
        unfold Hi.clean; split
        · exact hl
        · split <;> simp
      · rw [br_out _ (by simp [Hi.added]; omega)]; simp [noBn]
theorem tAdd_spec (t : TreeAt h F T bt) (hL : T.L.length ≤ 1000000000000) (hB : T.B.length ≤ 1000000000000) {b : Bn} {sl : Value} (hs : TmSl h sl b.acl) (hl : b.acl.length ≤ 1000000000) (d : Int) (s : ByteArray) :
    Meets kon 35 [ptrV bt, .int .i64 d, .string s, .agg (bnC b sl).toArray] h fun v h' => v = .tuple #[.int .i64 (T.add d s b).2.1, .int .i64 (T.add d s b).2.2] ∧ ∃ F', TreeAt h' F' (T.add d s b).1 bt ∧ Upd h F h' F' := by
  obtain ⟨bl, bd, bu, nb, t⟩ := t
  have hfew := t.ok.few
  have hcnt : ∀ d, 0 ≤ (T.dirF d).getD 0 ∧ (T.dirF d).getD 0 ≤ 1000000000000 := fun d => by
    have := Hi.count_le T d
    unfold Hi.dirF
    split
    · simp; omega
    · simp
  refine (add_spec t.core t.ltb (by omega) (by omega) hs hl d s (by have := (hcnt d).1; omega) (by have := (hcnt d).2; omega)).mono ?_
  intro v h' hv
  unfold AddP at hv
  rw [t.addE_eq, t.clean_eq] at hv
  unfold Hi.add
  rcases hv with ⟨h1, rfl, hk⟩ | ⟨h1, h2, n, h3⟩
  · rw [if_neg h1]
    exact ⟨rfl, F, ⟨bl, bd, bu, nb, t.keep hk.1 fun j hj => hk.2 j (t.lt j hj)⟩, hk.1, fun k hk1 _ => hk.2 k hk1, fun k hk' => .inl hk'⟩
  · have hc : T.cleanE b = 0 := by
      unfold Hi.why at h1
      split at h1
      · cases h1
      · split at h1
        · cases h1
        · split at h1
          · cases h1
          · exact h1
    rw [if_pos hc] at h2 h3
    rw [if_pos h1]
    refine ⟨h2, _, ⟨bl, bd, bu, _, t.added h1 hl h3⟩, h3.next, fun k hk1 hk2 => ?_, fun k hk => ?_⟩
    · exact h3.same k hk1 (fun e => hk2 (e ▸ t.own.1)) (fun e => hk2 (e ▸ t.own.2.1)) (fun e => hk2 (e ▸ t.own.2.2.1)) (fun e => hk2 (e ▸ t.own.2.2.2))
    · rcases hk with hk | hk
      · exact .inl hk
      · exact .inr hk.1
end
end Go.Proofs.YtncmgiddcefpcaaDoor
