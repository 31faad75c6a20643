/- names: the reference's Split. -/
import Derived.Test.YtncmgiddcefpcaaGreatDoorConE
namespace Go.Proofs.YtncmgiddcefpcaaGreatDoor
open Go Go.Ev Go.Con
set_option linter.unusedSimpArgs false
set_option linter.unusedVariables false
set_option maxRecDepth 100000

theorem cut_snoc_stroke : ∀ q : List UInt8, cut (q ++ [62]) = cut q ++ [[]]
  | [] => rfl
  | d :: q => by
    have ih := cut_snoc_stroke q
    rw [List.cons_append, cut_cons, cut_cons, ih]
    have hne := cut_ne q
    cases h : cut q with
    | nil => exact absurd h hne
    | cons a b => by_cases hd : d = 62 <;> simp [hd]
theorem cut_snoc : ∀ (q : List UInt8) (c : UInt8), c ≠ 62 → ∀ x, (cut q)[(cut q).length - 1]? = some x → cut (q ++ [c]) = (cut q).set ((cut q).length - 1) (x ++ [c])
  | [], c, hc, x, hx => by
    have : x = [] := by simp [cut] at hx; exact hx
    subst this
    simp [cut, hc]
  | d :: q, c, hc, x, hx => by
    have ih := cut_snoc q c hc
    rw [List.cons_append, cut_cons]
    rw [cut_cons] at hx ⊢
    have hne := cut_ne q
    cases h : cut q with
    | nil => exact absurd h hne
    | cons a b =>
      rw [h] at ih hx
      by_cases hd : d = 62
      · simp only [hd, if_true] at hx ⊢
        simp only [List.length_cons, Nat.add_sub_cancel] at ih hx ⊢
        rw [List.getElem?_cons_succ] at hx
        rw [ih x hx]; rfl
      · simp only [if_neg hd, List.headD_cons, List.tail_cons] at hx ⊢
        cases b with
        | nil =>
          have : x = d :: a := by simp at hx; exact hx.symm
          subst this
          rw [ih a rfl]; rfl
        | cons b1 b2 =>
          simp only [List.length_cons, Nat.add_sub_cancel] at ih hx ⊢
          rw [List.getElem?_cons_succ] at hx
          rw [ih x (by rw [List.getElem?_cons_succ]; exact hx)]; rfl

theorem cut_len : ∀ q : List UInt8, (cut q).length ≤ q.length + 1
  | [] => by simp [cut]
  | d :: q => by
    have ih := cut_len q
    have hne := cut_ne q
    rw [cut_cons]
    cases h : cut q with
    | nil => exact absurd h hne
    | cons a b => rw [h] at ih; by_cases hd : d = 62 <;> simp [hd] at ih ⊢ <;> omega

theorem rsplit_spec (s : ByteArray) (h : Hp) : Meets kon 77 [.string s] h (SplitP s h) := by
  refine Meets.mk rfl (by kernel_rfl) Tryz.func77 rfl (congrArg Array.toList Tryz.results77) ?_
  rcases Bool.eq_false_or_eq_true (decide (s = (ByteArray.mk #[62]))) with e1 | e1
  · simp only [evr, nextP_norm, evd, evq, beq_self_eq_true, cond_true, cond_false, reduceIte, Nat.reduceEqDiff, Nat.reduceAdd, Int.reduceBNe, Int.reduceBEq, Int.reduceLT, Int.reduceLE, Int.reduceEq, typs, e1]
    obtain rfl := of_decide_eq_true e1
    exact .yes (Keep.refl _) split_root (.inl ⟨rfl, rfl⟩)
  rcases Bool.eq_false_or_eq_true ((s.size : Int) == 0) with e2 | e2
  · simp only [evr, nextP_norm, evd, evq, beq_self_eq_true, cond_true, cond_false, reduceIte, Nat.reduceEqDiff, Nat.reduceAdd, Int.reduceBNe, Int.reduceBEq, Int.reduceLT, Int.reduceLE, Int.reduceEq, typs, e1, e2]
    have : s.data.toList = [] := List.length_eq_zero_iff.1 (by rw [← size_eq]; have := beq_iff_eq.1 e2; omega)
    exact .no (Keep.refl _) (by unfold split; rw [this])
  rcases Bool.eq_false_or_eq_true (decide ((168 : Int) < s.size)) with e3 | e3
  · simp only [evr, nextP_norm, evd, evq, beq_self_eq_true, cond_true, cond_false, reduceIte, Nat.reduceEqDiff, Nat.reduceAdd, Int.reduceBNe, Int.reduceBEq, Int.reduceLT, Int.reduceLE, Int.reduceEq, typs, e1, e2, e3]
    exact .no (Keep.refl _) (split_long (by simp at e3; omega))
  have hz : s.size ≤ 168 := by simp at e3; omega
  have hs1 : 1 ≤ s.size := by have := beq_eq_false_iff_ne.1 e2; omega
  obtain ⟨c, l, hl, _, _⟩ := head_of hs1
  have hsz : s.size = l.length + 1 := by rw [size_eq, hl]; rfl
  have hx0 := ixAt (s := s) (i := 0) (by omega)
  have hb0 : byteAt s 0 = c := by unfold byteAt; rw [hl]; rfl
  rw [hb0, Int.natCast_zero] at hx0
  rcases Bool.eq_false_or_eq_true ((c.toNat : Int) != 62) with e4 | e4
  · simp only [evr, nextP_norm, evd, evq, beq_self_eq_true, cond_true, cond_false, reduceIte, Nat.reduceEqDiff, Nat.reduceAdd, Int.reduceBNe, Int.reduceBEq, Int.reduceLT, Int.reduceLE, Int.reduceEq, typs, e1, e2, e3, hx0, e4]
    refine .no (Keep.refl _) (split_head ?_)
    rw [hl]
    simp at e4 ⊢
    rintro rfl; exact e4 rfl
  have hc : c = 62 := by
    have : c.toNat = 62 := by simp at e4; omega
    exact UInt8.toNat_inj.1 this
  subst hc
  have hl0 : l ≠ [] := by
    rintro rfl
    exact absurd (ba_ext (a := s) (b := ByteArray.mk #[62]) hl) (of_decide_eq_false e1)
  simp only [evr, nextP_norm, evd, evq, beq_self_eq_true, cond_true, cond_false, reduceIte, Nat.reduceEqDiff, Nat.reduceAdd, Int.reduceBNe, Int.reduceBEq, Int.reduceLT, Int.reduceLE, Int.reduceEq, typs, e1, e2, e3, hx0, e4]
  let psAt : Nat → List ByteArray := fun i => if i = 0 then [] else (cut (l.take (i - 1))).map ofL
  have hplen : ∀ i, (psAt i).length ≤ i := fun i => by
    show (if i = 0 then [] else (cut (l.take (i - 1))).map ofL).length ≤ i
    split
    · simp
    · rw [List.length_map]; have := cut_len (l.take (i - 1)); have := List.length_take_le (i - 1) l; omega
  refine Wp_loop (fun k fr h' => ∃ (i : Nat) (v : Value), k = s.size - i ∧ i ≤ s.size ∧ fr.get 0 = some (.string s) ∧ fr.get 5 = some (.int .i64 i) ∧ fr.get 4 = some v ∧ StrGr h.next h' v (psAt i) ∧ Kept h.next h h')
    s.size ⟨0, .slice none 0 0, rfl, Nat.zero_le _, ?_, ?_, ?_, .inl ⟨rfl, rfl⟩, Kept.refl _ _⟩ ?_
  · simp only [evr, nextP_norm, evd, evq, beq_self_eq_true, cond_true, cond_false, reduceIte, Nat.reduceEqDiff, Nat.reduceAdd, Int.reduceBNe, Int.reduceBEq, Int.reduceLT, Int.reduceLE, Int.reduceEq, typs]
  · simp only [evr, nextP_norm, evd, evq, beq_self_eq_true, cond_true, cond_false, reduceIte, Nat.reduceEqDiff, Nat.reduceAdd, Int.reduceBNe, Int.reduceBEq, Int.reduceLT, Int.reduceLE, Int.reduceEq, typs]
    rfl
  · simp only [evr, nextP_norm, evd, evq, beq_self_eq_true, cond_true, cond_false, reduceIte, Nat.reduceEqDiff, Nat.reduceAdd, Int.reduceBNe, Int.reduceBEq, Int.reduceLT, Int.reduceLE, Int.reduceEq, typs]
  rintro k fr h' ⟨i, v, rfl, hi, g0, g5, g4, gr, kp⟩
  by_cases h3 : i < s.size
  · have e5 : decide ((i : Int) < s.size) = true := by simp; omega
    have hx := ixAt h3
    have hw := wrap64 (x := (i : Int) + 1) (by omega) (by omega)
    have hby := byteAt_get h3
    rw [hl] at hby
    rcases Bool.eq_false_or_eq_true (((byteAt s i).toNat : Int) == 62) with e6 | e6
    · have hb : byteAt s i = 62 := by
        have : (byteAt s i).toNat = 62 := by simp at e6; omega
        exact UInt8.toNat_inj.1 this
      have hnext : h'.next < (h'.push (.row [.string ByteArray.empty] 9 (.rw 0 []))).next := Nat.lt_succ_self _
      have hone : StrSl (h'.push (.row [.string ByteArray.empty] 9 (.rw 0 []))) (.slice (some ⟨h'.next, 0, none⟩) 1 2) [ByteArray.empty] :=
        .inr ⟨h'.next, 0, 1, 2, _, rfl, by omega, hnext, rowOf_rw (Hp.get_push_self _ _), rfl, rfl⟩
      obtain ⟨v2, h2, a1, a2, a3⟩ := app_str (gr.keep (Keep.push _ _)) (by have := kp.1; omega) hone (by simp) (by have := hplen i; simp; omega)
      simp only [evr, nextP_norm, evd, evq, beq_self_eq_true, cond_true, cond_false, reduceIte, Nat.reduceEqDiff, Nat.reduceAdd, Int.reduceBNe, Int.reduceBEq, Int.reduceLT, Int.reduceLE, Int.reduceEq, typs, g0, g5, g4, e5, hx, e6, a1, hw]
      refine ⟨s.size - (i + 1), by omega, i + 1, v2, rfl, by omega, rfl, rfl, ?_, ⟨Nat.le_trans (Nat.le_trans kp.1 (Nat.le_succ _)) a3.1, fun c hc => ?_⟩⟩
      · have : psAt (i + 1) = psAt i ++ [ByteArray.empty] := by
          show (if i + 1 = 0 then [] else (cut (l.take (i + 1 - 1))).map ofL) = (if i = 0 then [] else (cut (l.take (i - 1))).map ofL) ++ [ByteArray.empty]
          rw [if_neg (Nat.succ_ne_zero i), Nat.add_sub_cancel]
          by_cases hi0 : i = 0
          · subst hi0; rfl
          · obtain ⟨j, rfl⟩ : ∃ j, i = j + 1 := ⟨i - 1, by omega⟩
            rw [if_neg hi0, Nat.add_sub_cancel, List.take_add_one]
            rw [List.getElem?_cons_succ, hb] at hby
            rw [hby]
            simp only [Option.toList_some]
            rw [cut_snoc_stroke, List.map_append]; rfl
        rw [this]; exact a2
      · rw [a3.2 c hc, Hp.get_push_lt (by have := kp.1; omega), kp.2 c hc]
    · have hi0 : i ≠ 0 := by
        rintro rfl
        have : byteAt s 0 = 62 := hb0
        rw [this] at e6; exact absurd e6 (by decide)
      obtain ⟨j, rfl⟩ : ∃ j, i = j + 1 := ⟨i - 1, by omega⟩
      have hbc : byteAt s (j + 1) ≠ 62 := fun e => by rw [e] at e6; exact absurd e6 (by decide)
      have hps : psAt (j + 1) = (cut (l.take j)).map ofL := rfl
      have hne := cut_ne (l.take j)
      have hpos : 1 ≤ (psAt (j + 1)).length := by rw [hps, List.length_map]; cases h : cut (l.take j) <;> simp_all
      have hst : StrSl h' v (psAt (j + 1)) := gr.slAt
      have hlen := hst.len
      have hpl := hplen (j + 1)
      have hw2 : IntKind.i64.wrap (((psAt (j + 1)).length : Int) - 1) = (((psAt (j + 1)).length - 1 : Nat) : Int) := by rw [wrap64 (by omega) (by omega)]; omega
      obtain ⟨p, b1, b2, b3⟩ := gr.put (i := (psAt (j + 1)).length - 1) (by omega)
      have hsl := (L_sliceStr (C := kon) (t := 9) (by kernel_rfl)).2.1 s .i64 ((j + 1 : Nat) : Int) .i64 (((j + 1 : Nat) : Int) + 1) (by omega) (by omega) (by omega)
      rw [Int.toNat_natCast, show (((j + 1 : Nat) : Int) + 1).toNat = j + 2 by omega] at hsl
      generalize hx1 : (psAt (j + 1))[(psAt (j + 1)).length - 1] = x1 at b2
      obtain ⟨h2, c1, c2, c3⟩ := b3 (x1 ++ s.extract (j + 1) (j + 2))
      have hxc : (cut (l.take j))[(cut (l.take j)).length - 1]? = some x1.data.toList := by
        have e : (psAt (j + 1))[(psAt (j + 1)).length - 1]? = some x1 := by rw [← hx1]; exact List.getElem?_eq_getElem _
        rw [hps, List.length_map, List.getElem?_map] at e
        obtain ⟨y, y1, y2⟩ := Option.map_eq_some_iff.1 e
        rw [y1, ← y2]; rfl
      have hbj : l[j]? = some (byteAt s (j + 1)) := by rw [List.getElem?_cons_succ] at hby; exact hby
      have hex : (s.extract (j + 1) (j + 2)).data.toList = [byteAt s (j + 1)] := by
        rw [ByteArray.data_extract, Array.toList_extract, List.extract_eq_take_drop, hl, show j + 2 - (j + 1) = 1 by omega, List.drop_succ_cons]
        have : l.drop j = byteAt s (j + 1) :: l.drop (j + 1) := by
          have hj : j < l.length := (List.getElem?_eq_some_iff.1 hbj).1
          rw [List.drop_eq_getElem_cons hj]
          congr 1
          exact (List.getElem?_eq_some_iff.1 hbj).2
        rw [this]; rfl
      have hx1l : x1.size ≤ 168 := by
        have : ∀ (q : List UInt8) y, y ∈ cut q → y.length ≤ q.length := by
          intro q
          induction q with
          | nil => intro y hy; simp [cut] at hy; simp [hy]
          | cons d q ih =>
            intro y hy
            rw [cut_cons] at hy
            have hq := cut_ne q
            cases hcq : cut q with
            | nil => exact absurd hcq hq
            | cons a b =>
              rw [hcq] at hy ih
              by_cases hd : d = 62
              · simp only [hd, if_true, List.mem_cons] at hy
                rcases hy with rfl | hy
                · simp
                · have := ih y (by simpa using hy); simp; omega
              · simp only [if_neg hd, List.headD_cons, List.tail_cons, List.mem_cons] at hy
                rcases hy with rfl | hy
                · have := ih a (by simp); simp; omega
                · have := ih y (by simp [hy]); simp; omega
        have h4 := this _ _ (List.mem_of_getElem? hxc)
        rw [size_eq]; have := List.length_take_le j l; omega
      have hadd : (x1.size : Int) + (s.extract (j + 1) (j + 2)).size ≤ 9223372036854775807 := by rw [size_eq (s.extract _ _), hex]; simp; omega
      simp only [evr, nextP_norm, evd, evq, beq_self_eq_true, cond_true, cond_false, reduceIte, Nat.reduceEqDiff, Nat.reduceAdd, Int.reduceBNe, Int.reduceBEq, Int.reduceLT, Int.reduceLE, Int.reduceEq, typs, g0, g5, g4, e5, hx, e6]
      refine Eq.mpr (Wp_drawOrd (KR.mk (by kernel_rfl))) ?_
      simp only [evr, nextP_norm, evd, evq, beq_self_eq_true, cond_true, cond_false, reduceIte, Nat.reduceEqDiff, Nat.reduceAdd, Int.reduceBNe, Int.reduceBEq, Int.reduceLT, Int.reduceLE, Int.reduceEq, typs, g0, g5, g4, e5, hx, e6, hlen, hw2, hw, b1, b2, hsl, evBin_addS hadd, c1]
      refine ⟨s.size - (j + 1 + 1), by omega, j + 1 + 1, v, rfl, by omega, rfl, rfl, ?_, kp.trans c3⟩
      have : psAt (j + 1 + 1) = (psAt (j + 1)).set ((psAt (j + 1)).length - 1) (x1 ++ s.extract (j + 1) (j + 2)) := by
        rw [hps]
        show (cut (l.take (j + 1))).map ofL = _
        rw [List.take_add_one, hbj]
        simp only [Option.toList_some]
        rw [cut_snoc _ _ hbc _ hxc, List.map_set, List.length_map]
        congr 1
        apply ba_ext
        rw [ofL_data, ByteArray.data_append, Array.toList_append, hex]
      rw [this]; exact c2
  · have e5 : decide ((i : Int) < s.size) = false := by simp; omega
    have hie : i = s.size := by omega
    subst hie
    have hps : psAt s.size = (cut l).map ofL := by
      show (if s.size = 0 then [] else (cut (l.take (s.size - 1))).map ofL) = _
      rw [if_neg (by omega), List.take_of_length_le (by omega)]
    rw [hps] at gr
    have hst : StrSl h' v ((cut l).map ofL) := gr.slAt
    have hlen := hst.len
    have hsp := split_at hl hl0 hz
    have hk : Keep h h' := kp.keep
    rcases Bool.eq_false_or_eq_true (decide ((16 : Int) < (((cut l).map ofL).length : Int))) with e6 | e6
    · simp only [evr, nextP_norm, evd, evq, beq_self_eq_true, cond_true, cond_false, reduceIte, Nat.reduceEqDiff, Nat.reduceAdd, Int.reduceBNe, Int.reduceBEq, Int.reduceLT, Int.reduceLE, Int.reduceEq, typs, g0, g5, g4, e5, hlen, e6]
      exact .no hk (by rw [hsp, if_pos (by simp at e6; omega)])
    have h16 : ((cut l).map ofL).length ≤ 16 := by simp at e6 ⊢; omega
    rw [if_neg (by simp at h16; omega)] at hsp
    simp only [evr, nextP_norm, evd, evq, beq_self_eq_true, cond_true, cond_false, reduceIte, Nat.reduceEqDiff, Nat.reduceAdd, Int.reduceBNe, Int.reduceBEq, Int.reduceLT, Int.reduceLE, Int.reduceEq, typs, g0, g5, g4, e5, hlen, e6]
    generalize hqs : (cut l).map ofL = qs at *
    refine Wp_loop (fun k fr h2 => h2 = h' ∧ ∃ i : Nat, k = qs.length - i ∧ i ≤ qs.length ∧ fr.get 4 = some v ∧ fr.get 6 = some (.int .i64 i) ∧ (qs.take i).all mayN = true) qs.length ⟨rfl, 0, rfl, Nat.zero_le _, ?_, ?_, rfl⟩ ?_
    · simp only [evr, nextP_norm, evd, evq, beq_self_eq_true, cond_true, cond_false, reduceIte, Nat.reduceEqDiff, Nat.reduceAdd, Int.reduceBNe, Int.reduceBEq, Int.reduceLT, Int.reduceLE, Int.reduceEq, typs, g4]
    · simp only [evr, nextP_norm, evd, evq, beq_self_eq_true, cond_true, cond_false, reduceIte, Nat.reduceEqDiff, Nat.reduceAdd, Int.reduceBNe, Int.reduceBEq, Int.reduceLT, Int.reduceLE, Int.reduceEq, typs]
      rfl
    rintro k fr2 h2 ⟨rfl, i, rfl, hi2, g4, g6, hp⟩
    by_cases h5 : i < qs.length
    · have e7 : decide ((i : Int) < qs.length) = true := by simp; omega
      obtain ⟨x, hx⟩ : ∃ x, qs[i]? = some x := ⟨_, List.getElem?_eq_getElem h5⟩
      obtain ⟨p, ha, hld⟩ := hst.at hx
      cases hm : mayN x with
      | false =>
        simp only [evr, nextP_norm, evd, evq, beq_self_eq_true, cond_true, cond_false, reduceIte, Nat.reduceEqDiff, Nat.reduceAdd, Int.reduceBNe, Int.reduceBEq, Int.reduceLT, Int.reduceLE, Int.reduceEq, typs, g4, g6, e7, hlen, ha, hld, (nameMay_spec x h2).call, hm]
        refine .no hk ?_
        rw [hsp, if_neg]
        intro hall
        rw [List.all_eq_true] at hall
        have := hall x (List.mem_of_getElem? hx)
        rw [hm] at this; cases this
      | true =>
        simp only [evr, nextP_norm, evd, evq, beq_self_eq_true, cond_true, cond_false, reduceIte, Nat.reduceEqDiff, Nat.reduceAdd, Int.reduceBNe, Int.reduceBEq, Int.reduceLT, Int.reduceLE, Int.reduceEq, typs, g4, g6, e7, hlen, ha, hld, (nameMay_spec x h2).call, hm, wrap64 (x := (i : Int) + 1) (by omega) (by omega)]
        refine ⟨qs.length - (i + 1), by omega, i + 1, rfl, by omega, rfl, ?_⟩
        rw [List.take_add_one, hx, List.all_append, hp]
        simp [hm]
    · have e7 : decide ((i : Int) < qs.length) = false := by simp; omega
      simp only [evr, nextP_norm, evd, evq, beq_self_eq_true, cond_true, cond_false, reduceIte, Nat.reduceEqDiff, Nat.reduceAdd, Int.reduceBNe, Int.reduceBEq, Int.reduceLT, Int.reduceLE, Int.reduceEq, typs, g4, g6, e7, hlen]
      rw [List.take_of_length_le (by omega)] at hp
      exact .yes hk (by rw [hsp, if_pos hp]) gr
end Go.Proofs.YtncmgiddcefpcaaGreatDoor
