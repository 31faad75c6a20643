/- TreeAccess: the law's own code. -/
import Derived.Test.YtncmgiddcefpcaaDoorConTk2
import Derived.Test.YtncmgiddcefpcaaDoorConTa
import Derived.Test.YtncmgiddcefpcaaDoorConEq
import Derived.Test.YtncmgiddcefpcaaDoorConR
import Derived.Test.YtncmgiddcefpcaaDoorConZs
namespace Go.Proofs.YtncmgiddcefpcaaDoor
open Go Go.Ev Go.RowKit Go.Con
set_option linter.unusedSimpArgs false
set_option linter.unusedVariables false
set_option maxRecDepth 1000000
set_option maxHeartbeats 8000000 in
theorem treeAccess_true {h : Hp} {v : Value} {l : List Tm} (s : TmSl h v l) (b : Bk) (more : ByteArray) : Meets kon 8 [v, .agg #[.int .i64 b.r1, .int .i64 b.r2, .int .i64 b.r3, .int .i64 b.g], .string more] h fun v _ => v = .bool true := by
  refine Meets.mk rfl (by kernel_rfl) Tryd.func8 rfl (congrArg Array.toList Tryd.results8) ?_
  have aw := fun h => awake_call (f := 33) (by kernel_rfl) h
  repeat' (first | simp only [evr, nextP_norm, evd, evq, beq_self_eq_true, cond_true, cond_false, reduceIte, Nat.reduceEqDiff, Nat.reduceAdd, Int.reduceBNe, Int.reduceBEq, Int.reduceLT, Int.reduceLE, Int.reduceEq, evh, evp, Nat.reduceLeDiff, Nat.reduceSub, Nat.reduceBEq, typs, aw] | refine kCond2_by (fun hc => ?_) (fun hc => ?_) <;> try simp only [hc] | refine kPick_by (fun hc => ?_) (fun hc => ?_) <;> try simp only [hc] | refine kWant_by (fun hc => ?_) (fun hc => ?_) <;> try simp only [hc])
  generalize hh : Hp.push _ _ = h1
  have b1 : h1.get h.next = some (obB b) := by rw [← hh]; exact Hp.get_push_self _ _
  have k1 : Keep h h1 := by rw [← hh]; exact Keep.push _ _
  have n1 : h1.next = h.next + 1 := by rw [← hh]; rfl
  clear hh
  have s1 : TmSl h1 v l := SlAt.keep s k1
  have la := s1.len
  refine callP_meets (tNew_spec h1) ?_
  rintro _ h2 ⟨F, bt, rfl, k2, t2, fF⟩
  have x2 : TK h1 h2 F newHi bt := ⟨t2, k2, fF⟩
  have ep : ∀ b, ptrV b = .pointer (some ⟨b, 0, none⟩) := fun _ => rfl
  rcases Bool.eq_false_or_eq_true (decide ((40 : Int) < l.length)) with e1 | e1
  · repeat' (first | simp only [evr, nextP_norm, evd, evq, beq_self_eq_true, cond_true, cond_false, reduceIte, Nat.reduceEqDiff, Nat.reduceAdd, Int.reduceBNe, Int.reduceBEq, Int.reduceLT, Int.reduceLE, Int.reduceEq, evh, evp, Nat.reduceLeDiff, Nat.reduceSub, Nat.reduceBEq, typs, ep bt, la, e1] | refine kCond2_by (fun hc => ?_) (fun hc => ?_) <;> try simp only [hc] | refine kPick_by (fun hc => ?_) (fun hc => ?_) <;> try simp only [hc] | refine kWant_by (fun hc => ?_) (fun hc => ?_) <;> try simp only [hc])
  rcases Bool.eq_false_or_eq_true (decide ((100 : Int) < more.size)) with e2 | e2
  · repeat' (first | simp only [evr, nextP_norm, evd, evq, beq_self_eq_true, cond_true, cond_false, reduceIte, Nat.reduceEqDiff, Nat.reduceAdd, Int.reduceBNe, Int.reduceBEq, Int.reduceLT, Int.reduceLE, Int.reduceEq, evh, evp, Nat.reduceLeDiff, Nat.reduceSub, Nat.reduceBEq, typs, ep bt, la, e1, e2] | refine kCond2_by (fun hc => ?_) (fun hc => ?_) <;> try simp only [hc] | refine kPick_by (fun hc => ?_) (fun hc => ?_) <;> try simp only [hc] | refine kWant_by (fun hc => ?_) (fun hc => ?_) <;> try simp only [hc])
  have hl : l.length ≤ 40 := by have := of_decide_eq_false e1; omega
  repeat' (first | simp only [evr, nextP_norm, evd, evq, beq_self_eq_true, cond_true, cond_false, reduceIte, Nat.reduceEqDiff, Nat.reduceAdd, Int.reduceBNe, Int.reduceBEq, Int.reduceLT, Int.reduceLE, Int.reduceEq, evh, evp, Nat.reduceLeDiff, Nat.reduceSub, Nat.reduceBEq, typs, ep bt, la, e1, e2] | refine kCond2_by (fun hc => ?_) (fun hc => ?_) <;> try simp only [hc] | refine kPick_by (fun hc => ?_) (fun hc => ?_) <;> try simp only [hc] | refine kWant_by (fun hc => ?_) (fun hc => ?_) <;> try simp only [hc])
  refine Wp_loop (fun k fr h' => ∃ (i : Nat) (F : Nat → Prop), k = 3 - i ∧ 1 ≤ i ∧ i ≤ 3 ∧ TK h1 h' F (if i = 1 then newHi else if i = 2 then ⟨[segU 1 [] noBk], [⟨0, 0, nmB⟩], [true]⟩ else taT [] noBk []) bt ∧
    fr.get 0 = some v ∧ fr.get 2 = some (.string more) ∧ fr.get 4 = some (.pointer (some ⟨h.next, 0, none⟩)) ∧ fr.get 7 = some (.pointer (some ⟨bt, 0, none⟩)) ∧ fr.get 8 = some (.int .i64 i)) 2 ⟨1, F, rfl, Nat.le_refl _, by omega, x2, ?_, ?_, ?_, ?_, ?_⟩ ?_
  · repeat' (first | simp only [evr, nextP_norm, evd, evq, beq_self_eq_true, cond_true, cond_false, reduceIte, Nat.reduceEqDiff, Nat.reduceAdd, Int.reduceBNe, Int.reduceBEq, Int.reduceLT, Int.reduceLE, Int.reduceEq, evh, evp, Nat.reduceLeDiff, Nat.reduceSub, Nat.reduceBEq, typs] | refine kCond2_by (fun hc => ?_) (fun hc => ?_) <;> try simp only [hc] | refine kPick_by (fun hc => ?_) (fun hc => ?_) <;> try simp only [hc] | refine kWant_by (fun hc => ?_) (fun hc => ?_) <;> try simp only [hc])
  · repeat' (first | simp only [evr, nextP_norm, evd, evq, beq_self_eq_true, cond_true, cond_false, reduceIte, Nat.reduceEqDiff, Nat.reduceAdd, Int.reduceBNe, Int.reduceBEq, Int.reduceLT, Int.reduceLE, Int.reduceEq, evh, evp, Nat.reduceLeDiff, Nat.reduceSub, Nat.reduceBEq, typs] | refine kCond2_by (fun hc => ?_) (fun hc => ?_) <;> try simp only [hc] | refine kPick_by (fun hc => ?_) (fun hc => ?_) <;> try simp only [hc] | refine kWant_by (fun hc => ?_) (fun hc => ?_) <;> try simp only [hc])
  · repeat' (first | simp only [evr, nextP_norm, evd, evq, beq_self_eq_true, cond_true, cond_false, reduceIte, Nat.reduceEqDiff, Nat.reduceAdd, Int.reduceBNe, Int.reduceBEq, Int.reduceLT, Int.reduceLE, Int.reduceEq, evh, evp, Nat.reduceLeDiff, Nat.reduceSub, Nat.reduceBEq, typs] | refine kCond2_by (fun hc => ?_) (fun hc => ?_) <;> try simp only [hc] | refine kPick_by (fun hc => ?_) (fun hc => ?_) <;> try simp only [hc] | refine kWant_by (fun hc => ?_) (fun hc => ?_) <;> try simp only [hc])
  · repeat' (first | simp only [evr, nextP_norm, evd, evq, beq_self_eq_true, cond_true, cond_false, reduceIte, Nat.reduceEqDiff, Nat.reduceAdd, Int.reduceBNe, Int.reduceBEq, Int.reduceLT, Int.reduceLE, Int.reduceEq, evh, evp, Nat.reduceLeDiff, Nat.reduceSub, Nat.reduceBEq, typs] | refine kCond2_by (fun hc => ?_) (fun hc => ?_) <;> try simp only [hc] | refine kPick_by (fun hc => ?_) (fun hc => ?_) <;> try simp only [hc] | refine kWant_by (fun hc => ?_) (fun hc => ?_) <;> try simp only [hc])
  · repeat' (first | simp only [evr, nextP_norm, evd, evq, beq_self_eq_true, cond_true, cond_false, reduceIte, Nat.reduceEqDiff, Nat.reduceAdd, Int.reduceBNe, Int.reduceBEq, Int.reduceLT, Int.reduceLE, Int.reduceEq, evh, evp, Nat.reduceLeDiff, Nat.reduceSub, Nat.reduceBEq, typs] | refine kCond2_by (fun hc => ?_) (fun hc => ?_) <;> try simp only [hc] | refine kPick_by (fun hc => ?_) (fun hc => ?_) <;> try simp only [hc] | refine kWant_by (fun hc => ?_) (fun hc => ?_) <;> try simp only [hc])
    rfl
  rintro k fr h' ⟨i, F', rfl, hi1, hi3, x, g0, g2, g4, g7, g8⟩
  have c1 : ∀ n, prunS kon.P (convert 3 5 (.int .i64 n)) = some (.int .u8 (IntKind.u8.wrap n)) := by intro n; kernel_rfl
  rcases (show i = 1 ∨ i = 2 ∨ i = 3 by omega) with rfl | rfl | rfl
  · have e3 : decide (((1 : Nat) : Int) ≤ 2) = true := rfl
    have w1 : IntKind.u8.wrap ((1 : Nat) : Int) = 1 := rfl
    have w2 : IntKind.u8.wrap (97 + 1) = 98 := rfl
    have w3 : IntKind.i64.wrap (((1 : Nat) : Int) + 1) = 2 := rfl
    have st := str_one 98 h'
    repeat' (first | simp only [evr, nextP_norm, evd, evq, beq_self_eq_true, cond_true, cond_false, reduceIte, Nat.reduceEqDiff, Nat.reduceAdd, Int.reduceBNe, Int.reduceBEq, Int.reduceLT, Int.reduceLE, Int.reduceEq, evh, evp, Nat.reduceLeDiff, Nat.reduceSub, Nat.reduceBEq, typs, g0, g2, g4, g7, g8, e3, w1, w2, st] | refine kCond2_by (fun hc => ?_) (fun hc => ?_) <;> try simp only [hc] | refine kPick_by (fun hc => ?_) (fun hc => ?_) <;> try simp only [hc] | refine kWant_by (fun hc => ?_) (fun hc => ?_) <;> try simp only [hc])
    have x : TK h1 h' F' newHi bt := x
    have y := x.keeps (Keep.push h' (.row [.int .u8 98] 5 (.rw 0 [])))
    refine callP_meets (tAdd_spec y.t (by decide) (by decide) (b := segU 1 [] noBk) (.inl ⟨rfl, rfl⟩) (by decide) 0 nmB) ?_
    rw [ta_one]
    rintro _ h'' ⟨rfl, F2, t', u'⟩
    have z := y.upd u' t'
    repeat' (first | simp only [evr, nextP_norm, evd, evq, beq_self_eq_true, cond_true, cond_false, reduceIte, Nat.reduceEqDiff, Nat.reduceAdd, Int.reduceBNe, Int.reduceBEq, Int.reduceLT, Int.reduceLE, Int.reduceEq, evh, evp, Nat.reduceLeDiff, Nat.reduceSub, Nat.reduceBEq, typs, g0, g2, g4, g7, g8, w3] | refine kCond2_by (fun hc => ?_) (fun hc => ?_) <;> try simp only [hc] | refine kPick_by (fun hc => ?_) (fun hc => ?_) <;> try simp only [hc] | refine kWant_by (fun hc => ?_) (fun hc => ?_) <;> try simp only [hc])
    exact ⟨3 - 2, by omega, 2, F2, rfl, by omega, by omega, z, rfl⟩
  · have e3 : decide (((2 : Nat) : Int) ≤ 2) = true := rfl
    have w1 : IntKind.u8.wrap ((2 : Nat) : Int) = 2 := rfl
    have w2 : IntKind.u8.wrap (97 + 2) = 99 := rfl
    have w3 : IntKind.i64.wrap (((2 : Nat) : Int) + 1) = 3 := rfl
    have st := str_one 99 h'
    repeat' (first | simp only [evr, nextP_norm, evd, evq, beq_self_eq_true, cond_true, cond_false, reduceIte, Nat.reduceEqDiff, Nat.reduceAdd, Int.reduceBNe, Int.reduceBEq, Int.reduceLT, Int.reduceLE, Int.reduceEq, evh, evp, Nat.reduceLeDiff, Nat.reduceSub, Nat.reduceBEq, typs, g0, g2, g4, g7, g8, e3, w1, w2, st] | refine kCond2_by (fun hc => ?_) (fun hc => ?_) <;> try simp only [hc] | refine kPick_by (fun hc => ?_) (fun hc => ?_) <;> try simp only [hc] | refine kWant_by (fun hc => ?_) (fun hc => ?_) <;> try simp only [hc])
    have x : TK h1 h' F' ⟨[segU 1 [] noBk], [⟨0, 0, nmB⟩], [true]⟩ bt := x
    have y := x.keeps (Keep.push h' (.row [.int .u8 99] 5 (.rw 0 [])))
    refine callP_meets (tAdd_spec y.t (by decide) (by decide) (b := segU 2 [] noBk) (.inl ⟨rfl, rfl⟩) (by decide) 0 nmC) ?_
    rw [ta_two]
    rintro _ h'' ⟨rfl, F2, t', u'⟩
    have z := y.upd u' t'
    repeat' (first | simp only [evr, nextP_norm, evd, evq, beq_self_eq_true, cond_true, cond_false, reduceIte, Nat.reduceEqDiff, Nat.reduceAdd, Int.reduceBNe, Int.reduceBEq, Int.reduceLT, Int.reduceLE, Int.reduceEq, evh, evp, Nat.reduceLeDiff, Nat.reduceSub, Nat.reduceBEq, typs, g0, g2, g4, g7, g8, w3] | refine kCond2_by (fun hc => ?_) (fun hc => ?_) <;> try simp only [hc] | refine kPick_by (fun hc => ?_) (fun hc => ?_) <;> try simp only [hc] | refine kWant_by (fun hc => ?_) (fun hc => ?_) <;> try simp only [hc])
    exact ⟨3 - 3, by omega, 3, F2, rfl, by omega, by omega, z, rfl⟩
  · have e3 : decide (((3 : Nat) : Int) ≤ 2) = false := rfl
    have x : TK h1 h' F' (taT [] noBk []) bt := x
    repeat' (first | simp only [evr, nextP_norm, evd, evq, beq_self_eq_true, cond_true, cond_false, reduceIte, Nat.reduceEqDiff, Nat.reduceAdd, Int.reduceBNe, Int.reduceBEq, Int.reduceLT, Int.reduceLE, Int.reduceEq, evh, evp, Nat.reduceLeDiff, Nat.reduceSub, Nat.reduceBEq, typs, g0, g2, g4, g7, g8, e3] | refine kCond2_by (fun hc => ?_) (fun hc => ?_) <;> try simp only [hc] | refine kPick_by (fun hc => ?_) (fun hc => ?_) <;> try simp only [hc] | refine kWant_by (fun hc => ?_) (fun hc => ?_) <;> try simp only [hc])
    refine callP_meets (tName_spec x.t (by decide) 0 nmB more) ?_
    rintro _ hN ⟨rfl, F3, t3, u3⟩
    have x3 := x.upd u3 t3
    obtain ⟨ext, eN, hE, hX⟩ : ∃ ext eN, (taT [] noBk []).name 0 nmB more = (taT [] noBk ext, eN) ∧ ((eN = 0 ∧ ext = [more] ∧ more ≠ nmB ∧ more ≠ nmC) ∨ (eN ≠ 0 ∧ ext = [])) := by
      rw [ta_name]
      cases hm : mayN more with
      | false => exact ⟨[], 3, by simp, .inr ⟨by decide, rfl⟩⟩
      | true =>
        by_cases hn : more = nmB ∨ more = nmC
        · exact ⟨[], 5, by rw [if_neg (by simp), if_pos hn], .inr ⟨by decide, rfl⟩⟩
        · exact ⟨[more], 0, by rw [if_neg (by simp), if_neg hn], .inl ⟨rfl, rfl, fun e => hn (.inl e), fun e => hn (.inr e)⟩⟩
    rw [hE] at x3 ⊢
    repeat' (first | simp only [evr, nextP_norm, evd, evq, beq_self_eq_true, cond_true, cond_false, reduceIte, Nat.reduceEqDiff, Nat.reduceAdd, Int.reduceBNe, Int.reduceBEq, Int.reduceLT, Int.reduceLE, Int.reduceEq, evh, evp, Nat.reduceLeDiff, Nat.reduceSub, Nat.reduceBEq, typs, g0, g2, g4, g7] | refine kCond2_by (fun hc => ?_) (fun hc => ?_) <;> try simp only [hc] | refine kPick_by (fun hc => ?_) (fun hc => ?_) <;> try simp only [hc] | refine kWant_by (fun hc => ?_) (fun hc => ?_) <;> try simp only [hc])
    refine callP_meets (tAccess_spec x3.t 0 nmB (SlAt.keep s1 x3.k) (by omega)) ?_
    rintro _ hA ⟨rfl, F4, t4, u4⟩
    have x4 := x3.upd u4 t4
    obtain ⟨la', eA, hEA, hXA⟩ : ∃ la' eA, (taT [] noBk ext).access 0 nmB l = (taT la' noBk ext, eA) ∧ ((eA = 0 ∧ la' = l ∧ listMay l = true) ∨ (eA ≠ 0 ∧ la' = [] ∧ listMay l = false)) := by
      rw [ta_access]
      cases hm : listMay l with
      | false => exact ⟨[], 1, by simp, .inr ⟨by decide, rfl, rfl⟩⟩
      | true => exact ⟨l, 0, by simp, .inl ⟨rfl, rfl, rfl⟩⟩
    rw [hEA] at x4 ⊢
    have b4 := (x4.k.2 _ (by omega)).trans b1
    have q4 := rowOf_rw b4
    repeat' (first | simp only [evr, nextP_norm, evd, evq, beq_self_eq_true, cond_true, cond_false, reduceIte, Nat.reduceEqDiff, Nat.reduceAdd, Int.reduceBNe, Int.reduceBEq, Int.reduceLT, Int.reduceLE, Int.reduceEq, evh, evp, Nat.reduceLeDiff, Nat.reduceSub, Nat.reduceBEq, typs, g0, g2, g4, g7, q4] | refine kCond2_by (fun hc => ?_) (fun hc => ?_) <;> try simp only [hc] | refine kPick_by (fun hc => ?_) (fun hc => ?_) <;> try simp only [hc] | refine kWant_by (fun hc => ?_) (fun hc => ?_) <;> try simp only [hc])
    refine callP_meets (tRinged_spec x4.t 0 nmB b) ?_
    rintro _ hR ⟨rfl, F5, t5, u5⟩
    have x5 := x4.upd u5 t5
    obtain ⟨b', eR, hER, hXR⟩ : ∃ b' eR, (taT la' noBk ext).ringed 0 nmB b = (taT la' b' ext, eR) ∧ ((eR = 0 ∧ b' = b) ∨ (eR ≠ 0 ∧ b' = noBk)) := by
      rw [ta_ringed]
      cases hm : bkMay b with
      | false => exact ⟨noBk, 1, by simp, .inr ⟨by decide, rfl⟩⟩
      | true => exact ⟨b, 0, by simp, .inl ⟨rfl, rfl⟩⟩
    rw [hER] at x5 ⊢
    repeat' (first | simp only [evr, nextP_norm, evd, evq, beq_self_eq_true, cond_true, cond_false, reduceIte, Nat.reduceEqDiff, Nat.reduceAdd, Int.reduceBNe, Int.reduceBEq, Int.reduceLT, Int.reduceLE, Int.reduceEq, evh, evp, Nat.reduceLeDiff, Nat.reduceSub, Nat.reduceBEq, typs, g0, g2, g4, g7] | refine kCond2_by (fun hc => ?_) (fun hc => ?_) <;> try simp only [hc] | refine kPick_by (fun hc => ?_) (fun hc => ?_) <;> try simp only [hc] | refine kWant_by (fun hc => ?_) (fun hc => ?_) <;> try simp only [hc])
    refine callP_meets (tByUID_spec x5.t 1) ?_
    rw [ta_uid1]
    rintro _ hU ⟨kU, sl1, rfl, hs1⟩
    have x6 := x5.keeps kU
    have sc1 := hs1.isCell
    have sv1 := hs1.cellsV
    unfold outV bnC segU
    repeat' (first | simp only [evr, nextP_norm, evd, evq, beq_self_eq_true, cond_true, cond_false, reduceIte, Nat.reduceEqDiff, Nat.reduceAdd, Int.reduceBNe, Int.reduceBEq, Int.reduceLT, Int.reduceLE, Int.reduceEq, evh, evp, Nat.reduceLeDiff, Nat.reduceSub, Nat.reduceBEq, typs, g0, g2, g4, g7, sc1, sv1] | refine kCond2_by (fun hc => ?_) (fun hc => ?_) <;> try simp only [hc] | refine kPick_by (fun hc => ?_) (fun hc => ?_) <;> try simp only [hc] | refine kWant_by (fun hc => ?_) (fun hc => ?_) <;> try simp only [hc])
    generalize hh : Hp.set _ hU.next _ = hV
    have kV : Keep hU hV := by rw [← hh]; exact (Keep.push _ _).set (Nat.le_refl _)
    have nV : hV.next = hU.next + 1 := by rw [← hh]; rfl
    have gV : hV.get hU.next = some (.row (bnC (segU 1 la' b') sl1) 45 (.rw 0 [])) := by rw [← hh]; exact Hp.get_set_self _ _ _
    clear hh
    have x7 := x6.keeps kV
    refine callP_meets (tByUID_spec x7.t 2) ?_
    rw [ta_uid2]
    rintro _ hW ⟨kW, sl2, rfl, hs2⟩
    have x8 := x7.keeps kW
    have sc2 := hs2.isCell
    have sv2 := hs2.cellsV
    have nW := kW.1
    unfold outV bnC segU noBk
    rcases hX with ⟨rfl, rfl, hm1, hm2⟩ | ⟨hne, rfl⟩
    · repeat' (first | simp only [evr, nextP_norm, evd, evq, beq_self_eq_true, cond_true, cond_false, reduceIte, Nat.reduceEqDiff, Nat.reduceAdd, Int.reduceBNe, Int.reduceBEq, Int.reduceLT, Int.reduceLE, Int.reduceEq, evh, evp, Nat.reduceLeDiff, Nat.reduceSub, Nat.reduceBEq, typs, g0, g2, g4, g7, sc2, sv2] | refine kCond2_by (fun hc => ?_) (fun hc => ?_) <;> try simp only [hc] | refine kPick_by (fun hc => ?_) (fun hc => ?_) <;> try simp only [hc] | refine kWant_by (fun hc => ?_) (fun hc => ?_) <;> try simp only [hc])
      generalize hh : Hp.set _ hW.next _ = hY
      have kY : Keep hW hY := by rw [← hh]; exact (Keep.push _ _).set (Nat.le_refl _)
      have nY : hY.next = hW.next + 1 := by rw [← hh]; rfl
      have gY : hY.get hW.next = some (.row (bnC (segU 2 [] noBk) sl2) 45 (.rw 0 [])) := by rw [← hh]; exact Hp.get_set_self _ _ _
      clear hh
      have x9 := x8.keeps kY
      have len1 : evLen kon.P 37 sl1 = some (.int .i64 la'.length) := TmSl.len (l := la') hs1.slAt
      have len2 : evLen kon.P 37 sl2 = some (.int .i64 ((([] : List Tm).length : Nat) : Int)) := TmSl.len (l := []) hs2.slAt
      have len2 : evLen kon.P 37 sl2 = some (.int .i64 0) := len2
      have gV2 : hY.get hU.next = some (.row (bnC (segU 1 la' b') sl1) 45 (.rw 0 [])) := (kY.2 _ (by omega)).trans ((kW.2 _ (by omega)).trans gV)
      have v3 : ∀ (c : Bk) xo yo, evBin kon.P .eql 39 xo yo (.agg #[.int .i64 c.r1, .int .i64 c.r2, .int .i64 c.r3, .int .i64 c.g]) (.agg #[.int .i64 c.r1, .int .i64 c.r2, .int .i64 c.r3, .int .i64 c.g]) = some (.bool true) := fun c xo yo => by rw [(evBk c c xo yo).1]; simp
      have v4 : ∀ (c : Bk) xo yo, evBin kon.P .neq 39 xo yo (.agg #[.int .i64 c.r1, .int .i64 c.r2, .int .i64 c.r3, .int .i64 c.g]) (.agg #[.int .i64 c.r1, .int .i64 c.r2, .int .i64 c.r3, .int .i64 c.g]) = some (.bool false) := fun c xo yo => by rw [(evBk c c xo yo).2]; simp
      have v5 : ∀ xo yo, evBin kon.P .eql 39 xo yo (.agg #[.int .i64 0, .int .i64 0, .int .i64 0, .int .i64 0]) (.agg #[.int .i64 0, .int .i64 0, .int .i64 0, .int .i64 0]) = some (.bool true) := fun xo yo => v3 noBk xo yo
      have leaf : ∀ {H : Hp} (K : Keep hY H), (rowOf H hU.next = some (bnC (segU 1 la' b') sl1) ∧ rowOf H hW.next = some (bnC (segU 2 [] noBk) sl2) ∧ rowOf H h.next = some [.int .i64 b.r1, .int .i64 b.r2, .int .i64 b.r3, .int .i64 b.g]) ∧
          ∀ Q, callP kon 41 H Q [v] = Q (.bool (listMay l)) H := fun {H} K => by
        have X := x9.k.trans K
        refine ⟨⟨rowOf_rw ((K.2 _ (by omega)).trans gV2), rowOf_rw ((K.2 _ (by omega)).trans gY), rowOf_rw ((X.2 _ (by omega)).trans b1)⟩, ?_⟩
        exact (refListMay_spec (SlAt.keep s1 X) (by omega)).call
      refine callP_meets (tLook_spec x9.t 0 more) ?_
      rw [ta_look la' b' hm1 hm2]
      rintro _ hZ ⟨kZ, sl3, rfl, hs3⟩
      have sc3 := hs3.isCell
      have sv3 := hs3.cellsV
      have nZ := kZ.1
      have len3 : evLen kon.P 37 sl3 = some (.int .i64 la'.length) := TmSl.len (l := la') hs3.slAt
      have e8 : (hU.next = hZ.next) = False := eq_false (by omega)
      have r1 := rowOf_rw ((kZ.2 _ (by omega)).trans gV2)
      unfold bnC segU at r1
      unfold outV bnC segU
      repeat' (first | simp only [evr, nextP_norm, evd, evq, beq_self_eq_true, cond_true, cond_false, reduceIte, Nat.reduceEqDiff, Nat.reduceAdd, Int.reduceBNe, Int.reduceBEq, Int.reduceLT, Int.reduceLE, Int.reduceEq, evh, evp, Nat.reduceLeDiff, Nat.reduceSub, Nat.reduceBEq, typs, g0, g2, g4, g7, sc3, sv3, len3, len1, e8, if_false, r1, v4, bne_self_eq_false] | refine kCond2_by (fun hc => ?_) (fun hc => ?_) <;> try simp only [hc] | refine kPick_by (fun hc => ?_) (fun hc => ?_) <;> try simp only [hc] | refine kWant_by (fun hc => ?_) (fun hc => ?_) <;> try simp only [hc])
      generalize hh : Hp.set _ hZ.next _ = hQ
      have kQ : Keep hZ hQ := by rw [← hh]; exact (Keep.push _ _).set (Nat.le_refl _)
      clear hh
      obtain ⟨⟨q1, q2, q3⟩, lm⟩ := leaf (kZ.trans kQ)
      unfold bnC segU at q1
      unfold bnC segU noBk at q2
      rcases hXA with ⟨rfl, rfl, hlm⟩ | ⟨hA0, rfl, hlm⟩
      · rw [hlm] at lm
        rcases hXR with ⟨rfl, rfl⟩ | ⟨hR0, rfl⟩
        · repeat' (first | simp only [evr, nextP_norm, evd, evq, beq_self_eq_true, cond_true, cond_false, reduceIte, Nat.reduceEqDiff, Nat.reduceAdd, Int.reduceBNe, Int.reduceBEq, Int.reduceLT, Int.reduceLE, Int.reduceEq, evh, evp, Nat.reduceLeDiff, Nat.reduceSub, Nat.reduceBEq, typs, g0, g2, g4, g7, q1, q2, q3, lm, la, len1, len2, v3, v5, bne_self_eq_false] | refine kCond2_by (fun hc => ?_) (fun hc => ?_) <;> try simp only [hc] | refine kPick_by (fun hc => ?_) (fun hc => ?_) <;> try simp only [hc] | refine kWant_by (fun hc => ?_) (fun hc => ?_) <;> try simp only [hc])
        · have f1 : (eR != 0) = true := by simp [hR0]
          repeat' (first | simp only [evr, nextP_norm, evd, evq, beq_self_eq_true, cond_true, cond_false, reduceIte, Nat.reduceEqDiff, Nat.reduceAdd, Int.reduceBNe, Int.reduceBEq, Int.reduceLT, Int.reduceLE, Int.reduceEq, evh, evp, Nat.reduceLeDiff, Nat.reduceSub, Nat.reduceBEq, typs, g0, g2, g4, g7, q1, q2, q3, lm, la, len1, len2, v3, v5, f1, bne_self_eq_false] | refine kCond2_by (fun hc => ?_) (fun hc => ?_) <;> try simp only [hc] | refine kPick_by (fun hc => ?_) (fun hc => ?_) <;> try simp only [hc] | refine kWant_by (fun hc => ?_) (fun hc => ?_) <;> try simp only [hc])
      · rw [hlm] at lm
        have f0 : (eA == 0) = false := by simp [hA0]
        have f2 : (eA != 0) = true := by simp [hA0]
        have len1 : evLen kon.P 37 sl1 = some (.int .i64 0) := len1
        rcases hXR with ⟨rfl, rfl⟩ | ⟨hR0, rfl⟩
        · repeat' (first | simp only [evr, nextP_norm, evd, evq, beq_self_eq_true, cond_true, cond_false, reduceIte, Nat.reduceEqDiff, Nat.reduceAdd, Int.reduceBNe, Int.reduceBEq, Int.reduceLT, Int.reduceLE, Int.reduceEq, evh, evp, Nat.reduceLeDiff, Nat.reduceSub, Nat.reduceBEq, typs, g0, g2, g4, g7, q1, q2, q3, lm, la, len1, len2, v3, v5, f0, f2, bne_self_eq_false] | refine kCond2_by (fun hc => ?_) (fun hc => ?_) <;> try simp only [hc] | refine kPick_by (fun hc => ?_) (fun hc => ?_) <;> try simp only [hc] | refine kWant_by (fun hc => ?_) (fun hc => ?_) <;> try simp only [hc])
        · have f1 : (eR != 0) = true := by simp [hR0]
          repeat' (first | simp only [evr, nextP_norm, evd, evq, beq_self_eq_true, cond_true, cond_false, reduceIte, Nat.reduceEqDiff, Nat.reduceAdd, Int.reduceBNe, Int.reduceBEq, Int.reduceLT, Int.reduceLE, Int.reduceEq, evh, evp, Nat.reduceLeDiff, Nat.reduceSub, Nat.reduceBEq, typs, g0, g2, g4, g7, q1, q2, q3, lm, la, len1, len2, v3, v5, f0, f1, f2, bne_self_eq_false] | refine kCond2_by (fun hc => ?_) (fun hc => ?_) <;> try simp only [hc] | refine kPick_by (fun hc => ?_) (fun hc => ?_) <;> try simp only [hc] | refine kWant_by (fun hc => ?_) (fun hc => ?_) <;> try simp only [hc])
    · have f3 : (eN == 0) = false := by simp [hne]
      repeat' (first | simp only [evr, nextP_norm, evd, evq, beq_self_eq_true, cond_true, cond_false, reduceIte, Nat.reduceEqDiff, Nat.reduceAdd, Int.reduceBNe, Int.reduceBEq, Int.reduceLT, Int.reduceLE, Int.reduceEq, evh, evp, Nat.reduceLeDiff, Nat.reduceSub, Nat.reduceBEq, typs, g0, g2, g4, g7, sc2, sv2, f3] | refine kCond2_by (fun hc => ?_) (fun hc => ?_) <;> try simp only [hc] | refine kPick_by (fun hc => ?_) (fun hc => ?_) <;> try simp only [hc] | refine kWant_by (fun hc => ?_) (fun hc => ?_) <;> try simp only [hc])
      generalize hh : Hp.set _ hW.next _ = hY
      have kY : Keep hW hY := by rw [← hh]; exact (Keep.push _ _).set (Nat.le_refl _)
      have nY : hY.next = hW.next + 1 := by rw [← hh]; rfl
      have gY : hY.get hW.next = some (.row (bnC (segU 2 [] noBk) sl2) 45 (.rw 0 [])) := by rw [← hh]; exact Hp.get_set_self _ _ _
      clear hh
      have x9 := x8.keeps kY
      have len1 : evLen kon.P 37 sl1 = some (.int .i64 la'.length) := TmSl.len (l := la') hs1.slAt
      have len2 : evLen kon.P 37 sl2 = some (.int .i64 ((([] : List Tm).length : Nat) : Int)) := TmSl.len (l := []) hs2.slAt
      have len2 : evLen kon.P 37 sl2 = some (.int .i64 0) := len2
      have gV2 : hY.get hU.next = some (.row (bnC (segU 1 la' b') sl1) 45 (.rw 0 [])) := (kY.2 _ (by omega)).trans ((kW.2 _ (by omega)).trans gV)
      have v3 : ∀ (c : Bk) xo yo, evBin kon.P .eql 39 xo yo (.agg #[.int .i64 c.r1, .int .i64 c.r2, .int .i64 c.r3, .int .i64 c.g]) (.agg #[.int .i64 c.r1, .int .i64 c.r2, .int .i64 c.r3, .int .i64 c.g]) = some (.bool true) := fun c xo yo => by rw [(evBk c c xo yo).1]; simp
      have v4 : ∀ (c : Bk) xo yo, evBin kon.P .neq 39 xo yo (.agg #[.int .i64 c.r1, .int .i64 c.r2, .int .i64 c.r3, .int .i64 c.g]) (.agg #[.int .i64 c.r1, .int .i64 c.r2, .int .i64 c.r3, .int .i64 c.g]) = some (.bool false) := fun c xo yo => by rw [(evBk c c xo yo).2]; simp
      have v5 : ∀ xo yo, evBin kon.P .eql 39 xo yo (.agg #[.int .i64 0, .int .i64 0, .int .i64 0, .int .i64 0]) (.agg #[.int .i64 0, .int .i64 0, .int .i64 0, .int .i64 0]) = some (.bool true) := fun xo yo => v3 noBk xo yo
      have leaf : ∀ {H : Hp} (K : Keep hY H), (rowOf H hU.next = some (bnC (segU 1 la' b') sl1) ∧ rowOf H hW.next = some (bnC (segU 2 [] noBk) sl2) ∧ rowOf H h.next = some [.int .i64 b.r1, .int .i64 b.r2, .int .i64 b.r3, .int .i64 b.g]) ∧
          ∀ Q, callP kon 41 H Q [v] = Q (.bool (listMay l)) H := fun {H} K => by
        have X := x9.k.trans K
        refine ⟨⟨rowOf_rw ((K.2 _ (by omega)).trans gV2), rowOf_rw ((K.2 _ (by omega)).trans gY), rowOf_rw ((X.2 _ (by omega)).trans b1)⟩, ?_⟩
        exact (refListMay_spec (SlAt.keep s1 X) (by omega)).call
      obtain ⟨⟨q1, q2, q3⟩, lm⟩ := leaf (Keep.refl hY)
      unfold bnC segU at q1
      unfold bnC segU noBk at q2
      rcases hXA with ⟨rfl, rfl, hlm⟩ | ⟨hA0, rfl, hlm⟩
      · rw [hlm] at lm
        rcases hXR with ⟨rfl, rfl⟩ | ⟨hR0, rfl⟩
        · repeat' (first | simp only [evr, nextP_norm, evd, evq, beq_self_eq_true, cond_true, cond_false, reduceIte, Nat.reduceEqDiff, Nat.reduceAdd, Int.reduceBNe, Int.reduceBEq, Int.reduceLT, Int.reduceLE, Int.reduceEq, evh, evp, Nat.reduceLeDiff, Nat.reduceSub, Nat.reduceBEq, typs, g0, g2, g4, g7, q1, q2, q3, lm, la, len1, len2, v3, v5, bne_self_eq_false] | refine kCond2_by (fun hc => ?_) (fun hc => ?_) <;> try simp only [hc] | refine kPick_by (fun hc => ?_) (fun hc => ?_) <;> try simp only [hc] | refine kWant_by (fun hc => ?_) (fun hc => ?_) <;> try simp only [hc])
        · have f1 : (eR != 0) = true := by simp [hR0]
          repeat' (first | simp only [evr, nextP_norm, evd, evq, beq_self_eq_true, cond_true, cond_false, reduceIte, Nat.reduceEqDiff, Nat.reduceAdd, Int.reduceBNe, Int.reduceBEq, Int.reduceLT, Int.reduceLE, Int.reduceEq, evh, evp, Nat.reduceLeDiff, Nat.reduceSub, Nat.reduceBEq, typs, g0, g2, g4, g7, q1, q2, q3, lm, la, len1, len2, v3, v5, f1, bne_self_eq_false] | refine kCond2_by (fun hc => ?_) (fun hc => ?_) <;> try simp only [hc] | refine kPick_by (fun hc => ?_) (fun hc => ?_) <;> try simp only [hc] | refine kWant_by (fun hc => ?_) (fun hc => ?_) <;> try simp only [hc])
      · rw [hlm] at lm
        have f0 : (eA == 0) = false := by simp [hA0]
        have f2 : (eA != 0) = true := by simp [hA0]
        have len1 : evLen kon.P 37 sl1 = some (.int .i64 0) := len1
        rcases hXR with ⟨rfl, rfl⟩ | ⟨hR0, rfl⟩
        · repeat' (first | simp only [evr, nextP_norm, evd, evq, beq_self_eq_true, cond_true, cond_false, reduceIte, Nat.reduceEqDiff, Nat.reduceAdd, Int.reduceBNe, Int.reduceBEq, Int.reduceLT, Int.reduceLE, Int.reduceEq, evh, evp, Nat.reduceLeDiff, Nat.reduceSub, Nat.reduceBEq, typs, g0, g2, g4, g7, q1, q2, q3, lm, la, len1, len2, v3, v5, f0, f2, bne_self_eq_false] | refine kCond2_by (fun hc => ?_) (fun hc => ?_) <;> try simp only [hc] | refine kPick_by (fun hc => ?_) (fun hc => ?_) <;> try simp only [hc] | refine kWant_by (fun hc => ?_) (fun hc => ?_) <;> try simp only [hc])
        · have f1 : (eR != 0) = true := by simp [hR0]
          repeat' (first | simp only [evr, nextP_norm, evd, evq, beq_self_eq_true, cond_true, cond_false, reduceIte, Nat.reduceEqDiff, Nat.reduceAdd, Int.reduceBNe, Int.reduceBEq, Int.reduceLT, Int.reduceLE, Int.reduceEq, evh, evp, Nat.reduceLeDiff, Nat.reduceSub, Nat.reduceBEq, typs, g0, g2, g4, g7, q1, q2, q3, lm, la, len1, len2, v3, v5, f0, f1, f2, bne_self_eq_false] | refine kCond2_by (fun hc => ?_) (fun hc => ?_) <;> try simp only [hc] | refine kPick_by (fun hc => ?_) (fun hc => ?_) <;> try simp only [hc] | refine kWant_by (fun hc => ?_) (fun hc => ?_) <;> try simp only [hc])
theorem treeAccess_law (W : World) (h : W.ShapedOpen Tryd.prog) {base : Nat} {v0 v1 v2 : Value} (o0 : Value.okWide Tryd.prog W .any base 37 v0) (r0 : RdT Tryd.prog W 37 v0.cells.toList)
    (o1 : Value.okWide Tryd.prog W .any base 39 v1) (r1 : RdT Tryd.prog W 39 v1.cells.toList) (o2 : Value.okWide Tryd.prog W .any base 9 v2) (r2 : RdT Tryd.prog W 9 v2.cells.toList) :
    Calls Tryd.prog 8 #[v0, v1, v2] W fun e w' => e = .returned (.bool true) ∧ Go.RowKit.Below W.heap.size W w' := by
  obtain ⟨a, len, cap, rfl⟩ := Go.WideShapes.okWide_slice Tryd.underlying37 o0
  obtain ⟨v, v', l, hv, hv2, hva, hs⟩ := tms_in h r0
  have hv1 : v = .slice a len cap := by
    have : (Value.slice a len cap).cells.toList = [.slice a len cap] := rfl
    rw [this] at hv; simpa using hv.symm
  subst hv1
  obtain ⟨b, rfl⟩ := rdBk r1 o1
  obtain ⟨s, rfl⟩ := rdStr r2 o2
  exact open_call (kon_from h) kon_mix (args := [_, _, _]) (abs := [v', .agg #[.int .i64 b.r1, .int .i64 b.r2, .int .i64 b.r3, .int .i64 b.g], .string s]) (by show ((absC W.heap.size (.slice a len cap)).bind _) = _; rw [hva]; rfl) (treeAccess_true hs b s)
end Go.Proofs.YtncmgiddcefpcaaDoor
