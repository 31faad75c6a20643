/- SdwRings: the law's own code. -/
import Derived.Test.YtncmgiddcefpcaaDoorConLw
import Derived.Test.YtncmgiddcefpcaaDoorConZr
namespace Go.Proofs.YtncmgiddcefpcaaDoor
open Go Go.Ev Go.RowKit Go.Con
set_option linter.unusedSimpArgs false
set_option linter.unusedVariables false
set_option maxRecDepth 1000000
theorem rings_read {f : Fl} {b : Bk} (hb : bkMay b = true) {i o : Int} (h0 : 0 ≤ i) (h7 : i ≤ 7) (ho : 0 ≤ o) (ho2 : o < 20) : (Sd.read ⟨1, 20, f, b⟩ i o == 0) = (f.r && decide (i ≤ b.r2)) := by
  have hf : fineB b i = true := by unfold fineB; rw [hb]; simp; omega
  unfold Sd.read inE readE
  cases f.r <;> simp [hf]
  by_cases h : i ≤ b.r2
  · simp [h, show ¬ b.r2 < i by omega, show ¬ (o < 0) by omega, show ¬ (20 ≤ o) by omega]
  · simp [h, show b.r2 < i by omega]
theorem rings_write {f : Fl} {b : Bk} (hb : bkMay b = true) {i o : Int} (h0 : 0 ≤ i) (h7 : i ≤ 7) (ho : 0 ≤ o) (ho2 : o < 20) : (Sd.write ⟨1, 20, f, b⟩ i o == 0) = (f.w && decide (i ≤ b.r1)) := by
  have hf : fineB b i = true := by unfold fineB; rw [hb]; simp; omega
  unfold Sd.write inE writeE
  cases f.w <;> simp [hf]
  by_cases h : i ≤ b.r1
  · simp [h, show ¬ b.r1 < i by omega, show ¬ (o < 0) by omega, show ¬ (20 ≤ o) by omega]
  · simp [h, show b.r1 < i by omega]
theorem rings_fetch {f : Fl} {b : Bk} (hb : bkMay b = true) {i o : Int} (h0 : 0 ≤ i) (h7 : i ≤ 7) (ho : 0 ≤ o) (ho2 : o < 20) : (Sd.fetch ⟨1, 20, f, b⟩ i o == 0) = (f.e && (decide (b.r1 ≤ i) && decide (i ≤ b.r2))) := by
  have hf : fineB b i = true := by unfold fineB; rw [hb]; simp; omega
  unfold Sd.fetch inE execE
  cases f.e <;> simp [hf]
  by_cases h1 : b.r1 ≤ i <;> by_cases h : i ≤ b.r2
  · simp [h, h1, show ¬ (i < b.r1 ∨ b.r2 < i) by omega, show ¬ (o < 0) by omega, show ¬ (20 ≤ o) by omega]
  all_goals simp [h, h1, show (i < b.r1 ∨ b.r2 < i) by omega]
theorem rings_call {f : Fl} {b : Bk} (hb : bkMay b = true) {i o : Int} (h0 : 0 ≤ i) (h7 : i ≤ 7) (ho : 0 ≤ o) (ho2 : o < 20) : ((Sd.call ⟨1, 20, f, b⟩ i o).2 == 0) = (f.e && (decide (b.r1 ≤ i) && (decide (i ≤ b.r2) || (decide (i ≤ b.r3) && decide (o < b.g))))) := by
  have hf : fineB b i = true := by unfold fineB; rw [hb]; simp; omega
  have hb' := hb
  unfold bkMay at hb'
  simp only [Bool.and_eq_true, decide_eq_true_eq] at hb'
  unfold Sd.call inE callE
  cases f.e <;> simp [hf]
  by_cases h1 : b.r1 ≤ i
  · by_cases h2 : i ≤ b.r2
    · simp [h1, h2, show ¬ (i < b.r1 ∨ b.r3 < i) by omega, show ¬ (o < 0) by omega, show ¬ (20 ≤ o) by omega]
    · by_cases h3 : i ≤ b.r3
      · by_cases h4 : o < b.g
        · simp [h1, h2, h3, h4, show ¬ (i < b.r1 ∨ b.r3 < i) by omega, show ¬ (o < 0) by omega, show ¬ (20 ≤ o) by omega, show ¬ (b.g ≤ o) by omega]
        · simp [h1, h2, h3, h4, show ¬ (i < b.r1 ∨ b.r3 < i) by omega, show (o < 0 ∨ b.g ≤ o) by omega]
      · simp [h1, h2, h3, show (i < b.r1 ∨ b.r3 < i) by omega]
  · simp [h1, show (i < b.r1 ∨ b.r3 < i) by omega]
set_option maxHeartbeats 4000000 in
theorem sdwRings_true (f : Fl) (b : Bk) (off : UInt8) : Meets kon 16 [.agg #[.bool f.r, .bool f.w, .bool f.e], .agg #[.int .i64 b.r1, .int .i64 b.r2, .int .i64 b.r3, .int .i64 b.g], .int .u8 off.toNat] h0 fun v _ => v = .bool true := by
  refine Meets.mk rfl (by kernel_rfl) Tryd.func16 rfl (congrArg Array.toList Tryd.results16) ?_
  have aw := fun h => awake_call (f := 53) (by kernel_rfl) h
  repeat' (first | simp only [evr, nextP_norm, evd, evq, beq_self_eq_true, cond_true, cond_false, reduceIte, Nat.reduceEqDiff, Nat.reduceAdd, Int.reduceBNe, Int.reduceBEq, Int.reduceLT, Int.reduceLE, Int.reduceEq, evh, evp, Nat.reduceLeDiff, Nat.reduceSub, Nat.reduceBEq, typs, aw] | refine kCond2_by (fun hc => ?_) (fun hc => ?_) <;> try simp only [hc] | refine kPick_by (fun hc => ?_) (fun hc => ?_) <;> try simp only [hc] | refine kWant_by (fun hc => ?_) (fun hc => ?_) <;> try simp only [hc])
  generalize hh : Hp.push _ _ = h1
  have f1 : h1.get h0.next = some (obF f) := by rw [← hh, Hp.get_push_lt (Nat.lt_succ_self _)]; exact Hp.get_push_self _ _
  have b1 : h1.get (h0.next + 1) = some (obB b) := by rw [← hh]; exact Hp.get_push_self _ _
  have n1 : h1.next = h0.next + 2 := by rw [← hh]; rfl
  clear hh
  refine callP_meets (tNew_spec h1) ?_
  rintro _ h2 ⟨F, bt, rfl, k2, t2, fF⟩
  repeat' (first | simp only [evr, nextP_norm, evd, evq, beq_self_eq_true, cond_true, cond_false, reduceIte, Nat.reduceEqDiff, Nat.reduceAdd, Int.reduceBNe, Int.reduceBEq, Int.reduceLT, Int.reduceLE, Int.reduceEq, evh, evp, Nat.reduceLeDiff, Nat.reduceSub, Nat.reduceBEq, typs] | refine kCond2_by (fun hc => ?_) (fun hc => ?_) <;> try simp only [hc] | refine kPick_by (fun hc => ?_) (fun hc => ?_) <;> try simp only [hc] | refine kWant_by (fun hc => ?_) (fun hc => ?_) <;> try simp only [hc])
  refine callP_meets (sNew_spec 100 h2) ?_
  rintro _ h3 ⟨G, bs, rfl, k3, s3, fG⟩
  have ep : ∀ b, ptrV b = .pointer (some ⟨b, 0, none⟩) := fun _ => rfl
  have x3 : TS h1.next h3 F G newHi ⟨max 100 0, []⟩ bt bs := ⟨t2.keeps k3, s3, fun k hf hg => by have := t2.lt hf; have := fG k hg; omega, fF, fun k hg => Nat.le_trans k2.1 (fG k hg), Nat.le_trans k2.1 k3.1⟩
  have K := k2.trans k3
  have f3 := (K.2 _ (by omega)).trans f1
  have b3 := (K.2 _ (by omega)).trans b1
  have q1 := rowOf_rw f3
  have q2 := rowOf_rw b3
  have hm := fun h => (refRingMayX b h).call
  unfold obB at hm
  cases hb : bkMay b with
  | false =>
    rw [hb] at hm
    repeat' (first | simp only [evr, nextP_norm, evd, evq, beq_self_eq_true, cond_true, cond_false, reduceIte, Nat.reduceEqDiff, Nat.reduceAdd, Int.reduceBNe, Int.reduceBEq, Int.reduceLT, Int.reduceLE, Int.reduceEq, evh, evp, Nat.reduceLeDiff, Nat.reduceSub, Nat.reduceBEq, typs, ep bt, ep bs, q2, hm] | refine kCond2_by (fun hc => ?_) (fun hc => ?_) <;> try simp only [hc] | refine kPick_by (fun hc => ?_) (fun hc => ?_) <;> try simp only [hc] | refine kWant_by (fun hc => ?_) (fun hc => ?_) <;> try simp only [hc])
  | true =>
    rw [hb] at hm
    repeat' (first | simp only [evr, nextP_norm, evd, evq, beq_self_eq_true, cond_true, cond_false, reduceIte, Nat.reduceEqDiff, Nat.reduceAdd, Int.reduceBNe, Int.reduceBEq, Int.reduceLT, Int.reduceLE, Int.reduceEq, evh, evp, Nat.reduceLeDiff, Nat.reduceSub, Nat.reduceBEq, typs, ep bt, ep bs, q2, hm] | refine kCond2_by (fun hc => ?_) (fun hc => ?_) <;> try simp only [hc] | refine kPick_by (fun hc => ?_) (fun hc => ?_) <;> try simp only [hc] | refine kWant_by (fun hc => ?_) (fun hc => ?_) <;> try simp only [hc])
    have x4 := x3.keeps (Keep.push h3 (obB b))
    have hmk : (⟨max 100 0, []⟩ : Sto).make 20 = (⟨100, [some (List.replicate 20 0)]⟩, 1, 0) := by rfl
    refine callP_meets (sMake_spec x4.s 20 (by decide) (by decide)) ?_
    rintro _ h5 ⟨rfl, G', s5, u5⟩
    rw [hmk] at s5 ⊢
    obtain ⟨x5, o5⟩ := x4.sto u5 s5
    have f5 := (o5 _ (by omega)).trans ((Hp.get_push_lt (by have := K.1; omega)).trans f3)
    have b5 := (o5 _ (by omega)).trans ((Hp.get_push_lt (by have := K.1; omega)).trans b3)
    have q1 := rowOf_rw f5
    have q2 := rowOf_rw b5
    have le5 := x5.le
    unfold obF at f5
    have d1 : (h0.next + 1 = h5.next) = False := eq_false (by omega)
    repeat' (first | simp only [evr, nextP_norm, evd, evq, beq_self_eq_true, cond_true, cond_false, reduceIte, Nat.reduceEqDiff, Nat.reduceAdd, Int.reduceBNe, Int.reduceBEq, Int.reduceLT, Int.reduceLE, Int.reduceEq, evh, evp, Nat.reduceLeDiff, Nat.reduceSub, Nat.reduceBEq, typs, q1, q2, d1, if_false] | refine kCond2_by (fun hc => ?_) (fun hc => ?_) <;> try simp only [hc] | refine kPick_by (fun hc => ?_) (fun hc => ?_) <;> try simp only [hc] | refine kWant_by (fun hc => ?_) (fun hc => ?_) <;> try simp only [hc])
    generalize hh : h5.push _ = h6
    have k6 : Keep h5 h6 := by rw [← hh]; exact Keep.push _ _
    have hsl : TmSl h6 (.slice (some ⟨h5.next, 0, none⟩) 1 2) [⟨star, f⟩] := by rw [← hh]; exact tm_new (t := ⟨star, f⟩) (Nat.lt_succ_self _) (Hp.get_push_self _ _)
    clear hh
    have x6 := x5.keeps k6
    refine callP_meets (tAdd_spec x6.t (by decide) (by decide) (b := ⟨1, 1, 0, ByteArray.empty, false, [⟨star, f⟩], b⟩) hsl (by show 1 ≤ 1000000000; omega) 0 (ByteArray.mk #[97])) ?_
    have hadd := one_add (s := ByteArray.mk #[97]) (b := ⟨1, 1, 0, ByteArray.empty, false, [⟨star, f⟩], b⟩) (by decide) rfl (Int.le_refl 1) rfl hb
    rintro _ h7 ⟨rfl, F', t7, u7⟩
    rw [hadd] at t7 ⊢
    obtain ⟨x7, o7⟩ := x6.tree u7 t7
    have f7 := (o7 _ (by omega)).trans ((k6.2 _ (by omega)).trans f5)
    have b7 := (o7 _ (by omega)).trans ((k6.2 _ (by omega)).trans b5)
    have le7 := x7.le
    repeat' (first | simp only [evr, nextP_norm, evd, evq, beq_self_eq_true, cond_true, cond_false, reduceIte, Nat.reduceEqDiff, Nat.reduceAdd, Int.reduceBNe, Int.reduceBEq, Int.reduceLT, Int.reduceLE, Int.reduceEq, evh, evp, Nat.reduceLeDiff, Nat.reduceSub, Nat.reduceBEq, typs] | refine kCond2_by (fun hc => ?_) (fun hc => ?_) <;> try simp only [hc] | refine kPick_by (fun hc => ?_) (fun hc => ?_) <;> try simp only [hc] | refine kWant_by (fun hc => ?_) (fun hc => ?_) <;> try simp only [hc])
    refine callP_meets (sdOf_spec x7.t x7.s 1 (ByteArray.mk #[117])) ?_
    have hof : sdwOf (oneT (ByteArray.mk #[97]) ⟨1, 1, 0, ByteArray.empty, false, [⟨star, f⟩], b⟩) ⟨100, [some (List.replicate 20 0)]⟩ 1 (ByteArray.mk #[117]) = (⟨1, 20, f, b⟩, 0) := by
      unfold sdwOf
      rw [one_uid (c := ⟨1, 1, 0, ByteArray.empty, false, [⟨star, f⟩], b⟩) rfl]
      show ((⟨1, 20, (if false = true then noW (findF [⟨star, f⟩] (ByteArray.mk #[117])) else findF [⟨star, f⟩] (ByteArray.mk #[117])), b⟩ : Sd), (0 : Int)) = _
      rw [find_star f _ (by decide)]; rfl
    rw [hof]
    rintro _ h8 ⟨rfl, k8⟩
    unfold sdV
    have n0 := off.toNat_lt
    have wn : IntKind.i64.wrap (off.toNat : Int) = (off.toNat : Int) := wrap64 (by omega) (by omega)
    have r20 : (off.toNat : Int).tmod 20 = ((off.toNat % 20 : Nat) : Int) := by rw [Int.tmod_eq_emod_of_nonneg (by omega)]; omega
    generalize hk : off.toNat % 20 = o at r20
    have ho : o ≤ 19 := by omega
    repeat' (first | simp only [evr, nextP_norm, evd, evq, beq_self_eq_true, cond_true, cond_false, reduceIte, Nat.reduceEqDiff, Nat.reduceAdd, Int.reduceBNe, Int.reduceBEq, Int.reduceLT, Int.reduceLE, Int.reduceEq, evh, evp, Nat.reduceLeDiff, Nat.reduceSub, Nat.reduceBEq, typs, wn, evBin_rem (b := 20) (by decide), r20] | refine kCond2_by (fun hc => ?_) (fun hc => ?_) <;> try simp only [hc] | refine kPick_by (fun hc => ?_) (fun hc => ?_) <;> try simp only [hc] | refine kWant_by (fun hc => ?_) (fun hc => ?_) <;> try simp only [hc])
    generalize hh : Hp.set _ h8.next _ = h9
    have f8 := (k8.2 _ (by omega)).trans f7
    have b8 := (k8.2 _ (by omega)).trans b7
    have n8 := k8.1
    have f9 : h9.get h0.next = some (.row [.bool f.r, .bool f.w, .bool f.e] 62 (.rw 0 [])) := by rw [← hh, Hp.get_set_ne (by omega), Hp.get_push_lt (by omega)]; exact f8
    have b9 : h9.get (h0.next + 1) = some (obB b) := by rw [← hh, Hp.get_set_ne (by omega), Hp.get_push_lt (by omega)]; exact b8
    have s9 : h9.get h8.next = some (.row (sdC ⟨1, 20, f, b⟩) 86 (.rw 0 [])) := by rw [← hh]; exact Hp.get_set_self _ _ _
    have n9 : h9.next = h8.next + 1 := by rw [← hh]; rfl
    clear hh
    unfold obB at b9
    unfold sdC at s9
    refine Wp_loop (fun k fr h' => Keep h9 h' ∧ ∃ i : Nat, k = 8 - i ∧ i ≤ 8 ∧ fr.get 3 = some (.pointer (some ⟨h0.next, 0, none⟩)) ∧ fr.get 4 = some (.pointer (some ⟨h0.next + 1, 0, none⟩)) ∧ fr.get 13 = some (.pointer (some ⟨h8.next, 0, none⟩)) ∧ fr.get 15 = some (.int .i64 o) ∧ fr.get 16 = some (.int .i64 i)) 8 ⟨Keep.refl _, 0, rfl, Nat.zero_le _, ?_, ?_, ?_, ?_, ?_⟩ ?_
    · repeat' (first | simp only [evr, nextP_norm, evd, evq, beq_self_eq_true, cond_true, cond_false, reduceIte, Nat.reduceEqDiff, Nat.reduceAdd, Int.reduceBNe, Int.reduceBEq, Int.reduceLT, Int.reduceLE, Int.reduceEq, evh, evp, Nat.reduceLeDiff, Nat.reduceSub, Nat.reduceBEq, typs] | refine kCond2_by (fun hc => ?_) (fun hc => ?_) <;> try simp only [hc] | refine kPick_by (fun hc => ?_) (fun hc => ?_) <;> try simp only [hc] | refine kWant_by (fun hc => ?_) (fun hc => ?_) <;> try simp only [hc])
    · repeat' (first | simp only [evr, nextP_norm, evd, evq, beq_self_eq_true, cond_true, cond_false, reduceIte, Nat.reduceEqDiff, Nat.reduceAdd, Int.reduceBNe, Int.reduceBEq, Int.reduceLT, Int.reduceLE, Int.reduceEq, evh, evp, Nat.reduceLeDiff, Nat.reduceSub, Nat.reduceBEq, typs] | refine kCond2_by (fun hc => ?_) (fun hc => ?_) <;> try simp only [hc] | refine kPick_by (fun hc => ?_) (fun hc => ?_) <;> try simp only [hc] | refine kWant_by (fun hc => ?_) (fun hc => ?_) <;> try simp only [hc])
    · repeat' (first | simp only [evr, nextP_norm, evd, evq, beq_self_eq_true, cond_true, cond_false, reduceIte, Nat.reduceEqDiff, Nat.reduceAdd, Int.reduceBNe, Int.reduceBEq, Int.reduceLT, Int.reduceLE, Int.reduceEq, evh, evp, Nat.reduceLeDiff, Nat.reduceSub, Nat.reduceBEq, typs] | refine kCond2_by (fun hc => ?_) (fun hc => ?_) <;> try simp only [hc] | refine kPick_by (fun hc => ?_) (fun hc => ?_) <;> try simp only [hc] | refine kWant_by (fun hc => ?_) (fun hc => ?_) <;> try simp only [hc])
    · repeat' (first | simp only [evr, nextP_norm, evd, evq, beq_self_eq_true, cond_true, cond_false, reduceIte, Nat.reduceEqDiff, Nat.reduceAdd, Int.reduceBNe, Int.reduceBEq, Int.reduceLT, Int.reduceLE, Int.reduceEq, evh, evp, Nat.reduceLeDiff, Nat.reduceSub, Nat.reduceBEq, typs] | refine kCond2_by (fun hc => ?_) (fun hc => ?_) <;> try simp only [hc] | refine kPick_by (fun hc => ?_) (fun hc => ?_) <;> try simp only [hc] | refine kWant_by (fun hc => ?_) (fun hc => ?_) <;> try simp only [hc])
    · repeat' (first | simp only [evr, nextP_norm, evd, evq, beq_self_eq_true, cond_true, cond_false, reduceIte, Nat.reduceEqDiff, Nat.reduceAdd, Int.reduceBNe, Int.reduceBEq, Int.reduceLT, Int.reduceLE, Int.reduceEq, evh, evp, Nat.reduceLeDiff, Nat.reduceSub, Nat.reduceBEq, typs] | refine kCond2_by (fun hc => ?_) (fun hc => ?_) <;> try simp only [hc] | refine kPick_by (fun hc => ?_) (fun hc => ?_) <;> try simp only [hc] | refine kWant_by (fun hc => ?_) (fun hc => ?_) <;> try simp only [hc])
      rfl
    rintro k fr h' ⟨hk', i, rfl, hi, g3, g4, g13, g15, g16⟩
    by_cases h8i : i = 8
    · subst h8i
      have e1 : decide (((8 : Nat) : Int) < 8) = false := rfl
      have p1 := rowOf_rw ((hk'.2 _ (by omega)).trans s9)
      repeat' (first | simp only [evr, nextP_norm, evd, evq, beq_self_eq_true, cond_true, cond_false, reduceIte, Nat.reduceEqDiff, Nat.reduceAdd, Int.reduceBNe, Int.reduceBEq, Int.reduceLT, Int.reduceLE, Int.reduceEq, evh, evp, Nat.reduceLeDiff, Nat.reduceSub, Nat.reduceBEq, typs, e1, g13, g16, p1] | refine kCond2_by (fun hc => ?_) (fun hc => ?_) <;> try simp only [hc] | refine kPick_by (fun hc => ?_) (fun hc => ?_) <;> try simp only [hc] | refine kWant_by (fun hc => ?_) (fun hc => ?_) <;> try simp only [hc])
      refine callP_meets (sdRead_spec ⟨1, 20, f, b⟩ 0 20 h') ?_
      rintro _ h'' ⟨rfl, hk''⟩
      have p2 := rowOf_rw (((hk'.trans hk'').2 _ (by omega)).trans s9)
      have e2 : (Sd.read ⟨1, 20, f, b⟩ 0 20 != 0) = true := by
        unfold Sd.read inE
        split
        · rfl
        · rename_i h; simp only [Int.le_refl, or_true, and_true] at h; simp [h]
      repeat' (first | simp only [evr, nextP_norm, evd, evq, beq_self_eq_true, cond_true, cond_false, reduceIte, Nat.reduceEqDiff, Nat.reduceAdd, Int.reduceBNe, Int.reduceBEq, Int.reduceLT, Int.reduceLE, Int.reduceEq, evh, evp, Nat.reduceLeDiff, Nat.reduceSub, Nat.reduceBEq, typs, e2, p2, g13] | refine kCond2_by (fun hc => ?_) (fun hc => ?_) <;> try simp only [hc] | refine kPick_by (fun hc => ?_) (fun hc => ?_) <;> try simp only [hc] | refine kWant_by (fun hc => ?_) (fun hc => ?_) <;> try simp only [hc])
      refine callP_meets (sdWrite_spec ⟨1, 20, f, b⟩ 0 (-1) h'') ?_
      rintro _ h3 ⟨rfl, hk3⟩
      have e3 : (Sd.write ⟨1, 20, f, b⟩ 0 (-1) != 0) = true := by
        unfold Sd.write inE
        split
        · rfl
        · rename_i h; simp only [show ((-1 : Int) < 0) = True from eq_true (by omega), true_or, and_true] at h; simp [h]
      repeat' (first | simp only [evr, nextP_norm, evd, evq, beq_self_eq_true, cond_true, cond_false, reduceIte, Nat.reduceEqDiff, Nat.reduceAdd, Int.reduceBNe, Int.reduceBEq, Int.reduceLT, Int.reduceLE, Int.reduceEq, evh, evp, Nat.reduceLeDiff, Nat.reduceSub, Nat.reduceBEq, typs, e3] | refine kCond2_by (fun hc => ?_) (fun hc => ?_) <;> try simp only [hc] | refine kPick_by (fun hc => ?_) (fun hc => ?_) <;> try simp only [hc] | refine kWant_by (fun hc => ?_) (fun hc => ?_) <;> try simp only [hc])
    · have e1 : decide ((i : Int) < 8) = true := decide_eq_true (by omega)
      have w1 := wrap64 (x := (i : Int) + 1) (by omega) (by omega)
      have c1 := rings_read (f := f) hb (i := i) (o := o) (by omega) (by omega) (by omega) (by omega)
      have c2 := rings_write (f := f) hb (i := i) (o := o) (by omega) (by omega) (by omega) (by omega)
      have c3 := rings_fetch (f := f) hb (i := i) (o := o) (by omega) (by omega) (by omega) (by omega)
      have c4 := rings_call (f := f) hb (i := i) (o := o) (by omega) (by omega) (by omega) (by omega)
      have p1 := rowOf_rw ((hk'.2 _ (by omega)).trans s9)
      have pf1 := rowOf_rw ((hk'.2 _ (by omega)).trans f9)
      have pb1 := rowOf_rw ((hk'.2 _ (by omega)).trans b9)
      repeat' (first | simp only [evr, nextP_norm, evd, evq, beq_self_eq_true, cond_true, cond_false, reduceIte, Nat.reduceEqDiff, Nat.reduceAdd, Int.reduceBNe, Int.reduceBEq, Int.reduceLT, Int.reduceLE, Int.reduceEq, evh, evp, Nat.reduceLeDiff, Nat.reduceSub, Nat.reduceBEq, typs, e1, g16] | refine kCond2_by (fun hc => ?_) (fun hc => ?_) <;> try simp only [hc] | refine kPick_by (fun hc => ?_) (fun hc => ?_) <;> try simp only [hc] | refine kWant_by (fun hc => ?_) (fun hc => ?_) <;> try simp only [hc])
      refine Wp.mono (Q := fun e fr' h'' => e = Ex.norm ∧ Keep h9 h'' ∧ fr'.get 3 = some (.pointer (some ⟨h0.next, 0, none⟩)) ∧ fr'.get 4 = some (.pointer (some ⟨h0.next + 1, 0, none⟩)) ∧ fr'.get 13 = some (.pointer (some ⟨h8.next, 0, none⟩)) ∧ fr'.get 15 = some (.int .i64 o) ∧ fr'.get 16 = some (.int .i64 i) ∧ fr'.get 127 = some (.bool false)) ?_ ?_
      · refine Wp_drawE [1, 0, 0, 3, 0, 0, 1, 0, 0, 0, 1, 0, 0, 0, 0, 1, 0, 0, 3, 0, 0, 1, 0, 0, 0, 1, 0, 0, 0, 0, 0, 1, 0, 0, 3, 0, 0, 1, 0, 0, 0, 1, 0, 0, 0, 0, 0, 1, 0, 0, 0, 0] (KR.mk (by kernel_rfl)) ?_
        repeat' (first | simp only [evr, nextP_norm, evd, evq, beq_self_eq_true, cond_true, cond_false, reduceIte, Nat.reduceEqDiff, Nat.reduceAdd, Int.reduceBNe, Int.reduceBEq, Int.reduceLT, Int.reduceLE, Int.reduceEq, evh, evp, Nat.reduceLeDiff, Nat.reduceSub, Nat.reduceBEq, typs, g3, g4, g13, g15, g16, p1, pf1, pb1] | refine kCond2_by (fun hc => ?_) (fun hc => ?_) <;> try simp only [hc] | refine kPick_by (fun hc => ?_) (fun hc => ?_) <;> try simp only [hc] | refine kWant_by (fun hc => ?_) (fun hc => ?_) <;> try simp only [hc])
        refine callP_meets (sdRead_spec ⟨1, 20, f, b⟩ i o h') ?_
        rintro _ ha ⟨rfl, ka⟩
        have K2 := hk'.trans ka
        have p2 := rowOf_rw ((K2.2 _ (by omega)).trans s9)
        have pf2 := rowOf_rw ((K2.2 _ (by omega)).trans f9)
        have pb2 := rowOf_rw ((K2.2 _ (by omega)).trans b9)
        cases hfr : f.r <;> rw [hfr] at c1
        all_goals
          repeat' (first | simp only [evr, nextP_norm, evd, evq, beq_self_eq_true, cond_true, cond_false, reduceIte, Nat.reduceEqDiff, Nat.reduceAdd, Int.reduceBNe, Int.reduceBEq, Int.reduceLT, Int.reduceLE, Int.reduceEq, evh, evp, Nat.reduceLeDiff, Nat.reduceSub, Nat.reduceBEq, typs, g3, g4, g13, g15, g16, p1, pf1, pb1, p2, pf2, pb2, c1, hfr, Bool.false_and, Bool.true_and] | refine kCond2_by (fun hc => ?_) (fun hc => ?_) <;> try simp only [hc] | refine kPick_by (fun hc => ?_) (fun hc => ?_) <;> try simp only [hc] | refine kWant_by (fun hc => ?_) (fun hc => ?_) <;> try simp only [hc])
          have sw := sdWrite_spec ⟨1, 20, f, b⟩ i o ha
          unfold sdV at sw
          simp only [hfr] at sw
          refine callP_meets sw ?_
          rintro _ hc ⟨rfl, kc⟩
          have K3 := K2.trans kc
          have p3 := rowOf_rw ((K3.2 _ (by omega)).trans s9)
          have pf3 := rowOf_rw ((K3.2 _ (by omega)).trans f9)
          have pb3 := rowOf_rw ((K3.2 _ (by omega)).trans b9)
          cases hfw : f.w <;> rw [hfw] at c2
          all_goals
            repeat' (first | simp only [evr, nextP_norm, evd, evq, beq_self_eq_true, cond_true, cond_false, reduceIte, Nat.reduceEqDiff, Nat.reduceAdd, Int.reduceBNe, Int.reduceBEq, Int.reduceLT, Int.reduceLE, Int.reduceEq, evh, evp, Nat.reduceLeDiff, Nat.reduceSub, Nat.reduceBEq, typs, g3, g4, g13, g15, g16, p1, pf1, pb1, p2, pf2, pb2, p3, pf3, pb3, c1, c2, hfr, hfw, Bool.false_and, Bool.true_and] | refine kCond2_by (fun hc => ?_) (fun hc => ?_) <;> try simp only [hc] | refine kPick_by (fun hc => ?_) (fun hc => ?_) <;> try simp only [hc] | refine kWant_by (fun hc => ?_) (fun hc => ?_) <;> try simp only [hc])
            have sf := sdFetch_spec ⟨1, 20, f, b⟩ i o hc
            unfold sdV at sf
            simp only [hfr, hfw] at sf
            refine callP_meets sf ?_
            rintro _ hd ⟨rfl, kd⟩
            have K4 := K3.trans kd
            have p4 := rowOf_rw ((K4.2 _ (by omega)).trans s9)
            have pf4 := rowOf_rw ((K4.2 _ (by omega)).trans f9)
            have pb4 := rowOf_rw ((K4.2 _ (by omega)).trans b9)
            cases hfe : f.e <;> rw [hfe] at c3
            · repeat' (first | simp only [evr, nextP_norm, evd, evq, beq_self_eq_true, cond_true, cond_false, reduceIte, Nat.reduceEqDiff, Nat.reduceAdd, Int.reduceBNe, Int.reduceBEq, Int.reduceLT, Int.reduceLE, Int.reduceEq, evh, evp, Nat.reduceLeDiff, Nat.reduceSub, Nat.reduceBEq, typs, g3, g4, g13, g15, g16, p1, pf1, pb1, p2, pf2, pb2, p3, pf3, pb3, p4, pf4, pb4, c1, c2, c3, hfr, hfw, hfe, Bool.false_and, Bool.true_and] | refine kCond2_by (fun hc => ?_) (fun hc => ?_) <;> try simp only [hc] | refine kPick_by (fun hc => ?_) (fun hc => ?_) <;> try simp only [hc] | refine kWant_by (fun hc => ?_) (fun hc => ?_) <;> try simp only [hc])
              exact K4
            · rcases Bool.eq_false_or_eq_true (decide (b.r1 ≤ (i : Int))) with hr1 | hr1 <;> rw [hr1] at c3
              all_goals
                repeat' (first | simp only [evr, nextP_norm, evd, evq, beq_self_eq_true, cond_true, cond_false, reduceIte, Nat.reduceEqDiff, Nat.reduceAdd, Int.reduceBNe, Int.reduceBEq, Int.reduceLT, Int.reduceLE, Int.reduceEq, evh, evp, Nat.reduceLeDiff, Nat.reduceSub, Nat.reduceBEq, typs, g3, g4, g13, g15, g16, p1, pf1, pb1, p2, pf2, pb2, p3, pf3, pb3, p4, pf4, pb4, c1, c2, c3, hfr, hfw, hfe, hr1, Bool.false_and, Bool.true_and] | refine kCond2_by (fun hc => ?_) (fun hc => ?_) <;> try simp only [hc] | refine kPick_by (fun hc => ?_) (fun hc => ?_) <;> try simp only [hc] | refine kWant_by (fun hc => ?_) (fun hc => ?_) <;> try simp only [hc])
                exact K4
      · rintro e fr' h'' ⟨rfl, hk'', g3, g4, g13, g15, g16, g127⟩
        have p1 := rowOf_rw ((hk''.2 _ (by omega)).trans s9)
        repeat' (first | simp only [evr, nextP_norm, evd, evq, beq_self_eq_true, cond_true, cond_false, reduceIte, Nat.reduceEqDiff, Nat.reduceAdd, Int.reduceBNe, Int.reduceBEq, Int.reduceLT, Int.reduceLE, Int.reduceEq, evh, evp, Nat.reduceLeDiff, Nat.reduceSub, Nat.reduceBEq, typs, g3, g4, g13, g15, g16, g127, p1] | refine kCond2_by (fun hc => ?_) (fun hc => ?_) <;> try simp only [hc] | refine kPick_by (fun hc => ?_) (fun hc => ?_) <;> try simp only [hc] | refine kWant_by (fun hc => ?_) (fun hc => ?_) <;> try simp only [hc])
        refine callP_meets (sdCall_spec ⟨1, 20, f, b⟩ i o h'') ?_
        rintro _ ha ⟨rfl, ka⟩
        have K2 := hk''.trans ka
        have pf2 := rowOf_rw ((K2.2 _ (by omega)).trans f9)
        have pb2 := rowOf_rw ((K2.2 _ (by omega)).trans b9)
        have fin : ∃ j, j < 8 - i ∧ Keep h9 ha ∧ ∃ i', j = 8 - i' ∧ i' ≤ 8 ∧ ((i : Int) + 1 = (i' : Int)) := ⟨8 - (i + 1), by omega, K2, i + 1, rfl, by omega, by omega⟩
        cases hfe : f.e <;> rw [hfe] at c4
        · repeat' (first | simp only [evr, nextP_norm, evd, evq, beq_self_eq_true, cond_true, cond_false, reduceIte, Nat.reduceEqDiff, Nat.reduceAdd, Int.reduceBNe, Int.reduceBEq, Int.reduceLT, Int.reduceLE, Int.reduceEq, evh, evp, Nat.reduceLeDiff, Nat.reduceSub, Nat.reduceBEq, typs, g3, g4, g13, g15, g16, pf2, pb2, c4, hfe, w1, Bool.false_and, Bool.true_and] | refine kCond2_by (fun hc => ?_) (fun hc => ?_) <;> try simp only [hc] | refine kPick_by (fun hc => ?_) (fun hc => ?_) <;> try simp only [hc] | refine kWant_by (fun hc => ?_) (fun hc => ?_) <;> try simp only [hc])
          exact ⟨8 - (i + 1), by omega, K2, i + 1, rfl, by omega, rfl⟩
        · rcases Bool.eq_false_or_eq_true (decide (b.r1 ≤ (i : Int))) with hr1 | hr1 <;> rw [hr1] at c4
          · rcases Bool.eq_false_or_eq_true (decide ((i : Int) ≤ b.r2)) with hr2 | hr2 <;> rw [hr2] at c4
            · repeat' (first | simp only [evr, nextP_norm, evd, evq, beq_self_eq_true, cond_true, cond_false, reduceIte, Nat.reduceEqDiff, Nat.reduceAdd, Int.reduceBNe, Int.reduceBEq, Int.reduceLT, Int.reduceLE, Int.reduceEq, evh, evp, Nat.reduceLeDiff, Nat.reduceSub, Nat.reduceBEq, typs, g3, g4, g13, g15, g16, pf2, pb2, c4, hfe, hr1, hr2, w1, Bool.false_and, Bool.true_and, Bool.true_or, Bool.false_or] | refine kCond2_by (fun hc => ?_) (fun hc => ?_) <;> try simp only [hc] | refine kPick_by (fun hc => ?_) (fun hc => ?_) <;> try simp only [hc] | refine kWant_by (fun hc => ?_) (fun hc => ?_) <;> try simp only [hc])
              exact ⟨8 - (i + 1), by omega, K2, i + 1, rfl, by omega, rfl⟩
            · rcases Bool.eq_false_or_eq_true (decide ((i : Int) ≤ b.r3)) with hr3 | hr3 <;> rw [hr3] at c4
              all_goals
                repeat' (first | simp only [evr, nextP_norm, evd, evq, beq_self_eq_true, cond_true, cond_false, reduceIte, Nat.reduceEqDiff, Nat.reduceAdd, Int.reduceBNe, Int.reduceBEq, Int.reduceLT, Int.reduceLE, Int.reduceEq, evh, evp, Nat.reduceLeDiff, Nat.reduceSub, Nat.reduceBEq, typs, g3, g4, g13, g15, g16, pf2, pb2, c4, hfe, hr1, hr2, hr3, w1, Bool.false_and, Bool.true_and, Bool.true_or, Bool.false_or] | refine kCond2_by (fun hc => ?_) (fun hc => ?_) <;> try simp only [hc] | refine kPick_by (fun hc => ?_) (fun hc => ?_) <;> try simp only [hc] | refine kWant_by (fun hc => ?_) (fun hc => ?_) <;> try simp only [hc])
                exact ⟨8 - (i + 1), by omega, K2, i + 1, rfl, by omega, rfl⟩
          · repeat' (first | simp only [evr, nextP_norm, evd, evq, beq_self_eq_true, cond_true, cond_false, reduceIte, Nat.reduceEqDiff, Nat.reduceAdd, Int.reduceBNe, Int.reduceBEq, Int.reduceLT, Int.reduceLE, Int.reduceEq, evh, evp, Nat.reduceLeDiff, Nat.reduceSub, Nat.reduceBEq, typs, g3, g4, g13, g15, g16, pf2, pb2, c4, hfe, hr1, w1, Bool.false_and, Bool.true_and] | refine kCond2_by (fun hc => ?_) (fun hc => ?_) <;> try simp only [hc] | refine kPick_by (fun hc => ?_) (fun hc => ?_) <;> try simp only [hc] | refine kWant_by (fun hc => ?_) (fun hc => ?_) <;> try simp only [hc])
            exact ⟨8 - (i + 1), by omega, K2, i + 1, rfl, by omega, rfl⟩
theorem sdwRings_law (W : World) (h : W.ShapedOpen Tryd.prog) {base : Nat} {v0 v1 v2 : Value} (o0 : Value.okWide Tryd.prog W .any base 62 v0) (r0 : RdT Tryd.prog W 62 v0.cells.toList)
    (o1 : Value.okWide Tryd.prog W .any base 39 v1) (r1 : RdT Tryd.prog W 39 v1.cells.toList) (o2 : Value.okWide Tryd.prog W .any base 5 v2) (r2 : RdT Tryd.prog W 5 v2.cells.toList) :
    Calls Tryd.prog 16 #[v0, v1, v2] W fun e w' => e = .returned (.bool true) ∧ Below W.heap.size W w' := by
  obtain ⟨f, rfl⟩ := rdFlags r0 o0
  obtain ⟨b, rfl⟩ := rdBk r1 o1
  obtain ⟨c, rfl⟩ := rdU8 r2 o2
  exact closed_meets (kon_from0 h) kon_mix (args := [_, _, _]) (by rfl) (sdwRings_true f b c)
end Go.Proofs.YtncmgiddcefpcaaDoor
