/- SdwNow: the law's own code. -/
import Derived.Test.YtncmgiddcefpcaaDoorConLw
import Derived.Test.YtncmgiddcefpcaaDoorConEq
import Derived.Test.YtncmgiddcefpcaaDoorConZr
namespace Go.Proofs.YtncmgiddcefpcaaDoor
open Go Go.Ev Go.RowKit Go.Con
set_option linter.unusedSimpArgs false
set_option linter.unusedVariables false
set_option maxRecDepth 1000000
theorem sdOf_nil (bs : Nat) (u : Int) (user : ByteArray) (h : Hp) : Meets kon 56 [.pointer none, ptrV bs, .int .i64 u, .string user] h fun v h' => v = .tuple #[sdV noSd, .int .i64 1] ∧ Keep h h' := by
  unfold ptrV
  refine Meets.mk rfl (by kernel_rfl) Tryd.func56 rfl (congrArg Array.toList Tryd.results56) ?_
  repeat' (first | simp only [evr, nextP_norm, evd, evq, beq_self_eq_true, cond_true, cond_false, reduceIte, Nat.reduceEqDiff, Nat.reduceAdd, Int.reduceBNe, Int.reduceBEq, Int.reduceLT, Int.reduceLE, Int.reduceEq, evh, evp, Nat.reduceLeDiff, Nat.reduceSub, Nat.reduceBEq, typs] | refine kCond2_by (fun hc => ?_) (fun hc => ?_) <;> try simp only [hc] | refine kPick_by (fun hc => ?_) (fun hc => ?_) <;> try simp only [hc] | refine kWant_by (fun hc => ?_) (fun hc => ?_) <;> try simp only [hc])
  exact ⟨rfl, (Keep.push _ _).set (Nat.le_refl _)⟩
theorem one_access {s : ByteArray} {c : Bn} {l : List Tm} (hk : c.kind = 1) (hl : listMay l = true) : (oneT s c).access 0 s l = (oneT s { c with acl := l }, 0) := by
  unfold Hi.access
  rw [one_get]
  have hb : (oneT s c).br 0 = c := rfl
  simp only [hb, hk, hl]
  rfl
theorem one_ringed {s : ByteArray} {c : Bn} {b : Bk} (hk : c.kind = 1) (hb' : bkMay b = true) : (oneT s c).ringed 0 s b = (oneT s { c with b := b }, 0) := by
  unfold Hi.ringed
  rw [one_get]
  have hb : (oneT s c).br 0 = c := rfl
  simp only [hb, hk, hb']
  rfl
set_option maxHeartbeats 8000000 in
theorem sdwNow_true (f : Fl) (b : Bk) (off : UInt8) : Meets kon 17 [.agg #[.bool f.r, .bool f.w, .bool f.e], .agg #[.int .i64 b.r1, .int .i64 b.r2, .int .i64 b.r3, .int .i64 b.g], .int .u8 off.toNat] h0 fun v _ => v = .bool true := by
  refine Meets.mk rfl (by kernel_rfl) Tryd.func17 rfl (congrArg Array.toList Tryd.results17) ?_
  have aw := fun h => awake_call (f := 53) (by kernel_rfl) h
  repeat' (first | simp only [evr, nextP_norm, evd, evq, beq_self_eq_true, cond_true, cond_false, reduceIte, Nat.reduceEqDiff, Nat.reduceAdd, Int.reduceBNe, Int.reduceBEq, Int.reduceLT, Int.reduceLE, Int.reduceEq, evh, evp, Nat.reduceLeDiff, Nat.reduceSub, Nat.reduceBEq, typs, aw] | refine kCond2_by (fun hc => ?_) (fun hc => ?_) <;> try simp only [hc] | refine kPick_by (fun hc => ?_) (fun hc => ?_) <;> try simp only [hc] | refine kWant_by (fun hc => ?_) (fun hc => ?_) <;> try simp only [hc])
  generalize hh : Hp.push _ _ = h1
  have f1 : h1.get h0.next = some (obF f) := by rw [← hh, Hp.get_push_lt (Nat.lt_succ_self _)]; exact Hp.get_push_self _ _
  have b1 : h1.get (h0.next + 1) = some (obB b) := by rw [← hh]; exact Hp.get_push_self _ _
  have n1 : h1.next = h0.next + 2 := by rw [← hh]; rfl
  clear hh
  refine callP_meets (tNew_spec h1) ?_
  rintro _ h2 ⟨F, bt, rfl, k2, t2, fF⟩
  repeat' (first | simp only [evr, nextP_norm, evd, evq, beq_self_eq_true, cond_true, cond_false, reduceIte, Nat.reduceEqDiff, Nat.reduceAdd, Int.reduceBNe, Int.reduceBEq, Int.reduceLT, Int.reduceLE, Int.reduceEq, evh, evp, Nat.reduceLeDiff, Nat.reduceSub, Nat.reduceBEq, typs] | refine kCond2_by (fun hc => ?_) (fun hc => ?_) <;> try simp only [hc] | refine kPick_by (fun hc => ?_) (fun hc => ?_) <;> try simp only [hc] | refine kWant_by (fun hc => ?_) (fun hc => ?_) <;> try simp only [hc])
  refine callP_meets (sNew_spec 2000 h2) ?_
  rintro _ h3 ⟨G, bs, rfl, k3, s3, fG⟩
  have ep : ∀ b, ptrV b = .pointer (some ⟨b, 0, none⟩) := fun _ => rfl
  have x3 : TS h1.next h3 F G newHi ⟨max 2000 0, []⟩ bt bs := ⟨t2.keeps k3, s3, fun k hf hg => by have := t2.lt hf; have := fG k hg; omega, fF, fun k hg => Nat.le_trans k2.1 (fG k hg), Nat.le_trans k2.1 k3.1⟩
  have o3 : ∀ k, k < h1.next → h3.get k = h1.get k := fun k hk => (k2.trans k3).2 k hk
  have hmk : (⟨max 2000 0, []⟩ : Sto).make 9 = (⟨2000, [some (List.replicate 9 0)]⟩, 1, 0) := by rfl
  repeat' (first | simp only [evr, nextP_norm, evd, evq, beq_self_eq_true, cond_true, cond_false, reduceIte, Nat.reduceEqDiff, Nat.reduceAdd, Int.reduceBNe, Int.reduceBEq, Int.reduceLT, Int.reduceLE, Int.reduceEq, evh, evp, Nat.reduceLeDiff, Nat.reduceSub, Nat.reduceBEq, typs, ep bt, ep bs] | refine kCond2_by (fun hc => ?_) (fun hc => ?_) <;> try simp only [hc] | refine kPick_by (fun hc => ?_) (fun hc => ?_) <;> try simp only [hc] | refine kWant_by (fun hc => ?_) (fun hc => ?_) <;> try simp only [hc])
  refine callP_meets (sMake_spec x3.s 9 (by decide) (by decide)) ?_
  rintro _ h5 ⟨rfl, G', s5, u5⟩
  rw [hmk] at s5 ⊢
  obtain ⟨x5, o5⟩ := x3.sto u5 s5
  repeat' (first | simp only [evr, nextP_norm, evd, evq, beq_self_eq_true, cond_true, cond_false, reduceIte, Nat.reduceEqDiff, Nat.reduceAdd, Int.reduceBNe, Int.reduceBEq, Int.reduceLT, Int.reduceLE, Int.reduceEq, evh, evp, Nat.reduceLeDiff, Nat.reduceSub, Nat.reduceBEq, typs] | refine kCond2_by (fun hc => ?_) (fun hc => ?_) <;> try simp only [hc] | refine kPick_by (fun hc => ?_) (fun hc => ?_) <;> try simp only [hc] | refine kWant_by (fun hc => ?_) (fun hc => ?_) <;> try simp only [hc])
  refine callP_meets (tAdd_spec x5.t (by decide) (by decide) (b := ⟨1, 1, 0, ByteArray.empty, false, [], ⟨0, 0, 7, 0⟩⟩) (.inl ⟨rfl, rfl⟩) (by decide) 0 (ByteArray.mk #[97])) ?_
  have hadd := one_add (s := ByteArray.mk #[97]) (b := ⟨1, 1, 0, ByteArray.empty, false, [], ⟨0, 0, 7, 0⟩⟩) (by decide) rfl (Int.le_refl 1) rfl rfl
  rintro _ h7 ⟨rfl, F', t7, u7⟩
  rw [hadd] at t7 ⊢
  obtain ⟨x7, o7⟩ := x5.tree u7 t7
  have O7 : ∀ k, k < h1.next → h7.get k = h1.get k := fun k hk => (o7 k hk).trans ((o5 k hk).trans (o3 k hk))
  have f7 := (O7 _ (by omega)).trans f1
  have b7 := (O7 _ (by omega)).trans b1
  have q1 := rowOf_rw f7
  have q2 := rowOf_rw b7
  have hm := fun h => (refRingMayX b h).call
  unfold obB at hm
  cases hb : bkMay b with
  | false =>
    rw [hb] at hm
    repeat' (first | simp only [evr, nextP_norm, evd, evq, beq_self_eq_true, cond_true, cond_false, reduceIte, Nat.reduceEqDiff, Nat.reduceAdd, Int.reduceBNe, Int.reduceBEq, Int.reduceLT, Int.reduceLE, Int.reduceEq, evh, evp, Nat.reduceLeDiff, Nat.reduceSub, Nat.reduceBEq, typs, q2, hm] | refine kCond2_by (fun hc => ?_) (fun hc => ?_) <;> try simp only [hc] | refine kPick_by (fun hc => ?_) (fun hc => ?_) <;> try simp only [hc] | refine kWant_by (fun hc => ?_) (fun hc => ?_) <;> try simp only [hc])
  | true =>
    rw [hb] at hm
    repeat' (first | simp only [evr, nextP_norm, evd, evq, beq_self_eq_true, cond_true, cond_false, reduceIte, Nat.reduceEqDiff, Nat.reduceAdd, Int.reduceBNe, Int.reduceBEq, Int.reduceLT, Int.reduceLE, Int.reduceEq, evh, evp, Nat.reduceLeDiff, Nat.reduceSub, Nat.reduceBEq, typs, q2, hm] | refine kCond2_by (fun hc => ?_) (fun hc => ?_) <;> try simp only [hc] | refine kPick_by (fun hc => ?_) (fun hc => ?_) <;> try simp only [hc] | refine kWant_by (fun hc => ?_) (fun hc => ?_) <;> try simp only [hc])
    have x8 := x7.keeps (Keep.push h7 (obB b))
    have le7 := x7.le
    have O8 : ∀ k, k < h1.next → (h7.push (obB b)).get k = h1.get k := fun k hk => (Hp.get_push_lt (by omega)).trans (O7 k hk)
    refine callP_meets (sdOf_spec x8.t x8.s 1 (ByteArray.mk #[117])) ?_
    have hof : sdwOf (oneT (ByteArray.mk #[97]) ⟨1, 1, 0, ByteArray.empty, false, [], ⟨0, 0, 7, 0⟩⟩) ⟨2000, [some (List.replicate 9 0)]⟩ 1 (ByteArray.mk #[117]) = (⟨1, 9, noFl, ⟨0, 0, 7, 0⟩⟩, 0) := by
      rfl
    rw [hof]
    rintro _ h9 ⟨rfl, k9⟩
    have y9 := (x8.keeps k9).own
    have le9 : h1.next ≤ h9.next := (x8.keeps k9).le
    have O9 : ∀ k, k < h1.next → h9.get k = h1.get k := fun k hk => (k9.2 k (by rw [Hp.next_push]; omega)).trans (O8 k hk)
    have d9 : (h0.next = h9.next) = False := eq_false (by omega)
    unfold sdV
    repeat' (first | simp only [evr, nextP_norm, evd, evq, beq_self_eq_true, cond_true, cond_false, reduceIte, Nat.reduceEqDiff, Nat.reduceAdd, Int.reduceBNe, Int.reduceBEq, Int.reduceLT, Int.reduceLE, Int.reduceEq, evh, evp, Nat.reduceLeDiff, Nat.reduceSub, Nat.reduceBEq, typs, rowOf_rw ((O9 _ (by omega)).trans f1), d9, if_false] | refine kCond2_by (fun hc => ?_) (fun hc => ?_) <;> try simp only [hc] | refine kPick_by (fun hc => ?_) (fun hc => ?_) <;> try simp only [hc] | refine kWant_by (fun hc => ?_) (fun hc => ?_) <;> try simp only [hc])
    generalize hh : Hp.set _ h9.next _ = hA
    have kA : Keep h9 hA := by rw [← hh]; exact (Keep.push _ _).set (Nat.le_refl _)
    have nA : hA.next = h9.next + 1 := by rw [← hh]; rfl
    have gA : hA.get h9.next = some (.row (sdC ⟨1, 9, noFl, ⟨0, 0, 7, 0⟩⟩) 86 (.rw 0 [])) := by rw [← hh]; exact Hp.get_set_self _ _ _
    have OA : ∀ k, k < h1.next → hA.get k = h1.get k := fun k hk => (kA.2 k (by omega)).trans (O9 k hk)
    clear hh
    have yA := y9.more kA (b := h9.next) (Nat.le_refl _) (by omega)
    generalize hh : hA.push _ = hB
    have kB : Keep hA hB := by rw [← hh]; exact Keep.push _ _
    have hsl : TmSl hB (.slice (some ⟨hA.next, 0, none⟩) 1 2) [⟨ByteArray.mk #[117], f⟩] := by rw [← hh]; exact tm_new (t := ⟨ByteArray.mk #[117], f⟩) (Nat.lt_succ_self _) (Hp.get_push_self _ _)
    clear hh
    rw [nA] at hsl
    have yB := yA.keeps kB
    have LB : ∀ k, (k < h1.next ∨ k = h9.next) → hB.get k = hA.get k := fun k hk => kB.2 k (yA.lt k hk)
    refine callP_meets (tAccess_spec yB.t 0 (ByteArray.mk #[97]) hsl (by show 1 ≤ 1000000000; omega)) ?_
    rw [one_access rfl (by rfl)]
    rintro _ h10 ⟨rfl, F2, t10, u10⟩
    obtain ⟨y10, o10⟩ := yB.tree u10 t10
    have L10 : ∀ k, (k < h1.next ∨ k = h9.next) → h10.get k = hA.get k := fun k hk => (o10 k hk).trans (LB k hk)
    have b10 := (L10 _ (.inl (by omega))).trans ((OA _ (by omega)).trans b1)
    unfold obB at b10
    repeat' (first | simp only [evr, nextP_norm, evd, evq, beq_self_eq_true, cond_true, cond_false, reduceIte, Nat.reduceEqDiff, Nat.reduceAdd, Int.reduceBNe, Int.reduceBEq, Int.reduceLT, Int.reduceLE, Int.reduceEq, evh, evp, Nat.reduceLeDiff, Nat.reduceSub, Nat.reduceBEq, typs, rowOf_rw b10] | refine kCond2_by (fun hc => ?_) (fun hc => ?_) <;> try simp only [hc] | refine kPick_by (fun hc => ?_) (fun hc => ?_) <;> try simp only [hc] | refine kWant_by (fun hc => ?_) (fun hc => ?_) <;> try simp only [hc])
    refine callP_meets (tRinged_spec y10.t 0 (ByteArray.mk #[97]) b) ?_
    rw [one_ringed rfl hb]
    rintro _ h11 ⟨rfl, F3, t11, u11⟩
    obtain ⟨y11, o11⟩ := y10.tree u11 t11
    have n0 := off.toNat_lt
    have wn : IntKind.i64.wrap (off.toNat : Int) = (off.toNat : Int) := wrap64 (by omega) (by omega)
    have r30 : (off.toNat : Int).tmod 30 = ((off.toNat % 30 : Nat) : Int) := by rw [Int.tmod_eq_emod_of_nonneg (by omega)]; omega
    generalize hk : off.toNat % 30 = n at r30
    have hn : n ≤ 29 := by omega
    repeat' (first | simp only [evr, nextP_norm, evd, evq, beq_self_eq_true, cond_true, cond_false, reduceIte, Nat.reduceEqDiff, Nat.reduceAdd, Int.reduceBNe, Int.reduceBEq, Int.reduceLT, Int.reduceLE, Int.reduceEq, evh, evp, Nat.reduceLeDiff, Nat.reduceSub, Nat.reduceBEq, typs, wn, evBin_rem (b := 30) (by decide), r30] | refine kCond2_by (fun hc => ?_) (fun hc => ?_) <;> try simp only [hc] | refine kPick_by (fun hc => ?_) (fun hc => ?_) <;> try simp only [hc] | refine kWant_by (fun hc => ?_) (fun hc => ?_) <;> try simp only [hc])
    have hrz : (⟨2000, [some (List.replicate 9 0)]⟩ : Sto).resize 1 n = (⟨2000, [some (Sto.resizeL (List.replicate 9 0) n)]⟩, 0) := by
      have hm : (⟨2000, [some (List.replicate 9 0)]⟩ : Sto).mayE n 9 = 0 := by
        unfold Sto.mayE
        have : (⟨2000, [some (List.replicate 9 0)]⟩ : Sto).used = 9 := rfl
        rw [this, if_neg (by omega), if_neg (by show ¬ ((2000 : Int) - n < ((9 : Nat) : Int) - 9); omega)]
      show (if (⟨2000, [some (List.replicate 9 0)]⟩ : Sto).mayE n 9 = 0 then _ else _) = _
      rw [if_pos hm]; rfl
    refine callP_meets (sResize_spec y11.s 1 n (by decide)) ?_
    rw [hrz]
    rintro _ h12 ⟨rfl, G2, s12, u12⟩
    obtain ⟨y12, o12⟩ := y11.sto u12 s12
    repeat' (first | simp only [evr, nextP_norm, evd, evq, beq_self_eq_true, cond_true, cond_false, reduceIte, Nat.reduceEqDiff, Nat.reduceAdd, Int.reduceBNe, Int.reduceBEq, Int.reduceLT, Int.reduceLE, Int.reduceEq, evh, evp, Nat.reduceLeDiff, Nat.reduceSub, Nat.reduceBEq, typs] | refine kCond2_by (fun hc => ?_) (fun hc => ?_) <;> try simp only [hc] | refine kPick_by (fun hc => ?_) (fun hc => ?_) <;> try simp only [hc] | refine kWant_by (fun hc => ?_) (fun hc => ?_) <;> try simp only [hc])
    refine callP_meets (sdOf_spec y12.t y12.s 1 (ByteArray.mk #[117])) ?_
    have hof2 : sdwOf (oneT (ByteArray.mk #[97]) ⟨1, 1, 0, ByteArray.empty, false, [⟨ByteArray.mk #[117], f⟩], b⟩) ⟨2000, [some (Sto.resizeL (List.replicate 9 0) n)]⟩ 1 (ByteArray.mk #[117]) = (⟨1, n, f, b⟩, 0) := by
      unfold sdwOf
      rw [one_uid (c := ⟨1, 1, 0, ByteArray.empty, false, [⟨ByteArray.mk #[117], f⟩], b⟩) rfl]
      have hr : (⟨2000, [some (Sto.resizeL (List.replicate 9 0) n)]⟩ : Sto).room 1 = some (Sto.resizeL (List.replicate 9 0) n) := rfl
      rw [hr]
      simp only [Sto.resizeL_len, Bool.false_eq_true, if_false]
      rw [find_user f _ (by rfl)]
    rw [hof2]
    rintro _ h13 ⟨rfl, k13⟩
    have y13 := y12.keeps k13
    unfold sdV
    repeat' (first | simp only [evr, nextP_norm, evd, evq, beq_self_eq_true, cond_true, cond_false, reduceIte, Nat.reduceEqDiff, Nat.reduceAdd, Int.reduceBNe, Int.reduceBEq, Int.reduceLT, Int.reduceLE, Int.reduceEq, evh, evp, Nat.reduceLeDiff, Nat.reduceSub, Nat.reduceBEq, typs] | refine kCond2_by (fun hc => ?_) (fun hc => ?_) <;> try simp only [hc] | refine kPick_by (fun hc => ?_) (fun hc => ?_) <;> try simp only [hc] | refine kWant_by (fun hc => ?_) (fun hc => ?_) <;> try simp only [hc])
    generalize hh : Hp.set _ h13.next _ = hC
    have kC : Keep h13 hC := by rw [← hh]; exact (Keep.push _ _).set (Nat.le_refl _)
    have nC : hC.next = h13.next + 1 := by rw [← hh]; rfl
    have gC : hC.get h13.next = some (.row (sdC ⟨1, n, f, b⟩) 86 (.rw 0 [])) := by rw [← hh]; exact Hp.get_set_self _ _ _
    clear hh
    have yC := y13.more kC (b := h13.next) (Nat.le_refl _) (by omega)
    have hdr : (⟨2000, [some (Sto.resizeL (List.replicate 9 0) n)]⟩ : Sto).drop 1 = (⟨2000, [none]⟩, 0) := rfl
    refine callP_meets (sDrop_spec yC.s 1 (by show (2000 : Int) ≤ _; decide)) ?_
    rw [hdr]
    rintro _ h14 ⟨rfl, G3, s14, u14⟩
    obtain ⟨y14, o14⟩ := yC.sto u14 s14
    repeat' (first | simp only [evr, nextP_norm, evd, evq, beq_self_eq_true, cond_true, cond_false, reduceIte, Nat.reduceEqDiff, Nat.reduceAdd, Int.reduceBNe, Int.reduceBEq, Int.reduceLT, Int.reduceLE, Int.reduceEq, evh, evp, Nat.reduceLeDiff, Nat.reduceSub, Nat.reduceBEq, typs] | refine kCond2_by (fun hc => ?_) (fun hc => ?_) <;> try simp only [hc] | refine kPick_by (fun hc => ?_) (fun hc => ?_) <;> try simp only [hc] | refine kWant_by (fun hc => ?_) (fun hc => ?_) <;> try simp only [hc])
    refine callP_meets (sdOf_spec y14.t y14.s 1 (ByteArray.mk #[117])) ?_
    have hof3 : sdwOf (oneT (ByteArray.mk #[97]) ⟨1, 1, 0, ByteArray.empty, false, [⟨ByteArray.mk #[117], f⟩], b⟩) ⟨2000, [none]⟩ 1 (ByteArray.mk #[117]) = (noSd, 4) := by
      unfold sdwOf
      rw [one_uid (c := ⟨1, 1, 0, ByteArray.empty, false, [⟨ByteArray.mk #[117], f⟩], b⟩) rfl]
      rfl
    rw [hof3]
    rintro _ h15 ⟨rfl, k15⟩
    have y15 := y14.keeps k15
    unfold sdV noSd
    repeat' (first | simp only [evr, nextP_norm, evd, evq, beq_self_eq_true, cond_true, cond_false, reduceIte, Nat.reduceEqDiff, Nat.reduceAdd, Int.reduceBNe, Int.reduceBEq, Int.reduceLT, Int.reduceLE, Int.reduceEq, evh, evp, Nat.reduceLeDiff, Nat.reduceSub, Nat.reduceBEq, typs] | refine kCond2_by (fun hc => ?_) (fun hc => ?_) <;> try simp only [hc] | refine kPick_by (fun hc => ?_) (fun hc => ?_) <;> try simp only [hc] | refine kWant_by (fun hc => ?_) (fun hc => ?_) <;> try simp only [hc])
    generalize hh : Hp.set _ h15.next _ = hD
    have kD : Keep h15 hD := by rw [← hh]; exact (Keep.push _ _).set (Nat.le_refl _)
    clear hh
    have yD := y15.keeps kD
    refine callP_meets (sdOf_nil bs 1 (ByteArray.mk #[117]) hD) ?_
    rintro _ h16 ⟨rfl, k16⟩
    unfold sdV noSd
    have y16 := yD.keeps k16
    have LL : ∀ k, ((k < h1.next ∨ k = h9.next) ∨ k = h13.next) → h16.get k = hC.get k := fun k hk =>
      (k16.2 k (yD.lt k hk)).trans ((kD.2 k (y15.lt k hk)).trans ((k15.2 k (y14.lt k hk)).trans (o14 k hk)))
    have L2 : ∀ k, (k < h1.next ∨ k = h9.next) → hC.get k = hA.get k := fun k hk =>
      (kC.2 k (y13.lt k hk)).trans ((k13.2 k (y12.lt k hk)).trans ((o12 k hk).trans ((o11 k hk).trans (L10 k hk))))
    have r3 := rowOf_rw ((LL _ (.inl (.inl (by omega)))).trans ((L2 _ (.inl (by omega))).trans ((OA _ (by omega)).trans f1)))
    have r4 := rowOf_rw ((LL _ (.inl (.inl (by omega)))).trans ((L2 _ (.inl (by omega))).trans ((OA _ (by omega)).trans b1)))
    have r13 := rowOf_rw ((LL _ (.inl (.inr rfl))).trans ((L2 _ (.inr rfl)).trans gA))
    have r18 := rowOf_rw ((LL _ (.inr rfl)).trans gC)
    have e1 : (h0.next = h16.next) = False := eq_false (by have := y16.lt h0.next (.inl (.inl (by omega))); omega)
    have e2 : (h0.next + 1 = h16.next) = False := eq_false (by have := y16.lt (h0.next + 1) (.inl (.inl (by omega))); omega)
    have e3 : (h9.next = h16.next) = False := eq_false (by have := y16.lt h9.next (.inl (.inr rfl)); omega)
    have e4 : (h13.next = h16.next) = False := eq_false (by have := y16.lt h13.next (.inr rfl); omega)
    unfold sdC noFl at r13
    unfold sdC at r18
    have v1 : ∀ xo yo, evBin kon.P .eql 62 xo yo (.agg #[.bool false, .bool false, .bool false]) (.agg #[.bool false, .bool false, .bool false]) = some (.bool true) := fun xo yo => (evFl noFl noFl xo yo).1
    have v2 : ∀ xo yo, evBin kon.P .eql 62 xo yo (.agg #[.bool f.r, .bool f.w, .bool f.e]) (.agg #[.bool f.r, .bool f.w, .bool f.e]) = some (.bool true) := fun xo yo => by rw [(evFl f f xo yo).1]; simp
    have v3 : ∀ xo yo, evBin kon.P .eql 39 xo yo (.agg #[.int .i64 b.r1, .int .i64 b.r2, .int .i64 b.r3, .int .i64 b.g]) (.agg #[.int .i64 b.r1, .int .i64 b.r2, .int .i64 b.r3, .int .i64 b.g]) = some (.bool true) := fun xo yo => by rw [(evBk b b xo yo).1]; simp
    repeat' (first | simp only [evr, nextP_norm, evd, evq, beq_self_eq_true, cond_true, cond_false, reduceIte, Nat.reduceEqDiff, Nat.reduceAdd, Int.reduceBNe, Int.reduceBEq, Int.reduceLT, Int.reduceLE, Int.reduceEq, evh, evp, Nat.reduceLeDiff, Nat.reduceSub, Nat.reduceBEq, typs, r3, r4, r13, r18, e1, e2, e3, e4, if_false, v1, v2, v3, wn, evBin_rem (b := 30) (by decide), r30] | refine kCond2_by (fun hc => ?_) (fun hc => ?_) <;> try simp only [hc] | refine kPick_by (fun hc => ?_) (fun hc => ?_) <;> try simp only [hc] | refine kWant_by (fun hc => ?_) (fun hc => ?_) <;> try simp only [hc])
theorem sdwNow_law (W : World) (h : W.ShapedOpen Tryd.prog) {base : Nat} {v0 v1 v2 : Value} (o0 : Value.okWide Tryd.prog W .any base 62 v0) (r0 : RdT Tryd.prog W 62 v0.cells.toList)
    (o1 : Value.okWide Tryd.prog W .any base 39 v1) (r1 : RdT Tryd.prog W 39 v1.cells.toList) (o2 : Value.okWide Tryd.prog W .any base 5 v2) (r2 : RdT Tryd.prog W 5 v2.cells.toList) :
    Calls Tryd.prog 17 #[v0, v1, v2] W fun e w' => e = .returned (.bool true) ∧ Below W.heap.size W w' := by
  obtain ⟨f, rfl⟩ := rdFlags r0 o0
  obtain ⟨b, rfl⟩ := rdBk r1 o1
  obtain ⟨c, rfl⟩ := rdU8 r2 o2
  exact closed_meets (kon_from0 h) kon_mix (args := [_, _, _]) (by rfl) (sdwNow_true f b c)
end Go.Proofs.YtncmgiddcefpcaaDoor
