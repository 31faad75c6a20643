/- Texts joined: what the claim needs of them. No condition. -/
import Derived.Test.YtojcfpgapfceiaaDoorBin7
import Derived.Test.YtojcfpgapfceiaaDoorBin5
namespace Go.Proofs.YtojcfpgapfceiaaDoor
open Go Go.Ev Go.RowKit Go.Con
set_option linter.unusedSimpArgs false
set_option linter.unusedVariables false
set_option maxRecDepth 1000000
theorem TL.setOwn {L : Nat → Prop} {h : Hp} {F G : Nat → Prop} {T : Hi} {S : Sto} {bt bs : Nat} (x : TL L h F G T S bt bs) {b : Nat} (hb : L b) (o : Ob) : TL L (h.set b o) F G T S bt bs :=
  ⟨x.t.keep (Nat.le_refl _) fun k hk => Hp.get_set_ne (by rintro rfl; exact x.nF k hb hk), x.s.keep (Nat.le_refl _) fun k hk => Hp.get_set_ne (by rintro rfl; exact x.nG k hb hk), x.dj, x.nF, x.nG, x.lt⟩
theorem make_ok {n : Int} (h0 : 0 ≤ n) (h1 : n < 20) : (⟨max 2000 0, []⟩ : Sto).make n = (⟨2000, [some (List.replicate n.toNat 0)]⟩, 1, 0) := by
  unfold Sto.make
  have : (⟨max 2000 0, []⟩ : Sto).mayE n 0 = 0 := by
    unfold Sto.mayE
    rw [if_neg (by omega), if_neg (by simp [Sto.used]; omega)]
  rw [if_pos this]; rfl
theorem and3 (n : Int) : ∃ k : Nat, k < 4 ∧ ∀ xo yo, evBin kon.P .and 3 xo yo (.int .i64 n) (.int .i64 3) = some (.int .i64 (k : Int)) := by
  have hlt : (BitVec.ofInt 64 n &&& BitVec.ofInt 64 3).toNat < 4 := by
    rw [BitVec.toNat_and]
    have : (BitVec.ofInt 64 3).toNat = 3 := by decide
    rw [this]
    exact Nat.lt_of_le_of_lt Nat.and_le_right (by decide)
  refine ⟨(BitVec.ofInt 64 n &&& BitVec.ofInt 64 3).toNat, hlt, fun xo yo => ?_⟩
  rw [evBin_int]
  have w : IntKind.i64.wrap (((BitVec.ofInt 64 n &&& BitVec.ofInt 64 3).toNat : Nat) : Int) = (((BitVec.ofInt 64 n &&& BitVec.ofInt 64 3).toNat : Nat) : Int) := wrap64 (by omega) (by omega)
  have : prunS kon.P (binOp .and 3 (.int .i64 n) (.int .i64 3)) = some (.int .i64 (IntKind.i64.wrap (((BitVec.ofInt 64 n &&& BitVec.ofInt 64 3).toNat : Nat) : Int))) := rfl
  rw [this, w]
set_option maxHeartbeats 8000000 in
theorem sdwOf_true {h : Hp} {b : Bn} {sl : Value} (hs : TmSl h sl b.acl) (c : UInt8) (n0 n1 n2 : Int) : Meets kon 3 [.agg (bnC b sl).toArray, .int .u8 c.toNat, .agg #[.int .i64 n0, .int .i64 n1, .int .i64 n2]] h fun v _ => v = .bool true := by
  have aw := fun h => awake_call (f := 4) (by kernel_rfl) h
  have cc : isCell sl = true ∧ sl.cells = #[sl] := by rcases hs with ⟨rfl, _⟩ | ⟨b, o, k, c, all, rfl, _⟩ <;> exact ⟨rfl, rfl⟩
  obtain ⟨c1, c2⟩ := cc
  unfold bnC
  refine Meets.mk rfl (by kernel_rfl) Tryd.func3 rfl (congrArg Array.toList Tryd.results3) ?_
  simp only [evr, evd, evq, beq_self_eq_true, cond_true, cond_false, reduceIte, Nat.reduceEqDiff, Nat.reduceAdd, Int.reduceBNe, Int.reduceBEq, Int.reduceLT, Int.reduceLE, Int.reduceEq, evh, evp, Nat.reduceLeDiff, Nat.reduceSub, Nat.reduceBEq, typs, c1, c2]
  rw [nextP_norm]
  generalize hh : Hp.push _ _ = H0
  have gb : H0.get h.next = some (.row (bnC b sl) 26 (.rw 0 [])) := by rw [← hh, Hp.get_push_lt (by simp only [Hp.next_push]; omega), Hp.get_push_lt (by simp only [Hp.next_push]; omega)]; exact Hp.get_push_self _ _
  have gc : H0.get (h.next + 1) = some (.row [.int .u8 c.toNat] 5 (.rw 0 [])) := by rw [← hh, Hp.get_push_lt (by simp only [Hp.next_push]; omega)]; exact Hp.get_push_self (h.push _) _
  have gn : H0.get (h.next + 2) = some (.row [.int .i64 n0, .int .i64 n1, .int .i64 n2] 27 (.rw 0 [])) := by rw [← hh]; exact Hp.get_push_self ((h.push _).push _) _
  have k0 : Keep h H0 := by rw [← hh]; exact ((Keep.push _ _).pushed).pushed
  have m0 : H0.next = h.next + 3 := by rw [← hh]; rfl
  clear hh
  repeat' (first | simp only [evr, nextP_norm, evd, evq, beq_self_eq_true, cond_true, cond_false, reduceIte, Nat.reduceEqDiff, Nat.reduceAdd, Int.reduceBNe, Int.reduceBEq, Int.reduceLT, Int.reduceLE, Int.reduceEq, evh, evp, Nat.reduceLeDiff, Nat.reduceSub, Nat.reduceBEq, typs, aw] | refine kCond2_by (fun hc => ?_) (fun hc => ?_) <;> try simp only [hc] | refine kPick_by (fun hc => ?_) (fun hc => ?_) <;> try simp only [hc] | refine kWant_by (fun hc => ?_) (fun hc => ?_) <;> try simp only [hc])
  refine callP_meets (tNew_spec H0) ?_
  rintro _ h2 ⟨F, bt, rfl, k2, t2, fF⟩
  repeat' (first | simp only [evr, nextP_norm, evd, evq, beq_self_eq_true, cond_true, cond_false, reduceIte, Nat.reduceEqDiff, Nat.reduceAdd, Int.reduceBNe, Int.reduceBEq, Int.reduceLT, Int.reduceLE, Int.reduceEq, evh, evp, Nat.reduceLeDiff, Nat.reduceSub, Nat.reduceBEq, typs] | refine kCond2_by (fun hc => ?_) (fun hc => ?_) <;> try simp only [hc] | refine kPick_by (fun hc => ?_) (fun hc => ?_) <;> try simp only [hc] | refine kWant_by (fun hc => ?_) (fun hc => ?_) <;> try simp only [hc])
  refine callP_meets (sNew_spec 2000 h2) ?_
  rintro _ h3 ⟨G, bs, rfl, k3, s3, fG⟩
  have ep : ∀ b, ptrV b = .pointer (some ⟨b, 0, none⟩) := fun _ => rfl
  have en : ∀ n : Nat, (some (⟨n, 0, none⟩ : Addr) == none) = false := fun n => rfl
  have ens : ∀ n : Nat, (some (⟨n, 0, none⟩ : Addr) != none) = true := fun n => rfl
  have x3 : TS H0.next h3 F G newHi ⟨max 2000 0, []⟩ bt bs := ⟨t2.keeps k3, s3, fun k hf hg => by have := t2.lt hf; have := fG k hg; omega, fF, fun k hg => Nat.le_trans k2.1 (fG k hg), Nat.le_trans k2.1 k3.1⟩
  have o3 : ∀ k, k < H0.next → h3.get k = H0.get k := fun k hk => (k2.trans k3).2 k hk
  have hs0 := SlAt.keep hs k0
  have lac := TmSl.len hs
  have gb3 := (o3 _ (by omega)).trans gb
  have gc3 := (o3 _ (by omega)).trans gc
  have qb3 := rowOf_rw gb3
  have qc3 := rowOf_rw gc3
  unfold bnC at qb3
  by_cases h40 : 40 < b.acl.length
  · have f1 : decide ((40 : Int) < (b.acl.length : Int)) = true := decide_eq_true (by omega)
    repeat' (first | simp only [evr, nextP_norm, evd, evq, beq_self_eq_true, cond_true, cond_false, reduceIte, Nat.reduceEqDiff, Nat.reduceAdd, Int.reduceBNe, Int.reduceBEq, Int.reduceLT, Int.reduceLE, Int.reduceEq, evh, evp, Nat.reduceLeDiff, Nat.reduceSub, Nat.reduceBEq, typs, ep bt, ep bs, en, ens, qb3, lac, f1] | refine kCond2_by (fun hc => ?_) (fun hc => ?_) <;> try simp only [hc] | refine kPick_by (fun hc => ?_) (fun hc => ?_) <;> try simp only [hc] | refine kWant_by (fun hc => ?_) (fun hc => ?_) <;> try simp only [hc])
  have f1 : decide ((40 : Int) < (b.acl.length : Int)) = false := decide_eq_false (by omega)
  have cv : ∀ n : Int, prunS kon.P (convert 5 3 (.int .u8 n)) = some (.int .i64 (IntKind.i64.wrap n)) := by intro n; kernel_rfl
  have wc : IntKind.i64.wrap (c.toNat : Int) = (c.toNat : Int) := wrap64 (by omega) (by have := c.toNat_lt; omega)
  have rr : Int.tmod (c.toNat : Int) 20 = ((c.toNat % 20 : Nat) : Int) := by rw [Int.tmod_eq_emod_of_nonneg (by omega)]; omega
  have hn20 : c.toNat % 20 < 20 := Nat.mod_lt _ (by decide)
  repeat' (first | simp only [evr, nextP_norm, evd, evq, beq_self_eq_true, cond_true, cond_false, reduceIte, Nat.reduceEqDiff, Nat.reduceAdd, Int.reduceBNe, Int.reduceBEq, Int.reduceLT, Int.reduceLE, Int.reduceEq, evh, evp, Nat.reduceLeDiff, Nat.reduceSub, Nat.reduceBEq, typs, ep bt, ep bs, en, ens, qb3, lac, f1, qc3, cv, wc, evBin_rem (b := 20) (by decide), rr] | refine kCond2_by (fun hc => ?_) (fun hc => ?_) <;> try simp only [hc] | refine kPick_by (fun hc => ?_) (fun hc => ?_) <;> try simp only [hc] | refine kWant_by (fun hc => ?_) (fun hc => ?_) <;> try simp only [hc])
  have mk := sMake_spec x3.s ((c.toNat % 20 : Nat) : Int) (by decide) (by decide)
  unfold ptrV at mk
  refine callP_meets mk ?_
  rintro _ h5 ⟨rfl, G', s5, u5⟩
  rw [make_ok (by omega) (by omega)] at s5 ⊢
  obtain ⟨x5, o5⟩ := x3.sto u5 s5
  have O5 : ∀ k, k < H0.next → h5.get k = H0.get k := fun k hk => (o5 k hk).trans (o3 k hk)
  have gb5 := (O5 _ (by omega)).trans gb
  have qb5 := rowOf_rw gb5
  unfold bnC at qb5 gb5
  repeat' (first | simp only [evr, nextP_norm, evd, evq, beq_self_eq_true, cond_true, cond_false, reduceIte, Nat.reduceEqDiff, Nat.reduceAdd, Int.reduceBNe, Int.reduceBEq, Int.reduceLT, Int.reduceLE, Int.reduceEq, evh, evp, Nat.reduceLeDiff, Nat.reduceSub, Nat.reduceBEq, typs] | refine kCond2_by (fun hc => ?_) (fun hc => ?_) <;> try simp only [hc] | refine kPick_by (fun hc => ?_) (fun hc => ?_) <;> try simp only [hc] | refine kWant_by (fun hc => ?_) (fun hc => ?_) <;> try simp only [hc])
  simp only [evr, evd, evq, beq_self_eq_true, cond_true, cond_false, reduceIte, Nat.reduceEqDiff, Nat.reduceAdd, Int.reduceBNe, Int.reduceBEq, Int.reduceLT, Int.reduceLE, Int.reduceEq, evh, evp, Nat.reduceLeDiff, Nat.reduceSub, Nat.reduceBEq, typs, qb5, gb5, c1, c2]
  rw [nextP_norm]
  have x6 := (x5.own.setOwn (b := h.next) (by omega) (.row [.int .i64 1, .int .i64 b.uid, .int .i64 b.dir, .string b.link, .bool b.object, sl, .int .i64 b.b.r1, .int .i64 b.b.r2, .int .i64 b.b.r3, .int .i64 b.b.g] 26 (.rw 0 []))).setOwn (b := h.next) (by omega) (.row [.int .i64 1, .int .i64 1, .int .i64 b.dir, .string b.link, .bool b.object, sl, .int .i64 b.b.r1, .int .i64 b.b.r2, .int .i64 b.b.r3, .int .i64 b.b.g] 26 (.rw 0 []))
  generalize hh : Hp.set _ _ _ = H6 at x6 ⊢
  have g6 : H6.get h.next = some (.row [.int .i64 1, .int .i64 1, .int .i64 b.dir, .string b.link, .bool b.object, sl, .int .i64 b.b.r1, .int .i64 b.b.r2, .int .i64 b.b.r3, .int .i64 b.b.g] 26 (.rw 0 [])) := by rw [← hh]; exact Hp.get_set_self _ _ _
  have O6 : ∀ k, k < H0.next → k ≠ h.next → H6.get k = H0.get k := fun k hk hne => by rw [← hh, Hp.get_set_ne hne, Hp.get_set_ne hne]; exact O5 k hk
  clear hh
  have le5 := x5.le
  have q6 := rowOf_rw g6
  -- the access list is older than all
  have hsL : ∀ {H' : Hp}, h.next ≤ H'.next → (∀ k, k < h.next → H'.get k = h.get k) → TmSl H' sl b.acl := fun hn he => SlAt.keep hs ⟨hn, he⟩
  have O6h : ∀ k, k < h.next → H6.get k = h.get k := fun k hk => (O6 k (by omega) (by omega)).trans (k0.2 k hk)
  have n6 : h.next ≤ H6.next := by have := x6.lt h.next (by omega); omega
  have eb : evBuild kon.P 37 [(0, .int .i64 1), (1, .int .i64 1), (4, .bool b.object), (5, sl), (6, .agg #[.int .i64 b.b.r1, .int .i64 b.b.r2, .int .i64 b.b.r3, .int .i64 b.b.g])] =
      some (.agg #[.int .i64 1, .int .i64 1, .int .i64 0, .string ByteArray.empty, .bool b.object, sl, .int .i64 b.b.r1, .int .i64 b.b.r2, .int .i64 b.b.r3, .int .i64 b.b.g]) := by
    rcases id hs with ⟨rfl, _⟩ | ⟨b, o, k, c, all, rfl, _⟩ <;> kernel_rfl
  repeat' (first | simp only [evr, nextP_norm, evd, evq, beq_self_eq_true, cond_true, cond_false, reduceIte, Nat.reduceEqDiff, Nat.reduceAdd, Int.reduceBNe, Int.reduceBEq, Int.reduceLT, Int.reduceLE, Int.reduceEq, evh, evp, Nat.reduceLeDiff, Nat.reduceSub, Nat.reduceBEq, typs, q6, eb] | refine kCond2_by (fun hc => ?_) (fun hc => ?_) <;> try simp only [hc] | refine kPick_by (fun hc => ?_) (fun hc => ?_) <;> try simp only [hc] | refine kWant_by (fun hc => ?_) (fun hc => ?_) <;> try simp only [hc])
  have ad := tAdd_spec x6.t (by decide) (by decide) (b := ⟨1, 1, 0, ByteArray.empty, b.object, b.acl, b.b⟩) (hsL n6 O6h) (show b.acl.length ≤ 1000000000 by omega) 0 (ByteArray.mk #[97])
  unfold ptrV bnC at ad
  refine callP_meets ad ?_
  rintro _ h7 ⟨rfl, F', t7, u7⟩
  obtain ⟨x7, o7⟩ := x6.tree u7 t7
  have n7 := u7.next
  by_cases hv : listMay b.acl = true ∧ bkMay b.b = true
  · rw [one_add (s := ByteArray.mk #[97]) (b := ⟨1, 1, 0, ByteArray.empty, b.object, b.acl, b.b⟩) (by decide) rfl (Int.le_refl 1) hv.1 hv.2] at x7 ⊢
    repeat' (first | simp only [evr, nextP_norm, evd, evq, beq_self_eq_true, cond_true, cond_false, reduceIte, Nat.reduceEqDiff, Nat.reduceAdd, Int.reduceBNe, Int.reduceBEq, Int.reduceLT, Int.reduceLE, Int.reduceEq, evh, evp, Nat.reduceLeDiff, Nat.reduceSub, Nat.reduceBEq, typs] | refine kCond2_by (fun hc => ?_) (fun hc => ?_) <;> try simp only [hc] | refine kPick_by (fun hc => ?_) (fun hc => ?_) <;> try simp only [hc] | refine kWant_by (fun hc => ?_) (fun hc => ?_) <;> try simp only [hc])
    have O7 : ∀ k, k < H0.next → k ≠ h.next → h7.get k = H0.get k := fun k hk hne => (o7 k hk).trans (O6 k hk hne)
    have g7 := (o7 h.next (by omega)).trans g6
    have q7 := rowOf_rw g7
    have gc7 := (O7 (h.next + 1) (by omega) (by omega)).trans gc
    have gn7 := (O7 (h.next + 2) (by omega) (by omega)).trans gn
    have qn7 := rowOf_rw gn7
    have n67 : H0.next ≤ h7.next := by have := x7.lt (h.next + 2) (by omega); omega
    obtain ⟨kk, hk4, han⟩ := and3 n0
    have ia : ∀ b o, evIndexAddr kon.P 27 (.pointer (some ⟨b, o, none⟩)) (.int .i64 0) = some (.pointer (some ⟨b, o, none⟩)) ∧ evIndexAddr kon.P 27 (.pointer (some ⟨b, o, none⟩)) (.int .i64 1) = some (.pointer (some ⟨b, o + 1, none⟩)) ∧ evIndexAddr kon.P 27 (.pointer (some ⟨b, o, none⟩)) (.int .i64 2) = some (.pointer (some ⟨b, o + 2, none⟩)) := fun b o => ⟨by kernel_rfl, by kernel_rfl, by kernel_rfl⟩
    have ia0 := fun b o => (ia b o).1
    have ia1 := fun b o => (ia b o).2.1
    have ia2 := fun b o => (ia b o).2.2
    obtain ⟨user, hus⟩ : ∃ u : ByteArray, ([.string ⟨#[117]⟩, .string ⟨#[118]⟩, .string ⟨#[42]⟩, .string ⟨#[113]⟩] : List Value)[kk]? = some (.string u) := by
      rcases (show kk = 0 ∨ kk = 1 ∨ kk = 2 ∨ kk = 3 by omega) with rfl | rfl | rfl | rfl <;> exact ⟨_, rfl⟩
    have ix := L_indexAddr (C := kon) (t := 44) (e := 9) (n := 1) (by kernel_rfl) (by kernel_rfl) h7.next 0 4 (2 * 4) .i64 kk (by omega) (by omega)
    simp only [Int.toNat_natCast, Nat.zero_add, Nat.mul_one] at ix
    have dn2 : (h.next + 2 = h7.next) = False := eq_false (by omega)
    repeat' (first | simp only [evr, nextP_norm, evd, evq, beq_self_eq_true, cond_true, cond_false, reduceIte, Nat.reduceEqDiff, Nat.reduceAdd, Int.reduceBNe, Int.reduceBEq, Int.reduceLT, Int.reduceLE, Int.reduceEq, evh, evp, Nat.reduceLeDiff, Nat.reduceSub, Nat.reduceBEq, typs] | refine kCond2_by (fun hc => ?_) (fun hc => ?_) <;> try simp only [hc] | refine kPick_by (fun hc => ?_) (fun hc => ?_) <;> try simp only [hc] | refine kWant_by (fun hc => ?_) (fun hc => ?_) <;> try simp only [hc])
    simp only [evr, evd, evq, beq_self_eq_true, cond_true, cond_false, reduceIte, Nat.reduceEqDiff, Nat.reduceAdd, Int.reduceBNe, Int.reduceBEq, Int.reduceLT, Int.reduceLE, Int.reduceEq, evh, evp, Nat.reduceLeDiff, Nat.reduceSub, Nat.reduceBEq, typs, ia0, qn7, dn2, if_false, han, ix, hus]
    rw [nextP_norm]
    generalize hh : Hp.push h7 _ = h8
    have k8 : Keep h7 h8 := by rw [← hh]; exact Keep.push _ _
    clear hh
    have x8 := x7.keeps k8
    have n8 := k8.1
    have q8 := rowOf_rw ((k8.2 _ (by omega)).trans g7)
    repeat' (first | simp only [evr, nextP_norm, evd, evq, beq_self_eq_true, cond_true, cond_false, reduceIte, Nat.reduceEqDiff, Nat.reduceAdd, Int.reduceBNe, Int.reduceBEq, Int.reduceLT, Int.reduceLE, Int.reduceEq, evh, evp, Nat.reduceLeDiff, Nat.reduceSub, Nat.reduceBEq, typs, q8] | refine kCond2_by (fun hc => ?_) (fun hc => ?_) <;> try simp only [hc] | refine kPick_by (fun hc => ?_) (fun hc => ?_) <;> try simp only [hc] | refine kWant_by (fun hc => ?_) (fun hc => ?_) <;> try simp only [hc])
    refine callP_meets (refFind_spec (hsL (H' := h8) (by omega) fun k hk => (k8.2 k (by omega)).trans ((O7 k (by omega) (by omega)).trans (k0.2 k hk))) (by omega) user) ?_
    rintro _ h9 ⟨rfl, k9⟩
    have x9 := x8.keeps k9
    have n9 := k9.1
    unfold flV
    generalize hF : findF b.acl user = Fl0
    simp only [evr, evd, evq, beq_self_eq_true, cond_true, cond_false, reduceIte, Nat.reduceEqDiff, Nat.reduceAdd, Int.reduceBNe, Int.reduceBEq, Int.reduceLT, Int.reduceLE, Int.reduceEq, evh, evp, Nat.reduceLeDiff, Nat.reduceSub, Nat.reduceBEq, typs]
    rw [nextP_norm]
    generalize hh : Hp.set _ _ _ = h10
    have k10 : Keep h9 h10 := by rw [← hh]; exact (Keep.push _ _).set (Nat.le_refl _)
    have n10 : h10.next = h9.next + 1 := by rw [← hh]; rfl
    have g16 : h10.get h9.next = some (.row [.bool Fl0.r, .bool Fl0.w, .bool Fl0.e] 39 (.rw 0 [])) := by rw [← hh]; exact Hp.get_set_self _ _ _
    clear hh
    have x10 := x9.more k10 (Nat.le_refl _) (by omega)
    have k710 := (k8.trans k9).trans k10
    have q10 := rowOf_rw ((k710.2 _ (by omega)).trans g7)
    have q16 := rowOf_rw g16
    have cmb : ∃ f : Fl, f = (if b.object then noW Fl0 else Fl0) := ⟨_, rfl⟩
    obtain ⟨f, hf⟩ := cmb
    rcases Bool.eq_false_or_eq_true b.object with ho | ho
    case' inl =>
      repeat' (first | simp only [evr, nextP_norm, evd, evq, beq_self_eq_true, cond_true, cond_false, reduceIte, Nat.reduceEqDiff, Nat.reduceAdd, Int.reduceBNe, Int.reduceBEq, Int.reduceLT, Int.reduceLE, Int.reduceEq, evh, evp, Nat.reduceLeDiff, Nat.reduceSub, Nat.reduceBEq, typs, q10, ho] | refine kCond2_by (fun hc => ?_) (fun hc => ?_) <;> try simp only [hc] | refine kPick_by (fun hc => ?_) (fun hc => ?_) <;> try simp only [hc] | refine kWant_by (fun hc => ?_) (fun hc => ?_) <;> try simp only [hc])
      simp only [evr, evd, evq, beq_self_eq_true, cond_true, cond_false, reduceIte, Nat.reduceEqDiff, Nat.reduceAdd, Int.reduceBNe, Int.reduceBEq, Int.reduceLT, Int.reduceLE, Int.reduceEq, evh, evp, Nat.reduceLeDiff, Nat.reduceSub, Nat.reduceBEq, typs, q16, g16]
      rw [nextP_norm]
      generalize hh : Hp.set _ _ _ = h11
      have x11 := x10.setOwn (b := h9.next) (.inr rfl) (.row [.bool f.r, .bool f.w, .bool f.e] 39 (.rw 0 []))
      have hf' : f = ⟨Fl0.r, false, Fl0.e⟩ := by rw [hf, ho]; rfl
      have e11 : h10.set h9.next (.row [.bool f.r, .bool f.w, .bool f.e] 39 (.rw 0 [])) = h11 := by rw [← hh, hf']
      rw [e11] at x11
      have g11 : h11.get h9.next = some (.row [.bool f.r, .bool f.w, .bool f.e] 39 (.rw 0 [])) := by rw [← e11]; exact Hp.get_set_self _ _ _
      have O11 : ∀ k, k < h7.next → h11.get k = h7.get k := fun k hk => by rw [← e11, Hp.get_set_ne (by omega)]; exact k710.2 k hk
      have n11 : h11.next = h9.next + 1 := by rw [← e11]; exact n10
      clear hh e11 hf'
    case' inr =>
      repeat' (first | simp only [evr, nextP_norm, evd, evq, beq_self_eq_true, cond_true, cond_false, reduceIte, Nat.reduceEqDiff, Nat.reduceAdd, Int.reduceBNe, Int.reduceBEq, Int.reduceLT, Int.reduceLE, Int.reduceEq, evh, evp, Nat.reduceLeDiff, Nat.reduceSub, Nat.reduceBEq, typs, q10, ho] | refine kCond2_by (fun hc => ?_) (fun hc => ?_) <;> try simp only [hc] | refine kPick_by (fun hc => ?_) (fun hc => ?_) <;> try simp only [hc] | refine kWant_by (fun hc => ?_) (fun hc => ?_) <;> try simp only [hc])
      have x11 := x10
      have g11 : h10.get h9.next = some (.row [.bool f.r, .bool f.w, .bool f.e] 39 (.rw 0 [])) := by rw [hf, ho]; exact g16
      have O11 : ∀ k, k < h7.next → h10.get k = h7.get k := k710.2
      have n11 : h10.next = h9.next + 1 := n10
      generalize h10 = h11 at x11 g11 O11 n11 ⊢
    all_goals
      have of := sdOf_spec x11.t x11.s 1 user
      unfold ptrV at of
      repeat' (first | simp only [evr, nextP_norm, evd, evq, beq_self_eq_true, cond_true, cond_false, reduceIte, Nat.reduceEqDiff, Nat.reduceAdd, Int.reduceBNe, Int.reduceBEq, Int.reduceLT, Int.reduceLE, Int.reduceEq, evh, evp, Nat.reduceLeDiff, Nat.reduceSub, Nat.reduceBEq, typs] | refine kCond2_by (fun hc => ?_) (fun hc => ?_) <;> try simp only [hc] | refine kPick_by (fun hc => ?_) (fun hc => ?_) <;> try simp only [hc] | refine kWant_by (fun hc => ?_) (fun hc => ?_) <;> try simp only [hc])
      refine callP_meets of ?_
      rintro _ h12 ⟨rfl, k12⟩
      have hof : sdwOf (oneT (ByteArray.mk #[97]) ⟨1, 1, 0, ByteArray.empty, b.object, b.acl, b.b⟩) ⟨2000, [some (List.replicate (((c.toNat % 20 : Nat) : Int)).toNat 0)]⟩ 1 user = (⟨1, ((c.toNat % 20 : Nat) : Int), f, b.b⟩, 0) := by
        unfold sdwOf
        have e1 : (oneT (ByteArray.mk #[97]) ⟨1, 1, 0, ByteArray.empty, b.object, b.acl, b.b⟩).byUID 1 = some ⟨1, 1, 0, ByteArray.empty, b.object, b.acl, b.b⟩ := one_uid (c := ⟨1, 1, 0, ByteArray.empty, b.object, b.acl, b.b⟩) rfl
        have e2 : (⟨2000, [some (List.replicate (((c.toNat % 20 : Nat) : Int)).toNat 0)]⟩ : Sto).room 1 = some (List.replicate (((c.toNat % 20 : Nat) : Int)).toNat 0) := rfl
        rw [e1, e2]
        simp only [List.length_replicate]
        rw [hf, hF, Int.toNat_natCast]
      rw [hof]
      generalize hx : (⟨1, ((c.toNat % 20 : Nat) : Int), f, b.b⟩ : Sd) = x
      have hxs : x.size = ((c.toNat % 20 : Nat) : Int) := by rw [← hx]
      have hxu : x.uid = 1 := by rw [← hx]
      have hxf : x.f = f := by rw [← hx]
      have hxb : x.b = b.b := by rw [← hx]
      have n12 := k12.1
      unfold sdV
      simp only [evr, evd, evq, beq_self_eq_true, cond_true, cond_false, reduceIte, Nat.reduceEqDiff, Nat.reduceAdd, Int.reduceBNe, Int.reduceBEq, Int.reduceLT, Int.reduceLE, Int.reduceEq, evh, evp, Nat.reduceLeDiff, Nat.reduceSub, Nat.reduceBEq, typs]
      rw [nextP_norm]
      generalize hh : Hp.set _ _ _ = h13
      have k13 : Keep h12 h13 := by rw [← hh]; exact (Keep.push _ _).set (Nat.le_refl _)
      have n13 : h13.next = h12.next + 1 := by rw [← hh]; rfl
      have g17 : h13.get h12.next = some (.row (sdC x) 41 (.rw 0 [])) := by rw [← hh]; exact Hp.get_set_self _ _ _
      clear hh
      have kA := k12.trans k13
      have K13 : ∀ k, k < h7.next → h13.get k = h7.get k := fun k hk => (kA.2 k (by omega)).trans (O11 k hk)
      have rb := rowOf_rw ((K13 h.next (by omega)).trans g7)
      have rc := rowOf_rw ((K13 (h.next + 1) (by omega)).trans gc7)
      have rn := rowOf_rw ((K13 (h.next + 2) (by omega)).trans gn7)
      have rf := rowOf_rw ((kA.2 _ (by omega)).trans g11)
      have rx := rowOf_rw g17
      unfold sdC at rx
      have v1 : ∀ xo yo, evBin kon.P .neq 39 xo yo (.agg #[.bool x.f.r, .bool x.f.w, .bool x.f.e]) (.agg #[.bool f.r, .bool f.w, .bool f.e]) = some (.bool false) := fun xo yo => by rw [hxf, (evFl f f xo yo).2]; simp
      have v2 : ∀ xo yo, evBin kon.P .neq 24 xo yo (.agg #[.int .i64 x.b.r1, .int .i64 x.b.r2, .int .i64 x.b.r3, .int .i64 x.b.g]) (.agg #[.int .i64 b.b.r1, .int .i64 b.b.r2, .int .i64 b.b.r3, .int .i64 b.b.g]) = some (.bool false) := fun xo yo => by rw [hxb, (evBk b.b b.b xo yo).2]; simp
      have fu : (x.uid != 1) = false := by simp [hxu]
      have fs : (x.size != ((c.toNat % 20 : Nat) : Int)) = false := by simp [hxs]
      repeat' (first | simp only [evr, nextP_norm, evd, evq, beq_self_eq_true, cond_true, cond_false, reduceIte, Nat.reduceEqDiff, Nat.reduceAdd, Int.reduceBNe, Int.reduceBEq, Int.reduceLT, Int.reduceLE, Int.reduceEq, evh, evp, Nat.reduceLeDiff, Nat.reduceSub, Nat.reduceBEq, typs, rb, rc, rn, rf, rx, v1, v2, fu, fs, cv, wc, evBin_rem (b := 20) (by decide), rr] | refine kCond2_by (fun hc => ?_) (fun hc => ?_) <;> try simp only [hc] | refine kPick_by (fun hc => ?_) (fun hc => ?_) <;> try simp only [hc] | refine kWant_by (fun hc => ?_) (fun hc => ?_) <;> try simp only [hc])
      refine Wp_drawE [0, 1, 0, 1, 2, 0, 4] (KR.mk (by kernel_rfl)) ?_
      have dn : (h.next + 2 = h13.next) = False := eq_false (by omega)
      simp only [evr, evd, evq, beq_self_eq_true, cond_true, cond_false, reduceIte, Nat.reduceEqDiff, Nat.reduceAdd, Int.reduceBNe, Int.reduceBEq, Int.reduceLT, Int.reduceLE, Int.reduceEq, evh, evp, Nat.reduceLeDiff, Nat.reduceSub, Nat.reduceBEq, typs, rn, ia1, ia2, dn, if_false]
      rw [nextP_norm]
      generalize hh : Hp.set _ _ _ = h14
      have k14 : Keep h13 h14 := by rw [← hh]; exact (Keep.push _ _).set (Nat.le_refl _)
      have n14 : h14.next = h13.next + 1 := by rw [← hh]; rfl
      have g20 : h14.get h13.next = some (.row [.int .i64 n2] 3 (.rw 0 [])) := by rw [← hh]; exact Hp.get_set_self _ _ _
      clear hh
      have kB := kA.trans k14
      have rf14 := (k14.row (by omega)).trans rf
      have rx14 := (k14.row (by omega)).trans rx
      have rc14 := (k14.row (by omega)).trans rc
      have rb14 := (k14.row (by omega)).trans rb
      have r20 := rowOf_rw g20
      repeat' (first | simp only [evr, nextP_norm, evd, evq, beq_self_eq_true, cond_true, cond_false, reduceIte, Nat.reduceEqDiff, Nat.reduceAdd, Int.reduceBNe, Int.reduceBEq, Int.reduceLT, Int.reduceLE, Int.reduceEq, evh, evp, Nat.reduceLeDiff, Nat.reduceSub, Nat.reduceBEq, typs, P_makeFunc, rx14, r20] | refine kCond2_by (fun hc => ?_) (fun hc => ?_) <;> try simp only [hc] | refine kPick_by (fun hc => ?_) (fun hc => ?_) <;> try simp only [hc] | refine kWant_by (fun hc => ?_) (fun hc => ?_) <;> try simp only [hc])
      have sc := sdCall_spec x n1 n2 h14
      unfold sdV at sc
      refine callP_meets sc ?_
      rintro _ h15 ⟨rfl, k15⟩
      have n15 := k15.1
      have rb15 := (k15.row (by omega)).trans rb14
      have rf15 := (k15.row (by omega)).trans rf14
      have r2015 := (k15.row (by omega)).trans r20
      have rx15 := (k15.row (by omega)).trans rx14
      have rc15 := (k15.row (by omega)).trans rc14
      repeat' (first | simp only [evr, nextP_norm, evd, evq, beq_self_eq_true, cond_true, cond_false, reduceIte, Nat.reduceEqDiff, Nat.reduceAdd, Int.reduceBNe, Int.reduceBEq, Int.reduceLT, Int.reduceLE, Int.reduceEq, evh, evp, Nat.reduceLeDiff, Nat.reduceSub, Nat.reduceBEq, typs, rb15, rf15, r2015] | refine kCond2_by (fun hc => ?_) (fun hc => ?_) <;> try simp only [hc] | refine kPick_by (fun hc => ?_) (fun hc => ?_) <;> try simp only [hc] | refine kWant_by (fun hc => ?_) (fun hc => ?_) <;> try simp only [hc])
      refine callP_meets (rCallX b.b f n1 n2 h15) ?_
      rintro _ h16 ⟨rfl, hq⟩
      have k16 : Keep h15 h16 := by rw [hq]; exact ((Keep.push _ _).pushed).pushed
      clear hq
      have n16 := k16.1
      have rb16 := (k16.row (by omega)).trans rb15
      have rf16 := (k16.row (by omega)).trans rf15
      have r2016 := (k16.row (by omega)).trans r2015
      have rx16 := (k16.row (by omega)).trans rx15
      have rc16 := (k16.row (by omega)).trans rc15
      have clo := fun e => (clos_spec (h := h16) (p1 := h13.next) (p2 := h.next + 1) (off := n2) (c := c) r2016 rc16 e x hxs).call
      have e25 : inE x (callE b.b f n1 n2).2 n2 = (x.call n1 n2).2 := by
        unfold Sd.call; rw [hxb, hxf]
        by_cases he : inE x (callE b.b f n1 n2).2 n2 = 0 <;> simp [he]
      have e24 : (x.call n1 n2).1 = if (x.call n1 n2).2 = 0 then (callE b.b f n1 n2).1 else 0 := by
        unfold Sd.call; rw [hxb, hxf]
        by_cases he : inE x (callE b.b f n1 n2).2 n2 = 0 <;> simp [he]
      by_cases hz : (x.call n1 n2).2 = 0
      case' pos =>
        have fz : ((x.call n1 n2).2 != 0) = false := by simp [hz]
        rw [if_pos hz] at e24
        repeat' (first | simp only [evr, nextP_norm, evd, evq, beq_self_eq_true, cond_true, cond_false, reduceIte, Nat.reduceEqDiff, Nat.reduceAdd, Int.reduceBNe, Int.reduceBEq, Int.reduceLT, Int.reduceLE, Int.reduceEq, evh, evp, Nat.reduceLeDiff, Nat.reduceSub, Nat.reduceBEq, typs, P_callV, kFn_eq, clo, e25, fz] | refine kCond2_by (fun hc => ?_) (fun hc => ?_) <;> try simp only [hc] | refine kPick_by (fun hc => ?_) (fun hc => ?_) <;> try simp only [hc] | refine kWant_by (fun hc => ?_) (fun hc => ?_) <;> try simp only [hc])
      case' neg =>
        have fz : ((x.call n1 n2).2 != 0) = true := by simp [hz]
        rw [if_neg hz] at e24
        repeat' (first | simp only [evr, nextP_norm, evd, evq, beq_self_eq_true, cond_true, cond_false, reduceIte, Nat.reduceEqDiff, Nat.reduceAdd, Int.reduceBNe, Int.reduceBEq, Int.reduceLT, Int.reduceLE, Int.reduceEq, evh, evp, Nat.reduceLeDiff, Nat.reduceSub, Nat.reduceBEq, typs, P_callV, kFn_eq, clo, e25, fz] | refine kCond2_by (fun hc => ?_) (fun hc => ?_) <;> try simp only [hc] | refine kPick_by (fun hc => ?_) (fun hc => ?_) <;> try simp only [hc] | refine kWant_by (fun hc => ?_) (fun hc => ?_) <;> try simp only [hc])
      all_goals
        refine tail26 (b := b) x f n1 n2 c hxs hxb hxf ?_ ?_ ?_ ?_ ?_ ?_ ?_ ?_ ?_ ?_ rb16 rf16 r2016 rx16 rc16 e24 ?_ ?_ ?_ ?_ ?_ (by kernel_rfl)
        all_goals first | omega | simp only [evr, evd, evq, Tr.get_set, Nat.reduceEqDiff, if_false, if_true]
  · have hadd : newHi.add 0 (ByteArray.mk #[97]) ⟨1, 1, 0, ByteArray.empty, b.object, b.acl, b.b⟩ = (newHi, 0, 1) := by
      unfold Hi.add
      have hw : newHi.why 0 (ByteArray.mk #[97]) ⟨1, 1, 0, ByteArray.empty, b.object, b.acl, b.b⟩ = 1 := by
        unfold Hi.why
        rw [if_neg (by decide), if_neg (by decide), if_neg (by decide)]
        unfold Hi.cleanE
        rw [if_pos rfl, if_pos]
        rcases Bool.eq_false_or_eq_true (listMay b.acl) with h1 | h1
        · right; right
          rcases Bool.eq_false_or_eq_true (bkMay b.b) with h2 | h2
          · exact absurd ⟨h1, h2⟩ hv
          · exact h2
        · right; left; exact h1
      rw [if_neg (by rw [hw]; decide), hw]
    rw [hadd] at x7 ⊢
    repeat' (first | simp only [evr, nextP_norm, evd, evq, beq_self_eq_true, cond_true, cond_false, reduceIte, Nat.reduceEqDiff, Nat.reduceAdd, Int.reduceBNe, Int.reduceBEq, Int.reduceLT, Int.reduceLE, Int.reduceEq, evh, evp, Nat.reduceLeDiff, Nat.reduceSub, Nat.reduceBEq, typs] | refine kCond2_by (fun hc => ?_) (fun hc => ?_) <;> try simp only [hc] | refine kPick_by (fun hc => ?_) (fun hc => ?_) <;> try simp only [hc] | refine kWant_by (fun hc => ?_) (fun hc => ?_) <;> try simp only [hc])
    have of := sdOf_spec x7.t x7.s 1 (ByteArray.mk #[117])
    unfold ptrV at of
    refine callP_meets of ?_
    rintro _ h8 ⟨rfl, k8⟩
    have hof : (sdwOf newHi ⟨2000, [some (List.replicate (((c.toNat % 20 : Nat) : Int)).toNat 0)]⟩ 1 (ByteArray.mk #[117])) = (noSd, 4) := rfl
    rw [hof]
    unfold sdV
    repeat' (first | simp only [evr, nextP_norm, evd, evq, beq_self_eq_true, cond_true, cond_false, reduceIte, Nat.reduceEqDiff, Nat.reduceAdd, Int.reduceBNe, Int.reduceBEq, Int.reduceLT, Int.reduceLE, Int.reduceEq, evh, evp, Nat.reduceLeDiff, Nat.reduceSub, Nat.reduceBEq, typs] | refine kCond2_by (fun hc => ?_) (fun hc => ?_) <;> try simp only [hc] | refine kPick_by (fun hc => ?_) (fun hc => ?_) <;> try simp only [hc] | refine kWant_by (fun hc => ?_) (fun hc => ?_) <;> try simp only [hc])
theorem rdBn {W : World} (hsh : W.ShapedOpen Tryd.prog) {cs : List Value} (rb : RdT Tryd.prog W 26 cs) : ∃ (b : Bn) (sl : Value), absL W.heap.size cs = some (bnC b sl) ∧ TmSl (hIn W) sl b.acl := by
  have c1 : Tryd.prog.cellsOf 3 = 1 := by kernel_rfl
  have cb : Tryd.prog.cellsOf 4 = 1 := by kernel_rfl
  have c2 : Tryd.prog.cellsOf 9 = 1 := by kernel_rfl
  have hl := rb.len Tryd.underlying26 (n := 10) (by kernel_rfl)
  match cs, hl, rb with
  | [y0, y1, y2, y3, y4, y5, z0, z1, z2, z3], _, rb =>
    have b0 : RdT Tryd.prog W 3 [y0] := rb.field Tryd.underlying26 0 3 0 1 rfl c1
    have b1 : RdT Tryd.prog W 3 [y1] := rb.field Tryd.underlying26 1 3 1 1 rfl c1
    have b2 : RdT Tryd.prog W 3 [y2] := rb.field Tryd.underlying26 2 3 2 1 rfl c1
    have b3 : RdT Tryd.prog W 9 [y3] := rb.field Tryd.underlying26 3 9 3 1 rfl c2
    have b4 : RdT Tryd.prog W 4 [y4] := rb.field Tryd.underlying26 4 4 4 1 rfl cb
    have b5 : RdT Tryd.prog W 22 [y5] := rb.field Tryd.underlying26 5 22 5 1 rfl (by kernel_rfl)
    have b6 : RdT Tryd.prog W 24 [z0, z1, z2, z3] := rb.field Tryd.underlying26 6 24 6 4 rfl (by kernel_rfl)
    obtain ⟨d0, i0, _⟩ := b0.int Tryd.underlying3
    obtain ⟨d1, i1, _⟩ := b1.int Tryd.underlying3
    obtain ⟨d2, i2, _⟩ := b2.int Tryd.underlying3
    obtain ⟨d3, i3, _⟩ := b3.string Tryd.underlying9
    obtain ⟨d4, i4⟩ := b4.bool Tryd.underlying4
    obtain ⟨v, v', l, hv, _, hva, hs⟩ := tms_in hsh b5
    obtain ⟨e0, j0, _⟩ := (b6.field Tryd.underlying24 0 3 0 1 rfl c1).int Tryd.underlying3
    obtain ⟨e1, j1, _⟩ := (b6.field Tryd.underlying24 1 3 1 1 rfl c1).int Tryd.underlying3
    obtain ⟨e2, j2, _⟩ := (b6.field Tryd.underlying24 2 3 2 1 rfl c1).int Tryd.underlying3
    obtain ⟨e3, j3, _⟩ := (b6.field Tryd.underlying24 3 3 3 1 rfl c1).int Tryd.underlying3
    cases i0; cases i1; cases i2; cases i3; cases i4; cases hv; cases j0; cases j1; cases j2; cases j3
    refine ⟨⟨d0, d1, d2, d3, d4, l, ⟨e0, e1, e2, e3⟩⟩, v', ?_, hs⟩
    have key : ∀ {x a : Value} {l bs : List Value}, absC W.heap.size x = some a → absL W.heap.size l = some bs → absL W.heap.size (x :: l) = some (a :: bs) := fun {x a l bs} h1 h2 => by unfold absL; rw [h1, Option.bind_some, h2]; rfl
    exact key rfl (key rfl (key rfl (key rfl (key rfl (key hva (key rfl (key rfl (key rfl (key rfl rfl)))))))))
theorem sdwOf_law (W : World) (h : W.ShapedOpen Tryd.prog) {base : Nat} {v0 v1 v2 : Value} (o0 : Value.okWide Tryd.prog W .any base 26 v0) (r0 : RdT Tryd.prog W 26 v0.cells.toList)
    (o1 : Value.okWide Tryd.prog W .any base 5 v1) (r1 : RdT Tryd.prog W 5 v1.cells.toList) (o2 : Value.okWide Tryd.prog W .any base 27 v2) (r2 : RdT Tryd.prog W 27 v2.cells.toList) :
    Calls Tryd.prog 3 #[v0, v1, v2] W fun e w' => e = .returned (.bool true) ∧ Go.RowKit.Below W.heap.size W w' := by
  obtain ⟨cs, rfl⟩ := okAgg Tryd.underlying26 o0
  obtain ⟨b, sl, hb, hs⟩ := rdBn h r0
  have hb' : absL W.heap.size cs.toList = some (bnC b sl) := hb
  obtain ⟨c, rfl⟩ := rdU8 r1 o1
  obtain ⟨ds, rfl⟩ := okArr Tryd.underlying27 o2
  have r2' : RdT Tryd.prog W 27 ds.toList := r2
  have ci : Tryd.prog.cellsOf 3 = 1 := by kernel_rfl
  obtain ⟨hl, ha⟩ := r2'.array Tryd.underlying27
  have c3 : Tryd.prog.cellsOf 27 = 3 := by kernel_rfl
  rw [c3] at hl
  rw [ci] at ha
  obtain ⟨n0, n1, n2, hd⟩ : ∃ n0 n1 n2 : Int, ds.toList = [.int .i64 n0, .int .i64 n1, .int .i64 n2] := by
    match hx : ds.toList, hl, ha with
    | [x0, x1, x2], _, ha =>
      obtain ⟨n0, i0, _⟩ := (show RdT Tryd.prog W 3 [x0] from ha 0 (by decide)).int Tryd.underlying3
      obtain ⟨n1, i1, _⟩ := (show RdT Tryd.prog W 3 [x1] from ha 1 (by decide)).int Tryd.underlying3
      obtain ⟨n2, i2, _⟩ := (show RdT Tryd.prog W 3 [x2] from ha 2 (by decide)).int Tryd.underlying3
      cases i0; cases i1; cases i2
      exact ⟨n0, n1, n2, rfl⟩
  rw [agg_of hd]
  exact open_call (kon_from h) kon_mix (args := [_, _, _]) (abs := [.agg (bnC b sl).toArray, .int .u8 c.toNat, .agg #[.int .i64 n0, .int .i64 n1, .int .i64 n2]]) (by
    have e0 : absV W.heap.size (.agg cs) = some (.agg (bnC b sl).toArray) := by show (absL W.heap.size cs.toList).map _ = _; rw [hb']; rfl
    show ((absV W.heap.size (.agg cs)).bind _) = _
    rw [e0]; rfl) (sdwOf_true hs c n0 n1 n2)
end Go.Proofs.YtojcfpgapfceiaaDoor
