/- Texts joined: what the claim needs of them. No condition. -/
import Derived.Test.YtncmgiddcefpcaaGreatDoorRefM1
import Derived.Test.YtncmgiddcefpcaaGreatDoorBin6
import Derived.Test.YtncmgiddcefpcaaGreatDoorBin7
import Derived.Test.YtncmgiddcefpcaaGreatDoorBin4
namespace Go.Proofs.YtncmgiddcefpcaaGreatDoor
open Go Go.Ev Go.Con
set_option linter.unusedSimpArgs false
set_option linter.unusedVariables false
set_option maxRecDepth 100000
section
variable {h : Hp} {F : Nat → Prop} {T : Hi} {br : Nat} {c : Nat → Nat} {vB vL vD : Value} {cs : List Value}
theorem RefB.poke (r : RefB h c T br vB vL vD cs) {i : Nat} (hi : i < T.B.length) : ∃ b sl, evIndexAddr kon.P 94 vB (.int .i64 i) = some (.pointer (some ⟨b, i * 10, none⟩)) ∧ rowOf h b = some cs ∧ i * 10 + 10 ≤ cs.length ∧
    (cs.drop (i * 10)).take 10 = bnC T.B[i] sl ∧ TmTy h (fun k => c k = 5) sl T.B[i].acl ∧ c b = 2 ∧
    ∀ {h2 : Hp} {c2 : Nat → Nat}, RefB h2 c2 T br vB vL vD cs → c2 b = 2 → ∀ {j : Nat} {vs : List Value} {x : Bn} {sl2 : Value}, j + vs.length ≤ 10 → 1 ≤ vs.length → vs.all isCell = true → Ev.splice (bnC T.B[i] sl) j vs = bnC x sl2 → TmTy h2 (fun k => c2 k = 5) sl2 x.acl →
      ∃ h3, wrOb h2 b (i * 10 + j) vs (h2.get b) = some h3 ∧ h3.next = h2.next ∧ (∀ k, c2 k ≠ 2 → h3.get k = h2.get k) ∧ ∃ cs', RefB h3 c2 ⟨T.B.set i x, T.L, T.D⟩ br vB vL vD cs' := by
  have lB := r.bn.1
  obtain ⟨b, k, cp, rfl, hk, hkl, hcb, hbl, hrow⟩ := r.b.row (by intro e; rw [e] at lB; simp at lB; omega)
  have hkB : k = T.B.length := by omega
  subst hkB
  obtain ⟨sl, h1, h2⟩ := r.bn.2 i T.B[i] (List.getElem?_eq_getElem hi)
  have hix := L_indexAddr (C := kon) (t := 94) (e := 34) (n := 10) (by kernel_rfl) (by kernel_rfl) b 0 T.B.length cp .i64 i (by omega) (by omega)
  refine ⟨b, sl, by simpa using hix, hrow, by omega, h1, h2, hcb, ?_⟩
  intro h2 c2 r2 hc2 j vs x sl2 hj hv hcell hsp hty
  obtain ⟨b', k', cp', h3, e1, _, _, hc', hw, g', hn, hs⟩ := write_gr r2.b (o := i * 10 + j) (vs := vs) (by omega) hv hcell
  cases e1
  have lsp : (Ev.splice cs (i * 10 + j) vs).length = cs.length := splice_length (by omega)
  refine ⟨h3, by rw [← writeAt_def]; exact hw, hn, hs, _, ⟨by rw [hs br (by rw [r2.me]; decide)]; exact r2.row, r2.me, g', ⟨by rw [lsp, lB]; simp, fun m y hy => ?_⟩, r2.l.keep (Nat.le_of_eq hn.symm) fun k hk => hs k (by rw [hk]; decide), r2.d.keep (Nat.le_of_eq hn.symm) fun k hk => hs k (by rw [hk]; decide), fun k hk => by rw [hn]; exact r2.lt k hk⟩⟩
  have k5 : ∀ {v : Value} {l : List Tm}, TmTy h2 (fun k => c2 k = 5) v l → TmTy h3 (fun k => c2 k = 5) v l := fun s => SlTy.keepF s (Nat.le_of_eq hn.symm) fun k hk => hs k (by rw [hk]; decide)
  by_cases hm : m = i
  · subst hm
    have hy2 : y = x := by
      rw [List.getElem?_set_self hi] at hy; exact (Option.some.inj hy).symm
    subst hy2
    refine ⟨sl2, ?_, k5 hty⟩
    rw [splice_in hj (by omega), h1, hsp]
  · have hy2 : T.B[m]? = some y := by rw [List.getElem?_set_ne (by omega)] at hy; exact hy
    obtain ⟨sl3, q1, q2⟩ := r2.bn.2 m y hy2
    have hmB : m < T.B.length := (List.getElem?_eq_some_iff.1 hy2).1
    refine ⟨sl3, ?_, k5 q2⟩
    rw [splice_out (m := 0) (by omega) (by omega) (Nat.zero_le _)]
    exact q1
theorem setB_acl {i : Nat} {x : Bn} (ha : ∀ i, (T.br i).acl.length ≤ 1000000000) (hx : x.acl.length ≤ 1000000000) (m : Nat) : ((T.setB i x).br m).acl.length ≤ 1000000000 := by
  have hm := ha m
  unfold Hi.setB
  unfold Hi.br at hm ⊢
  by_cases h1 : i = m
  · subst h1
    by_cases h2 : i < T.B.length
    · simp only [List.getElem?_set_self h2, Option.getD_some]; exact hx
    · rw [List.getElem?_eq_none (by simpa using h2)]; simp [noBn]
  · simp only [List.getElem?_set_ne h1]; exact hm
set_option maxHeartbeats 1000000 in
theorem rChangeA (t : RefAt h F T br) (hL : T.L.length ≤ 1000000000) {sl : Value} {l : List Tm} (hs : TmSl h sl l) (hl : l.length ≤ 1000000000) (d : Int) (s : ByteArray) :
    Meets kon 72 [.pointer (some ⟨br, 0, none⟩), .int .i64 d, .string s, sl, .pointer none] h fun v h' => v = .int .i64 (T.access d s l).2 ∧ ∃ F', RefAt h' F' (T.access d s l).1 br ∧ Upd h F h' F' := by
  obtain ⟨c, vB, vL, vD, cs, hF, r, ok, ha⟩ := t
  have same : ∃ F', RefAt h F' T br ∧ Upd h F h F' := ⟨F, ⟨c, vB, vL, vD, cs, hF, r, ok, ha⟩, ⟨Nat.le_refl _, fun _ _ _ => rfl, fun _ hk => .inl hk⟩⟩
  refine Meets.mk rfl (by kernel_rfl) Tryz.func72 rfl (congrArg Array.toList Tryz.results72) ?_
  have ca := (r.at hL d s).call
  unfold ptrV at ca
  unfold Hi.access
  cases h3 : T.get d s with
  | none =>
    have f1 : decide (atI T.L d s < 0) = true := by rw [atI_lt, h3]; rfl
    repeat' (first | simp only [evr, nextP_norm, evd, evq, beq_self_eq_true, cond_true, cond_false, reduceIte, Nat.reduceEqDiff, Nat.reduceAdd, Int.reduceBNe, Int.reduceBEq, Int.reduceLT, Int.reduceLE, Int.reduceEq, evh, evp, Nat.reduceLeDiff, Nat.reduceSub, Nat.reduceBEq, typs, ca, f1] | refine kCond2_by (fun hc => ?_) (fun hc => ?_) <;> try simp only [hc] | refine kPick_by (fun hc => ?_) (fun hc => ?_) <;> try simp only [hc] | refine kWant_by (fun hc => ?_) (fun hc => ?_) <;> try simp only [hc])
    exact same
  | some i =>
  have f1 : decide (atI T.L d s < 0) = false := by rw [atI_lt, h3]; rfl
  obtain ⟨k, e, e1, e2, e3, e4, e5⟩ := atI_some h3
  obtain ⟨b2, o, all, hia, hb, hr2, c0, c1, c2⟩ := EnSl.at r.en e2
  rw [e1] at ca f1
  subst e3
  have hid := ok.ids e e5
  obtain ⟨bb, slo, hix, hrow, hz, hc3, hty, hcb, poke⟩ := r.poke hid
  have hbr : T.br e.id = T.B[e.id] := Hi.br_lt hid
  rw [← hbr] at hc3
  have d0 : cs[e.id * 10]? = some (.int .i64 (T.br e.id).kind) := by
    have := congrArg (fun c : List Value => c[0]?) hc3
    simpa [bnC] using this
  repeat' (first | simp only [evr, nextP_norm, evd, evq, beq_self_eq_true, cond_true, cond_false, reduceIte, Nat.reduceEqDiff, Nat.reduceAdd, Int.reduceBNe, Int.reduceBEq, Int.reduceLT, Int.reduceLE, Int.reduceEq, evh, evp, Nat.reduceLeDiff, Nat.reduceSub, Nat.reduceBEq, typs, ca, f1] | refine kCond2_by (fun hc => ?_) (fun hc => ?_) <;> try simp only [hc] | refine kPick_by (fun hc => ?_) (fun hc => ?_) <;> try simp only [hc] | refine kWant_by (fun hc => ?_) (fun hc => ?_) <;> try simp only [hc])
  refine Wp_drawE [0, 0, 0, 1, 0, 0, 0, 1, 0, 0, 0, 1, 0, 0] (KR.mk (by kernel_rfl)) ?_
  by_cases k1 : (T.br e.id).kind = 1
  · have f2 : ((T.br e.id).kind != 1) = false := by simp [k1]
    have cl := (refListMay_spec hs hl).call
    cases h4 : listMay l with
    | false =>
      rw [h4] at cl
      repeat' (first | simp only [evr, nextP_norm, evd, evq, beq_self_eq_true, cond_true, cond_false, reduceIte, Nat.reduceEqDiff, Nat.reduceAdd, Int.reduceBNe, Int.reduceBEq, Int.reduceLT, Int.reduceLE, Int.reduceEq, evh, evp, Nat.reduceLeDiff, Nat.reduceSub, Nat.reduceBEq, typs, r.rw, hia, hr2, c1, hix, hrow, d0, f2, cl] | refine kCond2_by (fun hc => ?_) (fun hc => ?_) <;> try simp only [hc] | refine kPick_by (fun hc => ?_) (fun hc => ?_) <;> try simp only [hc] | refine kWant_by (fun hc => ?_) (fun hc => ?_) <;> try simp only [hc])
      rw [if_neg (by simp [k1])]
      exact ⟨rfl, same⟩
    | true =>
      rw [h4] at cl
      obtain ⟨sl', h2, a4, K, ty⟩ := app_tm hs hl
      have hn := K.1
      obtain ⟨z1, z2⟩ := TmTy.cell ty
      have c0 : ∀ k, h.next ≤ k → c k = 0 := fun k hk => Decidable.byContradiction fun h0 => by have := r.lt k h0; omega
      have r2 := (r.keeps K).paint (p := fun k => h.next ≤ k ∧ k < h2.next) (x := 5) (fun k hk => hk.2) (by decide)
      have ty2 : TmTy h2 (fun k => paint c (fun k => h.next ≤ k ∧ k < h2.next) 5 k = 5) sl' l := SlTy.same (SlTy.within ty) (Same.refl _ _) fun k hk => paint_new (c0 k hk.1) hk
      obtain ⟨h3', hw, n3, s3, cs', r3⟩ := poke r2 (paint_mono (by decide) hcb) (j := 5) (vs := [sl']) (x := { T.br e.id with acl := l }) (sl2 := sl') (by simp) (by simp) (by simp [z1]) (by rw [← hbr]; simp [Ev.splice, bnC]) ty2
      repeat' (first | simp only [evr, nextP_norm, evd, evq, beq_self_eq_true, cond_true, cond_false, reduceIte, Nat.reduceEqDiff, Nat.reduceAdd, Int.reduceBNe, Int.reduceBEq, Int.reduceLT, Int.reduceLE, Int.reduceEq, evh, evp, Nat.reduceLeDiff, Nat.reduceSub, Nat.reduceBEq, typs, r.rw, hia, hr2, c1, hix, hrow, d0, f2, cl, a4, hw, z2] | refine kCond2_by (fun hc => ?_) (fun hc => ?_) <;> try simp only [hc] | refine kPick_by (fun hc => ?_) (fun hc => ?_) <;> try simp only [hc] | refine kWant_by (fun hc => ?_) (fun hc => ?_) <;> try simp only [hc])
      rw [if_neg (by simp [k1])]
      have os := ok.setB (i := e.id) (b := { T.br e.id with acl := l }) rfl rfl rfl
      refine ⟨rfl, _, ⟨_, _, _, _, _, fun k => Iff.rfl, r3, os.1, setB_acl ha hl⟩, upd_paint hF (by omega) (fun k hk hc => ?_) fun k hk => hk.1⟩
      rw [s3 k (by rw [paint_out (by omega), hc]; decide)]
      exact K.2 k hk
  · have f2 : ((T.br e.id).kind != 1) = true := by simpa using k1
    repeat' (first | simp only [evr, nextP_norm, evd, evq, beq_self_eq_true, cond_true, cond_false, reduceIte, Nat.reduceEqDiff, Nat.reduceAdd, Int.reduceBNe, Int.reduceBEq, Int.reduceLT, Int.reduceLE, Int.reduceEq, evh, evp, Nat.reduceLeDiff, Nat.reduceSub, Nat.reduceBEq, typs, r.rw, hia, hr2, c1, hix, hrow, d0, f2] | refine kCond2_by (fun hc => ?_) (fun hc => ?_) <;> try simp only [hc] | refine kPick_by (fun hc => ?_) (fun hc => ?_) <;> try simp only [hc] | refine kWant_by (fun hc => ?_) (fun hc => ?_) <;> try simp only [hc])
    rw [if_pos (by simpa using k1)]
    exact ⟨rfl, same⟩
theorem rAccess_spec (t : RefAt h F T br) (hL : T.L.length ≤ 1000000000) {sl : Value} {l : List Tm} (hs : TmSl h sl l) (hl : l.length ≤ 1000000000) (d : Int) (s : ByteArray) :
    Meets kon 34 [ptrV br, .int .i64 d, .string s, sl] h fun v h' => v = .int .i64 (T.access d s l).2 ∧ ∃ F', RefAt h' F' (T.access d s l).1 br ∧ Upd h F h' F' := by
  unfold ptrV
  refine Meets.mk rfl (by kernel_rfl) Tryz.func34 rfl (congrArg Array.toList Tryz.results34) ?_
  repeat' (first | simp only [evr, nextP_norm, evd, evq, beq_self_eq_true, cond_true, cond_false, reduceIte, Nat.reduceEqDiff, Nat.reduceAdd, Int.reduceBNe, Int.reduceBEq, Int.reduceLT, Int.reduceLE, Int.reduceEq, evh, evp, Nat.reduceLeDiff, Nat.reduceSub, Nat.reduceBEq, typs] | refine kCond2_by (fun hc => ?_) (fun hc => ?_) <;> try simp only [hc] | refine kPick_by (fun hc => ?_) (fun hc => ?_) <;> try simp only [hc] | refine kWant_by (fun hc => ?_) (fun hc => ?_) <;> try simp only [hc])
  refine callP_meets (rChangeA t hL hs hl d s) ?_
  rintro _ h2 ⟨rfl, hx⟩
  repeat' (first | simp only [evr, nextP_norm, evd, evq, beq_self_eq_true, cond_true, cond_false, reduceIte, Nat.reduceEqDiff, Nat.reduceAdd, Int.reduceBNe, Int.reduceBEq, Int.reduceLT, Int.reduceLE, Int.reduceEq, evh, evp, Nat.reduceLeDiff, Nat.reduceSub, Nat.reduceBEq, typs] | refine kCond2_by (fun hc => ?_) (fun hc => ?_) <;> try simp only [hc] | refine kPick_by (fun hc => ?_) (fun hc => ?_) <;> try simp only [hc] | refine kWant_by (fun hc => ?_) (fun hc => ?_) <;> try simp only [hc])
  exact hx
set_option maxHeartbeats 1000000 in
theorem rChangeR (t : RefAt h F T br) (hL : T.L.length ≤ 1000000000) {bp : Nat} {b : Bk} (hp : h.get bp = some (obB b)) (hbp : bp < h.next) (d : Int) (s : ByteArray) :
    Meets kon 72 [.pointer (some ⟨br, 0, none⟩), .int .i64 d, .string s, .slice none 0 0, .pointer (some ⟨bp, 0, none⟩)] h fun v h' => v = .int .i64 (T.ringed d s b).2 ∧ ∃ F', RefAt h' F' (T.ringed d s b).1 br ∧ Upd h F h' F' := by
  obtain ⟨c, vB, vL, vD, cs, hF, r, ok, ha⟩ := t
  have same : ∀ {h' : Hp}, Keep h h' → ∃ F', RefAt h' F' T br ∧ Upd h F h' F' := fun K => ⟨F, ⟨c, vB, vL, vD, cs, hF, r.keeps K, ok, ha⟩, ⟨K.1, fun k hk _ => K.2 k hk, fun _ hk => .inl hk⟩⟩
  refine Meets.mk rfl (by kernel_rfl) Tryz.func72 rfl (congrArg Array.toList Tryz.results72) ?_
  have ca := (r.at hL d s).call
  unfold ptrV at ca
  unfold Hi.ringed
  cases h3 : T.get d s with
  | none =>
    have f1 : decide (atI T.L d s < 0) = true := by rw [atI_lt, h3]; rfl
    repeat' (first | simp only [evr, nextP_norm, evd, evq, beq_self_eq_true, cond_true, cond_false, reduceIte, Nat.reduceEqDiff, Nat.reduceAdd, Int.reduceBNe, Int.reduceBEq, Int.reduceLT, Int.reduceLE, Int.reduceEq, evh, evp, Nat.reduceLeDiff, Nat.reduceSub, Nat.reduceBEq, typs, ca, f1] | refine kCond2_by (fun hc => ?_) (fun hc => ?_) <;> try simp only [hc] | refine kPick_by (fun hc => ?_) (fun hc => ?_) <;> try simp only [hc] | refine kWant_by (fun hc => ?_) (fun hc => ?_) <;> try simp only [hc])
    exact same (Keep.refl _)
  | some i =>
  have f1 : decide (atI T.L d s < 0) = false := by rw [atI_lt, h3]; rfl
  obtain ⟨k, e, e1, e2, e3, e4, e5⟩ := atI_some h3
  obtain ⟨b2, o, all, hia, hb, hr2, c0, c1, c2⟩ := EnSl.at r.en e2
  rw [e1] at ca f1
  subst e3
  have hid := ok.ids e e5
  obtain ⟨bb, slo, hix, hrow, hz, hc3, hty, hcb, poke⟩ := r.poke hid
  have hbr : T.br e.id = T.B[e.id] := Hi.br_lt hid
  rw [← hbr] at hc3
  have d0 : cs[e.id * 10]? = some (.int .i64 (T.br e.id).kind) := by
    have := congrArg (fun c : List Value => c[0]?) hc3
    simpa [bnC] using this
  have hp2 : rowOf h bp = some [.int .i64 b.r1, .int .i64 b.r2, .int .i64 b.r3, .int .i64 b.g] := rowOf_rw hp
  have ca2 : aggAt 0 4 [.int .i64 b.r1, .int .i64 b.r2, .int .i64 b.r3, .int .i64 b.g] = some (.agg #[.int .i64 b.r1, .int .i64 b.r2, .int .i64 b.r3, .int .i64 b.g]) := rfl
  repeat' (first | simp only [evr, nextP_norm, evd, evq, beq_self_eq_true, cond_true, cond_false, reduceIte, Nat.reduceEqDiff, Nat.reduceAdd, Int.reduceBNe, Int.reduceBEq, Int.reduceLT, Int.reduceLE, Int.reduceEq, evh, evp, Nat.reduceLeDiff, Nat.reduceSub, Nat.reduceBEq, typs, ca, f1] | refine kCond2_by (fun hc => ?_) (fun hc => ?_) <;> try simp only [hc] | refine kPick_by (fun hc => ?_) (fun hc => ?_) <;> try simp only [hc] | refine kWant_by (fun hc => ?_) (fun hc => ?_) <;> try simp only [hc])
  refine Wp_drawE [0, 0, 0, 1, 0, 0, 0, 1, 0, 0, 0, 1, 0, 0] (KR.mk (by kernel_rfl)) ?_
  by_cases k1 : (T.br e.id).kind = 1
  · have f2 : ((T.br e.id).kind != 1) = false := by simp [k1]
    have cr := (refRingMayX b h).call
    cases h4 : bkMay b with
    | false =>
      rw [h4] at cr
      repeat' (first | simp only [evr, nextP_norm, evd, evq, beq_self_eq_true, cond_true, cond_false, reduceIte, Nat.reduceEqDiff, Nat.reduceAdd, Int.reduceBNe, Int.reduceBEq, Int.reduceLT, Int.reduceLE, Int.reduceEq, evh, evp, Nat.reduceLeDiff, Nat.reduceSub, Nat.reduceBEq, typs, r.rw, hia, hr2, c1, hix, hrow, d0, f2, cr, hp2, ca2] | refine kCond2_by (fun hc => ?_) (fun hc => ?_) <;> try simp only [hc] | refine kPick_by (fun hc => ?_) (fun hc => ?_) <;> try simp only [hc] | refine kWant_by (fun hc => ?_) (fun hc => ?_) <;> try simp only [hc])
      rw [if_neg (by simp [k1])]
      exact ⟨rfl, same (Keep.push _ _)⟩
    | true =>
      rw [h4] at cr
      have K : Keep h (h.push (obB b)) := Keep.push _ _
      have r2 := r.keeps K
      have hp3 : rowOf (h.push (obB b)) bp = some [.int .i64 b.r1, .int .i64 b.r2, .int .i64 b.r3, .int .i64 b.g] := rowOf_rw ((K.2 _ hbp).trans hp)
      obtain ⟨h3', hw, n3, s3, cs', r3⟩ := poke r2 hcb (j := 6) (vs := [.int .i64 b.r1, .int .i64 b.r2, .int .i64 b.r3, .int .i64 b.g]) (x := { T.br e.id with b := b }) (sl2 := slo) (by simp) (by simp) rfl (by rw [← hbr]; simp [Ev.splice, bnC]) (by rw [hbr]; exact SlTy.keepF hty K.1 fun k hk => K.2 k (r.lt k (by rw [hk]; decide)))
      have lb : bb < h.next := r.lt bb (by rw [hcb]; decide)
      have nb : (bb = h.next) = False := by simp; omega
      rw [Hp.get_push_lt lb] at hw
      repeat' (first | simp only [evr, nextP_norm, evd, evq, beq_self_eq_true, cond_true, cond_false, reduceIte, Nat.reduceEqDiff, Nat.reduceAdd, Int.reduceBNe, Int.reduceBEq, Int.reduceLT, Int.reduceLE, Int.reduceEq, evh, evp, Nat.reduceLeDiff, Nat.reduceSub, Nat.reduceBEq, typs, r.rw, hia, hr2, c1, hix, hrow, d0, f2, cr, hp2, hp3, ca2, nb, hw] | refine kCond2_by (fun hc => ?_) (fun hc => ?_) <;> try simp only [hc] | refine kPick_by (fun hc => ?_) (fun hc => ?_) <;> try simp only [hc] | refine kWant_by (fun hc => ?_) (fun hc => ?_) <;> try simp only [hc])
      rw [if_neg (by simp [k1])]
      have os := ok.setB (i := e.id) (b := { T.br e.id with b := b }) rfl rfl rfl
      refine ⟨rfl, _, ⟨_, _, _, _, _, fun k => Iff.rfl, r3, os.1, setB_acl ha (ha e.id)⟩, upd_of hF (by rw [n3]; exact K.1) (fun k hk hc => ?_) fun k hk => .inl hk⟩
      rw [s3 k (by rw [hc]; decide)]
      exact K.2 k hk
  · have f2 : ((T.br e.id).kind != 1) = true := by simpa using k1
    repeat' (first | simp only [evr, nextP_norm, evd, evq, beq_self_eq_true, cond_true, cond_false, reduceIte, Nat.reduceEqDiff, Nat.reduceAdd, Int.reduceBNe, Int.reduceBEq, Int.reduceLT, Int.reduceLE, Int.reduceEq, evh, evp, Nat.reduceLeDiff, Nat.reduceSub, Nat.reduceBEq, typs, r.rw, hia, hr2, c1, hix, hrow, d0, f2] | refine kCond2_by (fun hc => ?_) (fun hc => ?_) <;> try simp only [hc] | refine kPick_by (fun hc => ?_) (fun hc => ?_) <;> try simp only [hc] | refine kWant_by (fun hc => ?_) (fun hc => ?_) <;> try simp only [hc])
    rw [if_pos (by simpa using k1)]
    exact ⟨rfl, same (Keep.refl _)⟩
theorem rRinged_spec (t : RefAt h F T br) (hL : T.L.length ≤ 1000000000) (b : Bk) (d : Int) (s : ByteArray) :
    Meets kon 35 [ptrV br, .int .i64 d, .string s, .agg #[.int .i64 b.r1, .int .i64 b.r2, .int .i64 b.r3, .int .i64 b.g]] h fun v h' => v = .int .i64 (T.ringed d s b).2 ∧ ∃ F', RefAt h' F' (T.ringed d s b).1 br ∧ Upd h F h' F' := by
  unfold ptrV
  refine Meets.mk rfl (by kernel_rfl) Tryz.func35 rfl (congrArg Array.toList Tryz.results35) ?_
  repeat' (first | simp only [evr, nextP_norm, evd, evq, beq_self_eq_true, cond_true, cond_false, reduceIte, Nat.reduceEqDiff, Nat.reduceAdd, Int.reduceBNe, Int.reduceBEq, Int.reduceLT, Int.reduceLE, Int.reduceEq, evh, evp, Nat.reduceLeDiff, Nat.reduceSub, Nat.reduceBEq, typs] | refine kCond2_by (fun hc => ?_) (fun hc => ?_) <;> try simp only [hc] | refine kPick_by (fun hc => ?_) (fun hc => ?_) <;> try simp only [hc] | refine kWant_by (fun hc => ?_) (fun hc => ?_) <;> try simp only [hc])
  have K : Keep h (h.push (obB b)) := Keep.push _ _
  obtain ⟨c, vB, vL, vD, cs, hF, r, ok, ha⟩ := t
  refine callP_meets (rChangeR (F := F) ⟨c, vB, vL, vD, cs, hF, r.keeps K, ok, ha⟩ hL (bp := h.next) (Hp.get_push_self _ _) (Nat.lt_succ_self _) d s) ?_
  rintro _ h2 ⟨rfl, F', hx, hu⟩
  repeat' (first | simp only [evr, nextP_norm, evd, evq, beq_self_eq_true, cond_true, cond_false, reduceIte, Nat.reduceEqDiff, Nat.reduceAdd, Int.reduceBNe, Int.reduceBEq, Int.reduceLT, Int.reduceLE, Int.reduceEq, evh, evp, Nat.reduceLeDiff, Nat.reduceSub, Nat.reduceBEq, typs] | refine kCond2_by (fun hc => ?_) (fun hc => ?_) <;> try simp only [hc] | refine kPick_by (fun hc => ?_) (fun hc => ?_) <;> try simp only [hc] | refine kWant_by (fun hc => ?_) (fun hc => ?_) <;> try simp only [hc])
  exact ⟨F', hx, ⟨Nat.le_trans K.1 hu.next, fun k hk hf => (hu.same k (Nat.lt_of_lt_of_le hk K.1) hf).trans (K.2 k hk), fun k hk => (hu.own k hk).imp id fun q => Nat.le_trans K.1 q⟩⟩
end
end Go.Proofs.YtncmgiddcefpcaaGreatDoor
namespace Go.Proofs.YtncmgiddcefpcaaGreatDoor
open Go Go.Ev Go.Con
set_option linter.unusedSimpArgs false
set_option linter.unusedVariables false
set_option maxRecDepth 100000
theorem ens_cell (l : List En) : (ens l).all isCell = true := by
  rw [List.all_eq_true]; intro x hx
  simp only [ens, List.mem_flatten, List.mem_map] at hx
  obtain ⟨_, ⟨e, _, rfl⟩, hx⟩ := hx
  simp only [enC, List.mem_cons, List.not_mem_nil, or_false] at hx
  rcases hx with rfl | rfl | rfl <;> rfl
theorem ens_split (a b : List En) : ens (a ++ b) = ens a ++ ens b := by simp [ens]
theorem ens_take (l : List En) (n : Nat) : ens (l.take n) = (ens l).take (n * 3) := by
  have h1 : ens l = ens (l.take n) ++ ens (l.drop n) := by rw [← ens_split, List.take_append_drop]
  by_cases h : n ≤ l.length
  · have h2 : (ens (l.take n)).length = n * 3 := by rw [ens_len, List.length_take, Nat.min_eq_left h]
    rw [h1, ← h2, List.take_left]
  · have e1 : l.take n = l := List.take_of_length_le (by omega)
    have e2 : (ens l).take (n * 3) = ens l := List.take_of_length_le (by rw [ens_len]; omega)
    rw [e1, e2]
theorem ens_drop (l : List En) (n : Nat) : ens (l.drop n) = (ens l).drop (n * 3) := by
  have h1 : ens l = ens (l.take n) ++ ens (l.drop n) := by rw [← ens_split, List.take_append_drop]
  by_cases h : n ≤ l.length
  · have h2 : (ens (l.take n)).length = n * 3 := by rw [ens_len, List.length_take, Nat.min_eq_left h]
    rw [h1, ← h2, List.drop_append_length]
  · rw [List.drop_of_length_le (by omega), List.drop_of_length_le (by rw [ens_len]; omega)]; rfl
theorem EnSl.front {h : Hp} {v : Value} {l : List En} (s : EnSl h v l) {n : Nat} (hn : n ≤ l.length) : ∃ u, evSlice kon.P 95 v none (some (.int .i64 n)) none = some u ∧ EnSl h u (l.take n) := by
  rcases s with ⟨rfl, hp⟩ | ⟨b, o, k, c, all, rfl, h2, h3, h4, h5, h6⟩
  · have : l = [] := by
      have := congrArg List.length hp
      rw [ens_len] at this; exact List.length_eq_zero_iff.1 (by simp at this; omega)
    subst this
    have : n = 0 := by simpa using hn
    subst this
    exact ⟨_, by kernel_rfl, .inl ⟨rfl, rfl⟩⟩
  · have hk : l.length = k := by rw [ens_len] at h5; omega
    subst hk
    refine ⟨_, (L_sliceSl (C := kon) (t := 95) (e := 126) (n := 3) (by kernel_rfl) (by kernel_rfl)).2.2 b o l.length c .i64 n (by omega) (by omega) h2, .inr ⟨b, o, n, c, all, by rw [Int.toNat_natCast], by omega, h3, h4, by rw [ens_len, List.length_take]; omega, ?_⟩⟩
    rw [ens_take, ← h6, List.take_take, Nat.min_eq_left (by omega)]
theorem EnSl.back {h : Hp} {v : Value} {l : List En} (s : EnSl h v l) {n : Nat} (hn : n ≤ l.length) : ∃ u, evSlice kon.P 95 v (some (.int .i64 n)) none none = some u ∧ EnSl h u (l.drop n) := by
  rcases s with ⟨rfl, hp⟩ | ⟨b, o, k, c, all, rfl, h2, h3, h4, h5, h6⟩
  · have : l = [] := by
      have := congrArg List.length hp
      rw [ens_len] at this; exact List.length_eq_zero_iff.1 (by simp at this; omega)
    subst this
    have : n = 0 := by simpa using hn
    subst this
    exact ⟨_, by kernel_rfl, .inl ⟨rfl, rfl⟩⟩
  · have hk : l.length = k := by rw [ens_len] at h5; omega
    subst hk
    refine ⟨_, (L_sliceSl (C := kon) (t := 95) (e := 126) (n := 3) (by kernel_rfl) (by kernel_rfl)).1 b o l.length c .i64 n (by omega) (by omega) h2, .inr ⟨b, o + n * 3, l.length - n, capTail c n, all, by rw [Int.toNat_natCast], by unfold capTail; omega, h3, h4, by rw [ens_len, List.length_drop], ?_⟩⟩
    rw [ens_drop, ← h6, List.drop_take, List.drop_drop]
    congr 1; omega
theorem app_ens {G : Nat → Prop} {h : Hp} {v x : Value} {l m : List En} (g : Gr G h v 126 3 (ens l)) (s : EnSl h x m) (hl : l.length ≤ 1000000000) (hm : m.length ≤ 1000000000) :
    ∃ v' h', evAppend kon.P 95 v x h = some (v', h') ∧ Gr (fun k => G k ∨ (h.next ≤ k ∧ k < h'.next)) h' v' 126 3 (ens (l ++ m)) ∧ h.next ≤ h'.next ∧ h'.next ≤ h.next + 1 ∧ ∀ c, c < h.next → ¬ G c → h'.get c = h.get c := by
  rw [ens_split]
  obtain ⟨j, e1, e2, e3⟩ := SlAt.cells s
  have hj : j = m.length := by rw [ens_len] at e3; omega
  subst hj
  exact append_gr0 (e := 126) (n := 3) (by_ := 32) (by kernel_rfl) (by kernel_rfl) (by kernel_rfl) (z := .agg #[.int .i64 0, .int .i64 0, .string ByteArray.empty]) (by kernel_rfl) (by kernel_rfl) (by decide) g e1 e2 e3 (ens_cell m)
    (by rw [ens_len]; exact Nat.le_trans (Nat.mul_le_mul_right 33 (show _ ≤ 8000001026 by omega)) (by decide))
theorem taken_eq {T : Hi} (ok : T.Ok) {k : Nat} {e : En} (he : T.L[k]? = some e) : T.L.filter (fun x => !decide (x.key = e.key)) = T.L.take k ++ T.L.drop (k + 1) := by
  obtain ⟨hk, rfl⟩ := List.getElem?_eq_some_iff.1 he
  have nd := ok.keys
  have hsp : T.L = T.L.take k ++ T.L[k] :: T.L.drop (k + 1) := by simp
  generalize T.L[k] = x at hsp ⊢
  rw [hsp] at nd
  rw [hsp]
  have hlen : (T.L.take k).length = k := by rw [List.length_take]; omega
  generalize T.L.take k = a at *
  generalize T.L.drop (k + 1) = b at *
  rw [List.map_append, List.map_cons] at nd
  have nd2 := List.nodup_append.1 nd
  have nd3 := List.nodup_cons.1 nd2.2.1
  have fa : a.filter (fun y => !decide (y.key = x.key)) = a := List.filter_eq_self.2 fun y hy => by
    have := nd2.2.2 y.key (List.mem_map_of_mem hy) x.key (List.mem_cons_self ..)
    simpa using this
  have fb : b.filter (fun y => !decide (y.key = x.key)) = b := List.filter_eq_self.2 fun y hy => by
    have : y.key ≠ x.key := fun h => nd3.1 (by rw [← h]; exact List.mem_map_of_mem hy)
    simpa using this
  rw [List.filter_append, List.filter_cons, fa, fb, ← hlen]
  simp
section
variable {h : Hp} {F : Nat → Prop} {T : Hi} {br : Nat}
set_option maxHeartbeats 1000000 in
theorem rUnname_spec (t : RefAt h F T br) (hL : T.L.length ≤ 1000000000) (d : Int) (s : ByteArray) : Meets kon 47 [ptrV br, .int .i64 d, .string s] h fun v h' =>
    v = .int .i64 (T.unname d s).2 ∧ ∃ F', RefAt h' F' (T.unname d s).1 br ∧ Upd h F h' F' := by
  obtain ⟨c, vB, vL, vD, cs, hF, r, ok, ha⟩ := t
  have same : ∃ F', RefAt h F' T br ∧ Upd h F h F' := ⟨F, ⟨c, vB, vL, vD, cs, hF, r, ok, ha⟩, ⟨Nat.le_refl _, fun _ _ _ => rfl, fun _ hk => .inl hk⟩⟩
  unfold ptrV
  refine Meets.mk rfl (by kernel_rfl) Tryz.func47 rfl (congrArg Array.toList Tryz.results47) ?_
  have ca := (r.at hL d s).call
  unfold ptrV at ca
  unfold Hi.unname
  cases h3 : T.get d s with
  | none =>
    have f1 : decide (atI T.L d s < 0) = true := by rw [atI_lt, h3]; rfl
    repeat' (first | simp only [evr, nextP_norm, evd, evq, beq_self_eq_true, cond_true, cond_false, reduceIte, Nat.reduceEqDiff, Nat.reduceAdd, Int.reduceBNe, Int.reduceBEq, Int.reduceLT, Int.reduceLE, Int.reduceEq, evh, evp, Nat.reduceLeDiff, Nat.reduceSub, Nat.reduceBEq, typs, ca, f1] | refine kCond2_by (fun hc => ?_) (fun hc => ?_) <;> try simp only [hc] | refine kPick_by (fun hc => ?_) (fun hc => ?_) <;> try simp only [hc] | refine kWant_by (fun hc => ?_) (fun hc => ?_) <;> try simp only [hc])
    exact same
  | some i =>
  have f1 : decide (atI T.L d s < 0) = false := by rw [atI_lt, h3]; rfl
  obtain ⟨k, e, e1, e2, e3, e4, e5⟩ := atI_some h3
  obtain ⟨b2, o, all, hia, hb, hr2, c0, c1, c2⟩ := EnSl.at r.en e2
  rw [e1] at ca f1
  subst e3
  have cm := (r.many hL e.id).call
  unfold ptrV at cm
  have hkl : k < T.L.length := (List.getElem?_eq_some_iff.1 e2).1
  by_cases h5 : T.many e.id = 1
  · have f2 : (((T.many e.id : Nat) : Int) == 1) = true := by rw [h5]; rfl
    repeat' (first | simp only [evr, nextP_norm, evd, evq, beq_self_eq_true, cond_true, cond_false, reduceIte, Nat.reduceEqDiff, Nat.reduceAdd, Int.reduceBNe, Int.reduceBEq, Int.reduceLT, Int.reduceLE, Int.reduceEq, evh, evp, Nat.reduceLeDiff, Nat.reduceSub, Nat.reduceBEq, typs, ca, f1, r.rw, hia, hr2, c1, cm, f2] | refine kCond2_by (fun hc => ?_) (fun hc => ?_) <;> try simp only [hc] | refine kPick_by (fun hc => ?_) (fun hc => ?_) <;> try simp only [hc] | refine kWant_by (fun hc => ?_) (fun hc => ?_) <;> try simp only [hc])
    rw [if_pos h5]
    exact ⟨rfl, same⟩
  · have f2 : (((T.many e.id : Nat) : Int) == 1) = false := by simp; omega
    obtain ⟨u1, s1, en1⟩ := EnSl.front r.en (n := k) (by omega)
    obtain ⟨w1, h1, a1, g1, n1, n1', q1⟩ := app_ens (l := []) (Gr.nil h _ _) en1 (Nat.zero_le _) (by rw [List.length_take]; omega)
    have K1 : Keep h h1 := ⟨n1, fun j hj => q1 j hj fun hh => hh⟩
    obtain ⟨u2, s2, en2⟩ := EnSl.back (SlAt.keep r.en K1) (n := k + 1) (by omega)
    rw [List.nil_append] at g1
    obtain ⟨w2, h2, a2, g2, n2, n2', q2⟩ := app_ens g1 en2 (by rw [List.length_take]; omega) (by rw [List.length_drop]; omega)
    have K2 : Keep h h2 := ⟨by omega, fun j hj => (q2 j (by omega) (by rintro (hh | hh); exact hh; omega)).trans (K1.2 j hj)⟩
    have r1 := r.keeps K1
    have c0 : ∀ k, h.next ≤ k → c k = 0 := fun k hk => Decidable.byContradiction fun h0 => by have := r.lt k h0; omega
    have r2 := (r.keeps K2).paint (p := fun k => h.next ≤ k ∧ k < h2.next) (x := 3) (fun k hk => hk.2) (by decide)
    have g3 : Gr (fun j => paint c (fun k => h.next ≤ k ∧ k < h2.next) 3 j = 3) h2 w2 126 3 (ens (T.L.take k ++ T.L.drop (k + 1))) := g2.mono (fun j hj => by
      rcases hj with (hj | hj) | hj
      · exact hj.elim
      · exact paint_new (c0 j hj.1) ⟨hj.1, by omega⟩
      · exact paint_new (c0 j (by omega)) ⟨by omega, hj.2⟩) fun j hj => r2.lt j (by rw [hj]; decide)
    have r3 := r2.setL g3
    obtain ⟨z1, z2⟩ := g2.cell
    have wk : IntKind.i64.wrap ((k : Int) + 1) = ((k + 1 : Nat) : Int) := by rw [wrap64 (by omega) (by omega)]; rfl
    have gb := r2.row
    have rb := r2.rw
    repeat' (first | simp only [evr, nextP_norm, evd, evq, beq_self_eq_true, cond_true, cond_false, reduceIte, Nat.reduceEqDiff, Nat.reduceAdd, Int.reduceBNe, Int.reduceBEq, Int.reduceLT, Int.reduceLE, Int.reduceEq, evh, evp, Nat.reduceLeDiff, Nat.reduceSub, Nat.reduceBEq, typs, ca, f1, r.rw, hia, hr2, c1, cm, f2] | refine kCond2_by (fun hc => ?_) (fun hc => ?_) <;> try simp only [hc] | refine kPick_by (fun hc => ?_) (fun hc => ?_) <;> try simp only [hc] | refine kWant_by (fun hc => ?_) (fun hc => ?_) <;> try simp only [hc])
    refine Wp_drawE [0, 0, 0, 0, 1, 0, 0, 3, 0, 0, 0, 1, 0, 0, 0, 4, 0, 0, 4] (KR.mk (by kernel_rfl)) ?_
    repeat' (first | simp only [evr, nextP_norm, evd, evq, beq_self_eq_true, cond_true, cond_false, reduceIte, Nat.reduceEqDiff, Nat.reduceAdd, Int.reduceBNe, Int.reduceBEq, Int.reduceLT, Int.reduceLE, Int.reduceEq, evh, evp, Nat.reduceLeDiff, Nat.reduceSub, Nat.reduceBEq, typs, r.rw, r1.rw, s1, a1, wk, s2, a2, gb, rb, z1, z2] | refine kCond2_by (fun hc => ?_) (fun hc => ?_) <;> try simp only [hc] | refine kPick_by (fun hc => ?_) (fun hc => ?_) <;> try simp only [hc] | refine kWant_by (fun hc => ?_) (fun hc => ?_) <;> try simp only [hc])
    rw [if_neg h5]
    have ed : e.dir = d ∧ e.name = s := by have h6 := congrArg Prod.fst e4; have h7 := congrArg Prod.snd e4; exact ⟨h6, h7⟩
    have okt := (ok.take e5).1
    rw [ed.1, ed.2] at okt
    have et : T.taken d s = ⟨T.B, T.L.take k ++ T.L.drop (k + 1), T.D⟩ := by unfold Hi.taken; rw [← taken_eq ok e2, e4]
    refine ⟨rfl, _, ⟨_, _, _, _, _, fun k => Iff.rfl, by rw [et]; exact r3, okt, ha⟩, upd_paint (p := fun k => h.next ≤ k ∧ k < h2.next) (x := 3) hF K2.1 (fun j hj hc => ?_) fun j hj => hj.1⟩
    rw [Hp.get_set_ne (by rintro rfl; rw [r.me] at hc; cases hc)]
    exact K2.2 j hj
end
end Go.Proofs.YtncmgiddcefpcaaGreatDoor
namespace Go.Proofs.YtncmgiddcefpcaaGreatDoor
open Go Go.Ev Go.Con
set_option linter.unusedSimpArgs false
set_option linter.unusedVariables false
set_option maxRecDepth 100000
theorem evBin_lssS {P : Program} {t : TypeId} {xo yo : Operand} {s u : ByteArray} : evBin P .lss t xo yo (.string s) (.string u) = some (.bool (ltS s u)) := by
  show some (Value.bool (Op.bytesLess s.toList u.toList)) = _
  rw [toList_data, toList_data, bless_lt]; rfl
theorem StrSl.back {h : Hp} {v : Value} {ps : List ByteArray} (s : StrSl h v ps) {n : Nat} (hn : n ≤ ps.length) : ∃ u, evSlice kon.P 46 v (some (.int .i64 n)) none none = some u ∧ StrSl h u (ps.drop n) := by
  rcases s with ⟨rfl, hp⟩ | ⟨b, o, k, c, all, rfl, h2, h3, h4, h5, h6⟩
  · have : ps = [] := by simpa [strs] using hp
    subst this
    have : n = 0 := by simpa using hn
    subst this
    exact ⟨_, by kernel_rfl, .inl ⟨rfl, rfl⟩⟩
  · have hk : ps.length = k := by rw [strs_len] at h5; omega
    subst hk
    refine ⟨_, (L_sliceSl (C := kon) (t := 46) (e := 9) (n := 1) (by kernel_rfl) (by kernel_rfl)).1 b o ps.length c .i64 n (by omega) (by omega) h2, .inr ⟨b, o + n * 1, ps.length - n, capTail c n, all, by rw [Int.toNat_natCast], by unfold capTail; omega, h3, h4, by rw [strs_len, List.length_drop, Nat.mul_one], ?_⟩⟩
    have : strs (ps.drop n) = (strs ps).drop n := by simp [strs]
    rw [this, ← h6, List.drop_take, List.drop_drop]
    congr 1
    · omega
    · congr 1; omega
theorem app_strG {G : Nat → Prop} {h : Hp} {v x : Value} {l m : List ByteArray} (g : Gr G h v 9 1 (strs l)) (s : StrSl h x m) (hl : l.length ≤ 1000000001) (hm : m.length ≤ 1000000000) :
    ∃ v' h', evAppend kon.P 46 v x h = some (v', h') ∧ Gr (fun k => G k ∨ (h.next ≤ k ∧ k < h'.next)) h' v' 9 1 (strs (l ++ m)) ∧ h.next ≤ h'.next ∧ h'.next ≤ h.next + 1 ∧ ∀ c, c < h.next → ¬ G c → h'.get c = h.get c := by
  rw [strs_app]
  obtain ⟨j, e1, e2, e3⟩ := SlAt.cells s
  have hj : j = m.length := by rw [strs_len] at e3; omega
  subst hj
  exact append_gr0 (e := 9) (n := 1) (by_ := 16) (z := .string ByteArray.empty) (by kernel_rfl) (by kernel_rfl) (by kernel_rfl) (by kernel_rfl) (by kernel_rfl) (Nat.le_refl _) g e1 e2 e3 (strs_cell _)
    (by rw [strs_len]; exact Nat.le_trans (Nat.mul_le_mul_right 17 (show _ ≤ 4000001026 by omega)) (by decide))
theorem rowOf_same {h h' : Hp} {b : Nat} (e : h'.get b = h.get b) : rowOf h' b = rowOf h b := by unfold rowOf; rw [e]
abbrev lb (s : ByteArray) : List UInt8 := s.data.toList
def sortS (l : List ByteArray) : List ByteArray := (sortB (l.map lb)).map ofL
theorem ofL_lb (s : ByteArray) : ofL (lb s) = s := by apply ba_ext; simp [ofL]
theorem sortS_uniq {l k : List ByteArray} (hp : k.Perm l) (hs : k.Pairwise fun a b => ltS b a = false) : k = sortS l := by
  have h1 : k.map lb = sortB (l.map lb) := sortB_uniq (hp.map lb) (by
    rw [List.pairwise_map]
    exact hs.imp fun {a b} h => of_decide_eq_false h)
  unfold sortS
  rw [← h1, List.map_map]
  have : (ofL ∘ lb) = id := by funext s; exact ofL_lb s
  rw [this, List.map_id]
theorem sortS_perm (l : List ByteArray) : (sortS l).Perm l := by
  unfold sortS
  have := (sortB_perm (l.map lb)).map ofL
  rw [List.map_map] at this
  have e : (ofL ∘ lb) = id := by funext s; exact ofL_lb s
  rwa [e, List.map_id] at this
theorem sortS_sorted (l : List ByteArray) : (sortS l).Pairwise fun a b => ltS b a = false := by
  unfold sortS
  rw [List.pairwise_map]
  exact (sortB_sorted (l.map lb)).imp fun {a b} h => by unfold ltS; rw [ofL_data, ofL_data]; exact decide_eq_false h
theorem ltS_false {a b : ByteArray} : ltS a b = false ↔ lb b ≤ lb a := by simp [ltS, lb]
theorem ltS_true {a b : ByteArray} : ltS a b = true ↔ lb a < lb b := by simp [ltS, lb]
theorem sortS_ins {l : List ByteArray} {x : ByteArray} {k : Nat} (hk : k ≤ (sortS l).length) (h1 : ∀ y ∈ (sortS l).drop k, ltS x y = true) (h2 : k = 0 ∨ ∃ y, (sortS l)[k - 1]? = some y ∧ ltS x y = false) :
    (sortS l).take k ++ [x] ++ (sortS l).drop k = sortS (l ++ [x]) := by
  have sd := sortS_sorted l
  have pm := sortS_perm l
  generalize sortS l = s at *
  refine sortS_uniq ?_ ?_
  · have : (s.take k ++ [x] ++ s.drop k).Perm (s.take k ++ s.drop k ++ [x]) := by
      rw [List.append_assoc, List.append_assoc]
      exact List.Perm.append_left _ List.perm_append_comm
    rw [List.take_append_drop] at this
    exact this.trans (pm.append_right _)
  · rw [← List.take_append_drop k s] at sd
    obtain ⟨s1, s2, s3⟩ := List.pairwise_append.1 sd
    rw [List.append_assoc, List.pairwise_append]
    refine ⟨s1, ?_, fun a ha b hb => ?_⟩
    · rw [List.singleton_append, List.pairwise_cons]
      refine ⟨fun b hb => ?_, s2⟩
      have := ltS_true.1 (h1 b hb)
      exact ltS_false.2 (List.le_of_lt this)
    · rcases List.mem_append.1 hb with hb | hb
      · simp only [List.mem_singleton] at hb; subst hb
        rcases h2 with rfl | ⟨y, hy, hxy⟩
        · simp at ha
        · have hk1 : k - 1 < s.length := (List.getElem?_eq_some_iff.1 hy).1
          obtain ⟨j, hj, rfl⟩ := List.mem_take_iff_getElem.1 ha
          by_cases e : j = k - 1
          · subst e
            have : y = s[k - 1] := by rw [List.getElem?_eq_getElem hk1] at hy; exact (Option.some.inj hy).symm
            rw [← this]; exact hxy
          · have e2 := (List.getElem?_eq_some_iff.1 hy).2
            rw [List.take_append_drop] at sd
            have := List.pairwise_iff_getElem.1 sd j (k - 1) (by omega) hk1 (by omega)
            rw [e2] at this
            exact ltS_false.2 (List.le_trans (ltS_false.1 this) (ltS_false.1 hxy))
      · exact s3 a ha b hb
theorem StrSl.at2 {h : Hp} {v : Value} {l : List ByteArray} (s : StrSl h v l) {i : Nat} {x : ByteArray} (hi : l[i]? = some x) : ∃ b o all, evIndexAddr kon.P 46 v (.int .i64 i) = some (.pointer (some ⟨b, o, none⟩)) ∧ rowOf h b = some all ∧ all[o]? = some (.string x) := by
  have hlt : i < l.length := (List.getElem?_eq_some_iff.1 hi).1
  rcases s with ⟨rfl, hl⟩ | ⟨b, o, k, c, all, rfl, h2, h3, h4, h5, h6⟩
  · have : l = [] := by simpa [strs] using hl
    subst this; simp at hlt
  · have hk : k = l.length := by simpa [strs] using h5.symm
    subst hk
    refine ⟨b, o + i, all, ?_, h4, ?_⟩
    · have := L_indexAddr (C := kon) (t := 46) (e := 9) (n := 1) (by kernel_rfl) (by kernel_rfl) b o l.length c .i64 i (by omega) (by omega)
      simpa using this
    · have h7 : ((all.drop o).take (l.length * 1))[i]? = some (.string x) := by rw [h6]; simp [strs, hi]
      rw [List.getElem?_take, if_pos (by omega), List.getElem?_drop] at h7
      exact h7
def nmT (L : List En) (d : Int) : List ByteArray := (L.filter fun e => decide (e.dir = d)).map (·.name)
section
variable {h : Hp} {c : Nat → Nat} {T : Hi} {br : Nat} {vB vL vD : Value} {cs : List Value}
set_option maxHeartbeats 2000000 in
theorem rNm_spec (r : RefB h c T br vB vL vD cs) (hL : T.L.length ≤ 1000000000) (d : Int) : Meets kon 104 [ptrV br, .int .i64 d] h fun v h' => Keep h h' ∧ Fresh h.next h' v 9 1 (strs (sortedN T d)) := by
  unfold ptrV
  refine Meets.mk rfl (by kernel_rfl) Tryz.func104 rfl (congrArg Array.toList Tryz.results104) ?_
  repeat' (first | simp only [evr, nextP_norm, evd, evq, beq_self_eq_true, cond_true, cond_false, reduceIte, Nat.reduceEqDiff, Nat.reduceAdd, Int.reduceBNe, Int.reduceBEq, Int.reduceLT, Int.reduceLE, Int.reduceEq, evh, evp, Nat.reduceLeDiff, Nat.reduceSub, Nat.reduceBEq, typs] | refine kCond2_by (fun hc => ?_) (fun hc => ?_) <;> try simp only [hc] | refine kPick_by (fun hc => ?_) (fun hc => ?_) <;> try simp only [hc] | refine kWant_by (fun hc => ?_) (fun hc => ?_) <;> try simp only [hc])
  refine Wp_loop (fun k fr h' => Keep h h' ∧ ∃ (i : Nat) (v : Value), k = T.L.length - i ∧ i ≤ T.L.length ∧ fr.get 0 = some (.pointer (some ⟨br, 0, none⟩)) ∧ fr.get 1 = some (.int .i64 d) ∧ fr.get 5 = some v ∧ fr.get 6 = some (.int .i64 i) ∧ Fresh h.next h' v 9 1 (strs (sortS (nmT (T.L.take i) d)))) T.L.length ⟨Keep.refl _, 0, .slice none 0 0, rfl, Nat.zero_le _, ?_, ?_, ?_, ?_, ?_⟩ ?_
  · repeat' (first | simp only [evr, nextP_norm, evd, evq, beq_self_eq_true, cond_true, cond_false, reduceIte, Nat.reduceEqDiff, Nat.reduceAdd, Int.reduceBNe, Int.reduceBEq, Int.reduceLT, Int.reduceLE, Int.reduceEq, evh, evp, Nat.reduceLeDiff, Nat.reduceSub, Nat.reduceBEq, typs] | refine kCond2_by (fun hc => ?_) (fun hc => ?_) <;> try simp only [hc] | refine kPick_by (fun hc => ?_) (fun hc => ?_) <;> try simp only [hc] | refine kWant_by (fun hc => ?_) (fun hc => ?_) <;> try simp only [hc])
  · repeat' (first | simp only [evr, nextP_norm, evd, evq, beq_self_eq_true, cond_true, cond_false, reduceIte, Nat.reduceEqDiff, Nat.reduceAdd, Int.reduceBNe, Int.reduceBEq, Int.reduceLT, Int.reduceLE, Int.reduceEq, evh, evp, Nat.reduceLeDiff, Nat.reduceSub, Nat.reduceBEq, typs] | refine kCond2_by (fun hc => ?_) (fun hc => ?_) <;> try simp only [hc] | refine kPick_by (fun hc => ?_) (fun hc => ?_) <;> try simp only [hc] | refine kWant_by (fun hc => ?_) (fun hc => ?_) <;> try simp only [hc])
  · repeat' (first | simp only [evr, nextP_norm, evd, evq, beq_self_eq_true, cond_true, cond_false, reduceIte, Nat.reduceEqDiff, Nat.reduceAdd, Int.reduceBNe, Int.reduceBEq, Int.reduceLT, Int.reduceLE, Int.reduceEq, evh, evp, Nat.reduceLeDiff, Nat.reduceSub, Nat.reduceBEq, typs] | refine kCond2_by (fun hc => ?_) (fun hc => ?_) <;> try simp only [hc] | refine kPick_by (fun hc => ?_) (fun hc => ?_) <;> try simp only [hc] | refine kWant_by (fun hc => ?_) (fun hc => ?_) <;> try simp only [hc])
  · repeat' (first | simp only [evr, nextP_norm, evd, evq, beq_self_eq_true, cond_true, cond_false, reduceIte, Nat.reduceEqDiff, Nat.reduceAdd, Int.reduceBNe, Int.reduceBEq, Int.reduceLT, Int.reduceLE, Int.reduceEq, evh, evp, Nat.reduceLeDiff, Nat.reduceSub, Nat.reduceBEq, typs] | refine kCond2_by (fun hc => ?_) (fun hc => ?_) <;> try simp only [hc] | refine kPick_by (fun hc => ?_) (fun hc => ?_) <;> try simp only [hc] | refine kWant_by (fun hc => ?_) (fun hc => ?_) <;> try simp only [hc])
    rfl
  · exact Fresh.nil _ _ _ _
  rintro k fr H ⟨K, i, v, rfl, hi, g0, g1, g5, g6, g⟩
  have rH := r.keeps K
  have la := rH.en.len
  by_cases h3 : i < T.L.length
  · have e3 : decide ((i : Int) < T.L.length) = true := by simp; omega
    obtain ⟨b2, o, all, hia, hb, hr2, c0, c1, c2⟩ := EnSl.at rH.en (List.getElem?_eq_getElem h3)
    have w1 := wrap64 (x := (i : Int) + 1) (by omega) (by omega)
    have htk : T.L.take (i + 1) = T.L.take i ++ [T.L[i]] := (List.take_append_getElem h3).symm
    by_cases hd : T.L[i].dir = d
    · have f1 : (T.L[i].dir != d) = false := by simp [hd]
      have hps : (sortS (nmT (T.L.take i) d)).length ≤ i := by
        rw [(sortS_perm _).length_eq]; unfold nmT; rw [List.length_map]
        exact Nat.le_trans (List.length_filter_le ..) (by rw [List.length_take]; omega)
      have ls := StrSl.len g.slAt
      have hnm : nmT (T.L.take (i + 1)) d = nmT (T.L.take i) d ++ [T.L[i].name] := by
        rw [htk]; unfold nmT; rw [List.filter_append, List.map_append, List.filter_cons, if_pos (by simpa using hd)]; rfl
      generalize hx : T.L[i].name = x at *
      generalize nmT (T.L.take i) d = nm at *
      repeat' (first | simp only [evr, nextP_norm, evd, evq, beq_self_eq_true, cond_true, cond_false, reduceIte, Nat.reduceEqDiff, Nat.reduceAdd, Int.reduceBNe, Int.reduceBEq, Int.reduceLT, Int.reduceLE, Int.reduceEq, evh, evp, Nat.reduceLeDiff, Nat.reduceSub, Nat.reduceBEq, typs, g0, g1, g5, g6, rH.rw, la, e3, hia, hr2, c0, f1, ls] | refine kCond2_by (fun hc => ?_) (fun hc => ?_) <;> try simp only [hc] | refine kPick_by (fun hc => ?_) (fun hc => ?_) <;> try simp only [hc] | refine kWant_by (fun hc => ?_) (fun hc => ?_) <;> try simp only [hc])
      refine Wp_loop (fun k fr h' => h' = H ∧ ∃ a : Nat, k = a ∧ a ≤ (sortS nm).length ∧ fr.get 0 = some (.pointer (some ⟨br, 0, none⟩)) ∧ fr.get 1 = some (.int .i64 d) ∧ fr.get 5 = some v ∧ fr.get 6 = some (.int .i64 i) ∧ fr.get 7 = some (.int .i64 a) ∧ ∀ y ∈ (sortS nm).drop a, ltS x y = true) (sortS nm).length ⟨rfl, (sortS nm).length, rfl, Nat.le_refl _, ?_, ?_, ?_, ?_, ?_, by simp⟩ ?_
      · repeat' (first | simp only [evr, nextP_norm, evd, evq, beq_self_eq_true, cond_true, cond_false, reduceIte, Nat.reduceEqDiff, Nat.reduceAdd, Int.reduceBNe, Int.reduceBEq, Int.reduceLT, Int.reduceLE, Int.reduceEq, evh, evp, Nat.reduceLeDiff, Nat.reduceSub, Nat.reduceBEq, typs, g0] | refine kCond2_by (fun hc => ?_) (fun hc => ?_) <;> try simp only [hc] | refine kPick_by (fun hc => ?_) (fun hc => ?_) <;> try simp only [hc] | refine kWant_by (fun hc => ?_) (fun hc => ?_) <;> try simp only [hc])
      · repeat' (first | simp only [evr, nextP_norm, evd, evq, beq_self_eq_true, cond_true, cond_false, reduceIte, Nat.reduceEqDiff, Nat.reduceAdd, Int.reduceBNe, Int.reduceBEq, Int.reduceLT, Int.reduceLE, Int.reduceEq, evh, evp, Nat.reduceLeDiff, Nat.reduceSub, Nat.reduceBEq, typs, g1] | refine kCond2_by (fun hc => ?_) (fun hc => ?_) <;> try simp only [hc] | refine kPick_by (fun hc => ?_) (fun hc => ?_) <;> try simp only [hc] | refine kWant_by (fun hc => ?_) (fun hc => ?_) <;> try simp only [hc])
      · repeat' (first | simp only [evr, nextP_norm, evd, evq, beq_self_eq_true, cond_true, cond_false, reduceIte, Nat.reduceEqDiff, Nat.reduceAdd, Int.reduceBNe, Int.reduceBEq, Int.reduceLT, Int.reduceLE, Int.reduceEq, evh, evp, Nat.reduceLeDiff, Nat.reduceSub, Nat.reduceBEq, typs, g5] | refine kCond2_by (fun hc => ?_) (fun hc => ?_) <;> try simp only [hc] | refine kPick_by (fun hc => ?_) (fun hc => ?_) <;> try simp only [hc] | refine kWant_by (fun hc => ?_) (fun hc => ?_) <;> try simp only [hc])
      · repeat' (first | simp only [evr, nextP_norm, evd, evq, beq_self_eq_true, cond_true, cond_false, reduceIte, Nat.reduceEqDiff, Nat.reduceAdd, Int.reduceBNe, Int.reduceBEq, Int.reduceLT, Int.reduceLE, Int.reduceEq, evh, evp, Nat.reduceLeDiff, Nat.reduceSub, Nat.reduceBEq, typs, g6] | refine kCond2_by (fun hc => ?_) (fun hc => ?_) <;> try simp only [hc] | refine kPick_by (fun hc => ?_) (fun hc => ?_) <;> try simp only [hc] | refine kWant_by (fun hc => ?_) (fun hc => ?_) <;> try simp only [hc])
      · repeat' (first | simp only [evr, nextP_norm, evd, evq, beq_self_eq_true, cond_true, cond_false, reduceIte, Nat.reduceEqDiff, Nat.reduceAdd, Int.reduceBNe, Int.reduceBEq, Int.reduceLT, Int.reduceLE, Int.reduceEq, evh, evp, Nat.reduceLeDiff, Nat.reduceSub, Nat.reduceBEq, typs] | refine kCond2_by (fun hc => ?_) (fun hc => ?_) <;> try simp only [hc] | refine kPick_by (fun hc => ?_) (fun hc => ?_) <;> try simp only [hc] | refine kWant_by (fun hc => ?_) (fun hc => ?_) <;> try simp only [hc])
      rintro a fr' h' ⟨hh, _, rfl, ha, q0, q1, q5, q6, q7, hgt⟩
      rw [hh]
      clear hh
      obtain ⟨u1, s1, en1⟩ := StrSl.front g.slAt ha
      obtain ⟨v1, h1, a1, g1, n1, n1', k1⟩ := app_strG (l := []) (Gr.nil H _ _) en1 (Nat.zero_le _) (by rw [List.length_take]; omega)
      rw [List.nil_append] at g1
      have KH1 : Keep H h1 := ⟨n1, fun j hj => k1 j hj fun hh => hh⟩
      have r1 := rH.keeps KH1
      have hr21 : rowOf h1 b2 = some all := by rw [rowOf_same (KH1.2 b2 hb)]; exact hr2
      have P2 : Keep h1 (h1.push (.row [.string x] 9 (.rw 0 []))) := Keep.push _ _
      obtain ⟨v2, h2, a2, g2, n2, n2', k2⟩ := app_strG (x := .slice (some ⟨h1.next, 0, none⟩) 1 2) (l := (sortS nm).take a) (m := [x]) (g1.keeps P2) (.inr ⟨h1.next, 0, 1, 2, [.string x], rfl, by decide, Nat.lt_succ_self _, rowOf_rw (Hp.get_push_self _ _), rfl, rfl⟩) (by rw [List.length_take]; omega) (by simp)
      have e2n : (h1.push (.row [.string x] 9 (.rw 0 []))).next = h1.next + 1 := rfl
      have KH2 : Keep H h2 := ⟨by omega, fun j hj => (k2 j (by omega) (by rintro (hh | hh); exact hh; omega)).trans ((P2.2 j (by omega)).trans (KH1.2 j hj))⟩
      obtain ⟨u2, s2, en2⟩ := StrSl.back g.slAt ha
      obtain ⟨v3, h3', a3, g3, n3, n3', k3⟩ := app_strG g2 (SlAt.keep en2 KH2) (by rw [List.length_append, List.length_take]; simp; omega) (by rw [List.length_drop]; omega)
      have KH3 : Keep H h3' := ⟨by omega, fun j hj => (k3 j (by omega) (by rintro ((hh | hh) | hh); exact hh; omega; omega)).trans (KH2.2 j hj)⟩
      have fin : (a = 0 ∨ ∃ y, (sortS nm)[a - 1]? = some y ∧ ltS x y = false) → Fresh h.next h3' v3 9 1 (strs (sortS (nm ++ [x]))) := fun hp => by
        rw [← sortS_ins ha hgt hp]
        refine ⟨_, g3, fun k hk => ?_⟩
        have := K.1
        rcases hk with ((hk | hk) | hk) | hk
        · exact hk.elim
        · omega
        · omega
        · omega
      have eh := hnm
      by_cases a0 : a = 0
      · have w0 : decide ((0 : Int) < (a : Int)) = false := by simp; omega
        repeat' (first | simp only [evr, nextP_norm, evd, evq, beq_self_eq_true, cond_true, cond_false, reduceIte, Nat.reduceEqDiff, Nat.reduceAdd, Int.reduceBNe, Int.reduceBEq, Int.reduceLT, Int.reduceLE, Int.reduceEq, evh, evp, Nat.reduceLeDiff, Nat.reduceSub, Nat.reduceBEq, typs, q0, q1, q5, q6, q7, w0] | refine kCond2_by (fun hc => ?_) (fun hc => ?_) <;> try simp only [hc] | refine kPick_by (fun hc => ?_) (fun hc => ?_) <;> try simp only [hc] | refine kWant_by (fun hc => ?_) (fun hc => ?_) <;> try simp only [hc])
        refine Eq.mpr (Wp_drawOrd (KR.mk (by kernel_rfl))) ?_
        repeat' (first | simp only [evr, nextP_norm, evd, evq, beq_self_eq_true, cond_true, cond_false, reduceIte, Nat.reduceEqDiff, Nat.reduceAdd, Int.reduceBNe, Int.reduceBEq, Int.reduceLT, Int.reduceLE, Int.reduceEq, evh, evp, Nat.reduceLeDiff, Nat.reduceSub, Nat.reduceBEq, typs, q0, q1, q5, q6, q7, w0] | refine kCond2_by (fun hc => ?_) (fun hc => ?_) <;> try simp only [hc] | refine kPick_by (fun hc => ?_) (fun hc => ?_) <;> try simp only [hc] | refine kWant_by (fun hc => ?_) (fun hc => ?_) <;> try simp only [hc])
        refine Wp_drawE [0, 0, 0, 3, 0, 0, 0, 1, 0, 0, 0, 1, 2, 4, 0, 0, 0, 4, 0] (KR.mk (by kernel_rfl)) ?_
        repeat' (first | simp only [evr, nextP_norm, evd, evq, beq_self_eq_true, cond_true, cond_false, reduceIte, Nat.reduceEqDiff, Nat.reduceAdd, Int.reduceBNe, Int.reduceBEq, Int.reduceLT, Int.reduceLE, Int.reduceEq, evh, evp, Nat.reduceLeDiff, Nat.reduceSub, Nat.reduceBEq, typs, q0, q1, q5, q6, q7, s1, a1, rH.rw, r1.rw, hia, hr2, hr21, c2, a2, s2, a3, w1] | refine kCond2_by (fun hc => ?_) (fun hc => ?_) <;> try simp only [hc] | refine kPick_by (fun hc => ?_) (fun hc => ?_) <;> try simp only [hc] | refine kWant_by (fun hc => ?_) (fun hc => ?_) <;> try simp only [hc])
        exact ⟨T.L.length - (i + 1), by omega, K.trans KH3, i + 1, v3, rfl, by omega, rfl, rfl, by rw [hnm]; exact fin (.inl a0)⟩
      · have w0 : decide ((0 : Int) < (a : Int)) = true := by simp; omega
        have wa : IntKind.i64.wrap ((a : Int) - 1) = ((a - 1 : Nat) : Int) := by rw [wrap64 (by omega) (by omega)]; omega
        obtain ⟨y, hy⟩ : ∃ y, (sortS nm)[a - 1]? = some y := ⟨_, List.getElem?_eq_getElem (by omega)⟩
        obtain ⟨b3, o3, all3, hia3, hr3, c3⟩ := StrSl.at2 g.slAt hy
        cases hlt : ltS x y with
        | true =>
          repeat' (first | simp only [evr, nextP_norm, evd, evq, beq_self_eq_true, cond_true, cond_false, reduceIte, Nat.reduceEqDiff, Nat.reduceAdd, Int.reduceBNe, Int.reduceBEq, Int.reduceLT, Int.reduceLE, Int.reduceEq, evh, evp, Nat.reduceLeDiff, Nat.reduceSub, Nat.reduceBEq, typs, q0, q1, q5, q6, q7, w0] | refine kCond2_by (fun hc => ?_) (fun hc => ?_) <;> try simp only [hc] | refine kPick_by (fun hc => ?_) (fun hc => ?_) <;> try simp only [hc] | refine kWant_by (fun hc => ?_) (fun hc => ?_) <;> try simp only [hc])
          refine Eq.mpr (Wp_drawOrd (KR.mk (by kernel_rfl))) ?_
          repeat' (first | simp only [evr, nextP_norm, evd, evq, beq_self_eq_true, cond_true, cond_false, reduceIte, Nat.reduceEqDiff, Nat.reduceAdd, Int.reduceBNe, Int.reduceBEq, Int.reduceLT, Int.reduceLE, Int.reduceEq, evh, evp, Nat.reduceLeDiff, Nat.reduceSub, Nat.reduceBEq, typs, q0, q1, q5, q6, q7, w0, rH.rw, hia, hr2, c2, wa, hia3, hr3, c3, evBin_lssS, hlt] | refine kCond2_by (fun hc => ?_) (fun hc => ?_) <;> try simp only [hc] | refine kPick_by (fun hc => ?_) (fun hc => ?_) <;> try simp only [hc] | refine kWant_by (fun hc => ?_) (fun hc => ?_) <;> try simp only [hc])
          refine ⟨a - 1, by omega, _, rfl, by omega, rfl, fun z hz => ?_⟩
          have hya : a - 1 < (sortS nm).length := by omega
          rw [List.drop_eq_getElem_cons hya, show a - 1 + 1 = a by omega] at hz
          rcases List.mem_cons.1 hz with rfl | hz
          · have : y = (sortS nm)[a - 1] := by rw [List.getElem?_eq_getElem hya] at hy; exact (Option.some.inj hy).symm
            rw [← this]; exact hlt
          · exact hgt z hz
        | false =>
          repeat' (first | simp only [evr, nextP_norm, evd, evq, beq_self_eq_true, cond_true, cond_false, reduceIte, Nat.reduceEqDiff, Nat.reduceAdd, Int.reduceBNe, Int.reduceBEq, Int.reduceLT, Int.reduceLE, Int.reduceEq, evh, evp, Nat.reduceLeDiff, Nat.reduceSub, Nat.reduceBEq, typs, q0, q1, q5, q6, q7, w0] | refine kCond2_by (fun hc => ?_) (fun hc => ?_) <;> try simp only [hc] | refine kPick_by (fun hc => ?_) (fun hc => ?_) <;> try simp only [hc] | refine kWant_by (fun hc => ?_) (fun hc => ?_) <;> try simp only [hc])
          refine Eq.mpr (Wp_drawOrd (KR.mk (by kernel_rfl))) ?_
          repeat' (first | simp only [evr, nextP_norm, evd, evq, beq_self_eq_true, cond_true, cond_false, reduceIte, Nat.reduceEqDiff, Nat.reduceAdd, Int.reduceBNe, Int.reduceBEq, Int.reduceLT, Int.reduceLE, Int.reduceEq, evh, evp, Nat.reduceLeDiff, Nat.reduceSub, Nat.reduceBEq, typs, q0, q1, q5, q6, q7, w0, rH.rw, hia, hr2, c2, wa, hia3, hr3, c3, evBin_lssS, hlt] | refine kCond2_by (fun hc => ?_) (fun hc => ?_) <;> try simp only [hc] | refine kPick_by (fun hc => ?_) (fun hc => ?_) <;> try simp only [hc] | refine kWant_by (fun hc => ?_) (fun hc => ?_) <;> try simp only [hc])
          refine Wp_drawE [0, 0, 0, 3, 0, 0, 0, 1, 0, 0, 0, 1, 2, 4, 0, 0, 0, 4, 0] (KR.mk (by kernel_rfl)) ?_
          repeat' (first | simp only [evr, nextP_norm, evd, evq, beq_self_eq_true, cond_true, cond_false, reduceIte, Nat.reduceEqDiff, Nat.reduceAdd, Int.reduceBNe, Int.reduceBEq, Int.reduceLT, Int.reduceLE, Int.reduceEq, evh, evp, Nat.reduceLeDiff, Nat.reduceSub, Nat.reduceBEq, typs, q0, q1, q5, q6, q7, s1, a1, rH.rw, r1.rw, hia, hr2, hr21, c2, a2, s2, a3, w1] | refine kCond2_by (fun hc => ?_) (fun hc => ?_) <;> try simp only [hc] | refine kPick_by (fun hc => ?_) (fun hc => ?_) <;> try simp only [hc] | refine kWant_by (fun hc => ?_) (fun hc => ?_) <;> try simp only [hc])
          exact ⟨T.L.length - (i + 1), by omega, K.trans KH3, i + 1, v3, rfl, by omega, rfl, rfl, by rw [hnm]; exact fin (.inr ⟨y, hy, hlt⟩)⟩
    · have f1 : (T.L[i].dir != d) = true := by simpa using hd
      repeat' (first | simp only [evr, nextP_norm, evd, evq, beq_self_eq_true, cond_true, cond_false, reduceIte, Nat.reduceEqDiff, Nat.reduceAdd, Int.reduceBNe, Int.reduceBEq, Int.reduceLT, Int.reduceLE, Int.reduceEq, evh, evp, Nat.reduceLeDiff, Nat.reduceSub, Nat.reduceBEq, typs, g0, g1, g5, g6, rH.rw, la, e3, hia, hr2, c0, f1, w1] | refine kCond2_by (fun hc => ?_) (fun hc => ?_) <;> try simp only [hc] | refine kPick_by (fun hc => ?_) (fun hc => ?_) <;> try simp only [hc] | refine kWant_by (fun hc => ?_) (fun hc => ?_) <;> try simp only [hc])
      refine ⟨T.L.length - (i + 1), by omega, K, i + 1, v, rfl, by omega, rfl, rfl, ?_⟩
      rw [htk]; unfold nmT
      rw [List.filter_append, List.filter_cons, if_neg (by simpa using hd)]
      simpa [nmT] using g
  · have e3 : decide ((i : Int) < T.L.length) = false := by simp; omega
    have hi2 : i = T.L.length := by omega
    subst hi2
    rw [List.take_length] at g
    repeat' (first | simp only [evr, nextP_norm, evd, evq, beq_self_eq_true, cond_true, cond_false, reduceIte, Nat.reduceEqDiff, Nat.reduceAdd, Int.reduceBNe, Int.reduceBEq, Int.reduceLT, Int.reduceLE, Int.reduceEq, evh, evp, Nat.reduceLeDiff, Nat.reduceSub, Nat.reduceBEq, typs, g0, g1, g5, g6, rH.rw, la, e3] | refine kCond2_by (fun hc => ?_) (fun hc => ?_) <;> try simp only [hc] | refine kPick_by (fun hc => ?_) (fun hc => ?_) <;> try simp only [hc] | refine kWant_by (fun hc => ?_) (fun hc => ?_) <;> try simp only [hc])
    exact ⟨K, g⟩
end
end Go.Proofs.YtncmgiddcefpcaaGreatDoor
namespace Go.Proofs.YtncmgiddcefpcaaGreatDoor
open Go Go.Ev Go.Con
set_option linter.unusedSimpArgs false
set_option linter.unusedVariables false
set_option maxRecDepth 100000
section
variable {h : Hp} {c : Nat → Nat} {T : Hi} {br : Nat} {vB vL vD : Value} {cs : List Value}
theorem sortedN_length (T : Hi) (d : Int) : (sortedN T d).length = T.count d := by
  show (sortS (nmT T.L d)).length = _
  rw [(sortS_perm _).length_eq]
  unfold nmT Hi.count
  rw [List.length_map, List.countP_eq_length_filter]
theorem rLen_spec (r : RefB h c T br vB vL vD cs) (hL : T.L.length ≤ 1000000000) (d : Int) : Meets kon 82 [ptrV br, .int .i64 d] h fun v h' => v = .int .i64 (T.count d) ∧ Keep h h' := by
  unfold ptrV
  refine Meets.mk rfl (by kernel_rfl) Tryz.func82 rfl (congrArg Array.toList Tryz.results82) ?_
  repeat' (first | simp only [evr, nextP_norm, evd, evq, beq_self_eq_true, cond_true, cond_false, reduceIte, Nat.reduceEqDiff, Nat.reduceAdd, Int.reduceBNe, Int.reduceBEq, Int.reduceLT, Int.reduceLE, Int.reduceEq, evh, evp, Nat.reduceLeDiff, Nat.reduceSub, Nat.reduceBEq, typs] | refine kCond2_by (fun hc => ?_) (fun hc => ?_) <;> try simp only [hc] | refine kPick_by (fun hc => ?_) (fun hc => ?_) <;> try simp only [hc] | refine kWant_by (fun hc => ?_) (fun hc => ?_) <;> try simp only [hc])
  refine callP_meets (rNm_spec r hL d) ?_
  rintro v h2 ⟨K, g⟩
  have ls := StrSl.len g.slAt
  rw [sortedN_length] at ls
  repeat' (first | simp only [evr, nextP_norm, evd, evq, beq_self_eq_true, cond_true, cond_false, reduceIte, Nat.reduceEqDiff, Nat.reduceAdd, Int.reduceBNe, Int.reduceBEq, Int.reduceLT, Int.reduceLE, Int.reduceEq, evh, evp, Nat.reduceLeDiff, Nat.reduceSub, Nat.reduceBEq, typs, ls] | refine kCond2_by (fun hc => ?_) (fun hc => ?_) <;> try simp only [hc] | refine kPick_by (fun hc => ?_) (fun hc => ?_) <;> try simp only [hc] | refine kWant_by (fun hc => ?_) (fun hc => ?_) <;> try simp only [hc])
  exact K
theorem RefB.pokeD (r : RefB h c T br vB vL vD cs) {i : Nat} (hi : i < T.D.length) : ∃ b h3, evIndexAddr kon.P 93 vD (.int .i64 i) = some (.pointer (some ⟨b, i, none⟩)) ∧ wrOb h b i [.bool false] (h.get b) = some h3 ∧ h3.next = h.next ∧ (∀ k, c k ≠ 4 → h3.get k = h.get k) ∧ RefB h3 c ⟨T.B, T.L, T.D.set i false⟩ br vB vL vD cs := by
  have lD : (T.D.map Value.bool).length = T.D.length := List.length_map _
  obtain ⟨b, k, cp, h3, rfl, hk, hkl, hcb, hw, g', hn, hs⟩ := write_gr r.d (o := i) (vs := [.bool false]) (by rw [lD]; simp; omega) (by simp) rfl
  have hkD : k = T.D.length := by rw [lD] at hkl; omega
  subst hkD
  have hix := L_indexAddr (C := kon) (t := 93) (e := 4) (n := 1) (by kernel_rfl) (by kernel_rfl) b 0 T.D.length cp .i64 i (by omega) (by omega)
  have hsp : Ev.splice (T.D.map Value.bool) i [.bool false] = (T.D.set i false).map Value.bool := by
    unfold Ev.splice
    rw [List.set_eq_take_append_cons_drop, if_pos hi]
    simp
  rw [hsp] at g'
  refine ⟨b, h3, by simpa using hix, by rw [← writeAt_def]; exact hw, hn, hs, ⟨by rw [hs br (by rw [r.me]; decide)]; exact r.row, r.me, r.b.keep (Nat.le_of_eq hn.symm) fun k hk => hs k (by rw [hk]; decide), r.bn.keep (Nat.le_of_eq hn.symm) fun k hk => hs k (by rw [hk]; decide),
    r.l.keep (Nat.le_of_eq hn.symm) fun k hk => hs k (by rw [hk]; decide), g', fun k hk => by rw [hn]; exact r.lt k hk⟩⟩
end
end Go.Proofs.YtncmgiddcefpcaaGreatDoor
namespace Go.Proofs.YtncmgiddcefpcaaGreatDoor
open Go Go.Ev Go.Con
set_option linter.unusedSimpArgs false
set_option linter.unusedVariables false
set_option maxRecDepth 100000
theorem use_tail {C : Ctx} {I : Go.Ev.Fr → Hp → Prop} {c : Code} {Q : Ex → Go.Ev.Fr → Hp → Prop} {R : Prop} (k : (∀ fr h, I fr h → Wp C c fr h Q) → R) (t : ∀ fr h, I fr h → Wp C c fr h Q) : R := k t
theorem three {all : List Value} {o : Nat} {a b c : Value} (h0 : all[o]? = some a) (h1 : all[o + 1]? = some b) (h2 : all[o + 2]? = some c) : decide (o + 3 ≤ all.length) = true ∧ (all.drop o).take 3 = [a, b, c] := by
  have hl : o + 2 < all.length := (List.getElem?_eq_some_iff.1 h2).1
  have : (all.drop o).take 3 = [a, b, c] := by
    apply List.ext_getElem?; intro k
    rw [part_get]
    match k with
    | 0 => simpa using h0
    | 1 => simpa using h1
    | 2 => simpa using h2
    | k + 3 => rw [if_neg (by omega)]; rfl
  exact ⟨decide_eq_true (by omega), this⟩
section
variable {h : Hp} {F : Nat → Prop} {T : Hi} {br : Nat}
def RDelP (F : Nat → Prop) (h : Hp) (br : Nat) (r : Hi × Bn × Int) (v : Value) (h' : Hp) : Prop :=
  ∃ sl F', v = .tuple #[.agg (bnC r.2.1 sl).toArray, .int .i64 r.2.2] ∧ TmTy h' F' sl r.2.1.acl ∧ RefAt h' F' r.1 br ∧ Upd h F h' F'
set_option maxHeartbeats 4000000 in
theorem rDelete_spec (t : RefAt h F T br) (hL : T.L.length ≤ 1000000000) (d : Int) (s : ByteArray) : Meets kon 48 [ptrV br, .int .i64 d, .string s] h (RDelP F h br (T.delete d s)) := by
  obtain ⟨c, vB, vL, vD, cs, hF, r, ok, ha⟩ := t
  have same : ∀ {h' : Hp}, Keep h h' → RefAt h' F T br ∧ Upd h F h' F := fun K => ⟨⟨c, vB, vL, vD, cs, hF, r.keeps K, ok, ha⟩, ⟨K.1, fun k hk _ => K.2 k hk, fun _ hk => .inl hk⟩⟩
  unfold ptrV
  refine Meets.mk rfl (by kernel_rfl) Tryz.func48 rfl (congrArg Array.toList Tryz.results48) ?_
  repeat' (first | simp only [evr, nextP_norm, evd, evq, beq_self_eq_true, cond_true, cond_false, reduceIte, Nat.reduceEqDiff, Nat.reduceAdd, Int.reduceBNe, Int.reduceBEq, Int.reduceLT, Int.reduceLE, Int.reduceEq, evh, evp, Nat.reduceLeDiff, Nat.reduceSub, Nat.reduceBEq, typs] | refine kCond2_by (fun hc => ?_) (fun hc => ?_) <;> try simp only [hc] | refine kPick_by (fun hc => ?_) (fun hc => ?_) <;> try simp only [hc] | refine kWant_by (fun hc => ?_) (fun hc => ?_) <;> try simp only [hc])
  generalize hh : Hp.push h _ = H
  have g3 : H.get h.next = some (.row [.int .i64 0, .int .i64 0, .int .i64 0, .string ByteArray.empty, .bool false, .slice none 0 0, .int .i64 0, .int .i64 0, .int .i64 0, .int .i64 0] 34 (.rw 0 [])) := by rw [← hh]; exact Hp.get_push_self _ _
  have hk : Keep h H := by rw [← hh]; exact Keep.push _ _
  have hx : H.next = h.next + 1 := by rw [← hh]; rfl
  clear hh
  have rH := r.keeps hk
  have ca := (rH.at hL d s).call
  unfold ptrV at ca
  have q3 := rowOf_rw g3
  cases hg : T.get d s with
  | none =>
    rw [atI_none hg] at ca
    have e : T.delete d s = (T, noBn, 4) := by unfold Hi.delete; rw [hg]
    rw [e]
    repeat' (first | simp only [evr, nextP_norm, evd, evq, beq_self_eq_true, cond_true, cond_false, reduceIte, Nat.reduceEqDiff, Nat.reduceAdd, Int.reduceBNe, Int.reduceBEq, Int.reduceLT, Int.reduceLE, Int.reduceEq, evh, evp, Nat.reduceLeDiff, Nat.reduceSub, Nat.reduceBEq, typs, ca, q3, g3] | refine kCond2_by (fun hc => ?_) (fun hc => ?_) <;> try simp only [hc] | refine kPick_by (fun hc => ?_) (fun hc => ?_) <;> try simp only [hc] | refine kWant_by (fun hc => ?_) (fun hc => ?_) <;> try simp only [hc])
    exact ⟨.slice none 0 0, F, rfl, .inl ⟨rfl, rfl⟩, same (hk.set (Nat.le_refl _))⟩
  | some i =>
  have f1 : decide (atI T.L d s < 0) = false := by rw [atI_lt, hg]; rfl
  obtain ⟨k, e, e1, e2, e3, e4, e5⟩ := atI_some hg
  obtain ⟨b2, o, all, hia, hb, hr2, c0, c1, c2⟩ := EnSl.at rH.en e2
  rw [e1] at ca f1
  subst e3
  have hid := ok.ids e e5
  obtain ⟨b3, o3, all3, sl, ha3, hb3, hr3, hz3, hc3, hs3⟩ := rH.bs.at (List.getElem?_eq_getElem hid)
  have hbr : T.br e.id = T.B[e.id] := Hi.br_lt hid
  have hld := load_bn hr3 hz3 hc3
  obtain ⟨z1, z2⟩ := TmTy.cell hs3
  rw [← hbr] at hld hs3
  have hacl := ha e.id
  have hgone := ok.gone hg
  generalize hbe : T.br e.id = be at *
  have de : T.delete d s = if be.kind = 2 ∧ 0 < T.count be.dir then (T, noBn, 16) else (T.gone e.id, be, 0) := by unfold Hi.delete; rw [hg]; simp only [hbe]
  rw [de]
  have c00 : ∀ k, h.next ≤ k → c k = 0 := fun k hk => Decidable.byContradiction fun h0 => by have := r.lt k h0; omega
  have rowz : ∀ {H' : Hp}, Keep H H' → H'.get h.next = some (.row [.int .i64 0, .int .i64 0, .int .i64 0, .string ByteArray.empty, .bool false, .slice none 0 0, .int .i64 0, .int .i64 0, .int .i64 0, .int .i64 0] 34 (.rw 0 [])) := fun K => (K.2 _ (by omega)).trans g3
  apply use_tail (C := kon) (I := fun fr h' => fr.get 0 = some (.pointer (some ⟨br, 0, none⟩)) ∧ fr.get 6 = some (.pointer (some ⟨h.next, 0, none⟩)) ∧ fr.get 9 = some (.int .i64 e.id) ∧ fr.get 10 = some (.pointer (some ⟨H.next, 0, none⟩)) ∧ fr.get 11 = some (.slice none 0 0) ∧ fr.get 12 = some (.int .i64 0) ∧ ¬ (be.kind = 2 ∧ 0 < T.count be.dir) ∧
    ∃ vD', RefB h' c ⟨T.B, T.L, (T.gone e.id).D⟩ br vB vL vD' cs ∧ h'.get h.next = some (.row [.int .i64 0, .int .i64 0, .int .i64 0, .string ByteArray.empty, .bool false, .slice none 0 0, .int .i64 0, .int .i64 0, .int .i64 0, .int .i64 0] 34 (.rw 0 [])) ∧
      h'.get H.next = some (.row [.int .i64 be.kind, .int .i64 be.uid, .int .i64 be.dir, .string be.link, .bool be.object, sl, .int .i64 be.b.r1, .int .i64 be.b.r2, .int .i64 be.b.r3, .int .i64 be.b.g] 34 (.rw 0 [])) ∧ H.next + 1 ≤ h'.next ∧ (∀ k, k < h.next → c k = 0 → h'.get k = h.get k) ∧ TmTy h' (fun k => c k = 5) sl be.acl)
  case k =>
    intro tail
    by_cases k2 : be.kind = 2
    · have f2 : (be.kind == 2) = true := by simp [k2]
      have hsub := ok.subs e e5 (by rw [hbe]; exact k2)
      rw [hbe] at hsub
      repeat' (first | simp only [evr, nextP_norm, evd, evq, beq_self_eq_true, cond_true, cond_false, reduceIte, Nat.reduceEqDiff, Nat.reduceAdd, Int.reduceBNe, Int.reduceBEq, Int.reduceLT, Int.reduceLE, Int.reduceEq, evh, evp, Nat.reduceLeDiff, Nat.reduceSub, Nat.reduceBEq, typs, ca, f1, rH.rw, hia, hr2, c1, ha3, hld, z1, z2, q3, g3, f2] | refine kCond2_by (fun hc => ?_) (fun hc => ?_) <;> try simp only [hc] | refine kPick_by (fun hc => ?_) (fun hc => ?_) <;> try simp only [hc] | refine kWant_by (fun hc => ?_) (fun hc => ?_) <;> try simp only [hc])
      generalize hh : Hp.set _ _ _ = H1
      have K1 : Keep H H1 := by rw [← hh]; exact (Keep.push _ _).set (Nat.le_refl _)
      have n1 : H1.next = H.next + 1 := by rw [← hh]; rfl
      have g10 : H1.get H.next = some (.row [.int .i64 be.kind, .int .i64 be.uid, .int .i64 be.dir, .string be.link, .bool be.object, sl, .int .i64 be.b.r1, .int .i64 be.b.r2, .int .i64 be.b.r3, .int .i64 be.b.g] 34 (.rw 0 [])) := by rw [← hh]; exact Hp.get_set_self _ _ _
      clear hh
      refine callP_meets (rLen_spec (rH.keeps K1) hL be.dir) ?_
      rintro _ H2 ⟨rfl, K2⟩
      have K12 := K1.trans K2
      have n2 := K2.1
      have g3x := rowz K12
      have q3x := rowOf_rw g3x
      have g10x := (K2.2 _ (by omega)).trans g10
      have q10x := rowOf_rw g10x
      have r2 := rH.keeps K12
      by_cases hc : 0 < T.count be.dir
      · have f3 : decide ((0 : Int) < (T.count be.dir : Nat)) = true := by simp; omega
        repeat' (first | simp only [evr, nextP_norm, evd, evq, beq_self_eq_true, cond_true, cond_false, reduceIte, Nat.reduceEqDiff, Nat.reduceAdd, Int.reduceBNe, Int.reduceBEq, Int.reduceLT, Int.reduceLE, Int.reduceEq, evh, evp, Nat.reduceLeDiff, Nat.reduceSub, Nat.reduceBEq, typs, f3, g3x, q3x] | refine kCond2_by (fun hc => ?_) (fun hc => ?_) <;> try simp only [hc] | refine kPick_by (fun hc => ?_) (fun hc => ?_) <;> try simp only [hc] | refine kWant_by (fun hc => ?_) (fun hc => ?_) <;> try simp only [hc])
        rw [if_pos ⟨k2, hc⟩]
        exact ⟨.slice none 0 0, F, rfl, .inl ⟨rfl, rfl⟩, same ((hk.trans K12).set (Nat.le_refl _))⟩
      · have f3 : decide ((0 : Int) < (T.count be.dir : Nat)) = false := by simp; omega
        obtain ⟨b5, H5, hix, hw, n5, s5, r5⟩ := r2.pokeD (i := be.dir.toNat) (by omega)
        rw [show ((be.dir.toNat : Nat) : Int) = be.dir by omega] at hix
        repeat' (first | simp only [evr, nextP_norm, evd, evq, beq_self_eq_true, cond_true, cond_false, reduceIte, Nat.reduceEqDiff, Nat.reduceAdd, Int.reduceBNe, Int.reduceBEq, Int.reduceLT, Int.reduceLE, Int.reduceEq, evh, evp, Nat.reduceLeDiff, Nat.reduceSub, Nat.reduceBEq, typs, f3, g3x, q3x] | refine kCond2_by (fun hc => ?_) (fun hc => ?_) <;> try simp only [hc] | refine kPick_by (fun hc => ?_) (fun hc => ?_) <;> try simp only [hc] | refine kWant_by (fun hc => ?_) (fun hc => ?_) <;> try simp only [hc])
        refine Wp_drawE [0, 0, 0, 1, 0, 1, 0, 4] (KR.mk (by kernel_rfl)) ?_
        repeat' (first | simp only [evr, nextP_norm, evd, evq, beq_self_eq_true, cond_true, cond_false, reduceIte, Nat.reduceEqDiff, Nat.reduceAdd, Int.reduceBNe, Int.reduceBEq, Int.reduceLT, Int.reduceLE, Int.reduceEq, evh, evp, Nat.reduceLeDiff, Nat.reduceSub, Nat.reduceBEq, typs, r2.rw, q10x, hix, hw] | refine kCond2_by (fun hc => ?_) (fun hc => ?_) <;> try simp only [hc] | refine kPick_by (fun hc => ?_) (fun hc => ?_) <;> try simp only [hc] | refine kWant_by (fun hc => ?_) (fun hc => ?_) <;> try simp only [hc])
        refine tail _ _ ⟨?_, ?_, ?_, ?_, ?_, ?_, fun hn => hc hn.2, vD, ?_, ?_, ?_, ?_, ?_, ?_⟩
        · repeat' (first | simp only [evr, nextP_norm, evd, evq, beq_self_eq_true, cond_true, cond_false, reduceIte, Nat.reduceEqDiff, Nat.reduceAdd, Int.reduceBNe, Int.reduceBEq, Int.reduceLT, Int.reduceLE, Int.reduceEq, evh, evp, Nat.reduceLeDiff, Nat.reduceSub, Nat.reduceBEq, typs] | refine kCond2_by (fun hc => ?_) (fun hc => ?_) <;> try simp only [hc] | refine kPick_by (fun hc => ?_) (fun hc => ?_) <;> try simp only [hc] | refine kWant_by (fun hc => ?_) (fun hc => ?_) <;> try simp only [hc])
        · repeat' (first | simp only [evr, nextP_norm, evd, evq, beq_self_eq_true, cond_true, cond_false, reduceIte, Nat.reduceEqDiff, Nat.reduceAdd, Int.reduceBNe, Int.reduceBEq, Int.reduceLT, Int.reduceLE, Int.reduceEq, evh, evp, Nat.reduceLeDiff, Nat.reduceSub, Nat.reduceBEq, typs] | refine kCond2_by (fun hc => ?_) (fun hc => ?_) <;> try simp only [hc] | refine kPick_by (fun hc => ?_) (fun hc => ?_) <;> try simp only [hc] | refine kWant_by (fun hc => ?_) (fun hc => ?_) <;> try simp only [hc])
        · repeat' (first | simp only [evr, nextP_norm, evd, evq, beq_self_eq_true, cond_true, cond_false, reduceIte, Nat.reduceEqDiff, Nat.reduceAdd, Int.reduceBNe, Int.reduceBEq, Int.reduceLT, Int.reduceLE, Int.reduceEq, evh, evp, Nat.reduceLeDiff, Nat.reduceSub, Nat.reduceBEq, typs] | refine kCond2_by (fun hc => ?_) (fun hc => ?_) <;> try simp only [hc] | refine kPick_by (fun hc => ?_) (fun hc => ?_) <;> try simp only [hc] | refine kWant_by (fun hc => ?_) (fun hc => ?_) <;> try simp only [hc])
        · repeat' (first | simp only [evr, nextP_norm, evd, evq, beq_self_eq_true, cond_true, cond_false, reduceIte, Nat.reduceEqDiff, Nat.reduceAdd, Int.reduceBNe, Int.reduceBEq, Int.reduceLT, Int.reduceLE, Int.reduceEq, evh, evp, Nat.reduceLeDiff, Nat.reduceSub, Nat.reduceBEq, typs] | refine kCond2_by (fun hc => ?_) (fun hc => ?_) <;> try simp only [hc] | refine kPick_by (fun hc => ?_) (fun hc => ?_) <;> try simp only [hc] | refine kWant_by (fun hc => ?_) (fun hc => ?_) <;> try simp only [hc])
        · repeat' (first | simp only [evr, nextP_norm, evd, evq, beq_self_eq_true, cond_true, cond_false, reduceIte, Nat.reduceEqDiff, Nat.reduceAdd, Int.reduceBNe, Int.reduceBEq, Int.reduceLT, Int.reduceLE, Int.reduceEq, evh, evp, Nat.reduceLeDiff, Nat.reduceSub, Nat.reduceBEq, typs] | refine kCond2_by (fun hc => ?_) (fun hc => ?_) <;> try simp only [hc] | refine kPick_by (fun hc => ?_) (fun hc => ?_) <;> try simp only [hc] | refine kWant_by (fun hc => ?_) (fun hc => ?_) <;> try simp only [hc])
        · repeat' (first | simp only [evr, nextP_norm, evd, evq, beq_self_eq_true, cond_true, cond_false, reduceIte, Nat.reduceEqDiff, Nat.reduceAdd, Int.reduceBNe, Int.reduceBEq, Int.reduceLT, Int.reduceLE, Int.reduceEq, evh, evp, Nat.reduceLeDiff, Nat.reduceSub, Nat.reduceBEq, typs] | refine kCond2_by (fun hc => ?_) (fun hc => ?_) <;> try simp only [hc] | refine kPick_by (fun hc => ?_) (fun hc => ?_) <;> try simp only [hc] | refine kWant_by (fun hc => ?_) (fun hc => ?_) <;> try simp only [hc])
        · have eD : (T.gone e.id).D = T.D.set be.dir.toNat false := by unfold Hi.gone; simp only [hbe, if_pos k2]
          rw [eD]; exact r5
        · exact (s5 _ (by rw [c00 _ (Nat.le_refl _)]; decide)).trans g3x
        · exact (s5 _ (by rw [c00 _ hk.1]; decide)).trans g10x
        · omega
        · intro k hkl hck
          rw [s5 k (by rw [hck]; decide)]
          exact (hk.trans K12).2 k hkl
        · exact SlTy.keepF hs3 (by have := K12.1; omega) fun k hk5 => by rw [s5 k (by rw [hk5]; decide)]; exact K12.2 k (rH.lt k (by rw [hk5]; decide))
    · have f2 : (be.kind == 2) = false := by simp [k2]
      repeat' (first | simp only [evr, nextP_norm, evd, evq, beq_self_eq_true, cond_true, cond_false, reduceIte, Nat.reduceEqDiff, Nat.reduceAdd, Int.reduceBNe, Int.reduceBEq, Int.reduceLT, Int.reduceLE, Int.reduceEq, evh, evp, Nat.reduceLeDiff, Nat.reduceSub, Nat.reduceBEq, typs, ca, f1, rH.rw, hia, hr2, c1, ha3, hld, z1, z2, q3, g3, f2] | refine kCond2_by (fun hc => ?_) (fun hc => ?_) <;> try simp only [hc] | refine kPick_by (fun hc => ?_) (fun hc => ?_) <;> try simp only [hc] | refine kWant_by (fun hc => ?_) (fun hc => ?_) <;> try simp only [hc])
      generalize hh : Hp.set _ _ _ = H1
      have K1 : Keep H H1 := by rw [← hh]; exact (Keep.push _ _).set (Nat.le_refl _)
      have n1 : H1.next = H.next + 1 := by rw [← hh]; rfl
      have g10 : H1.get H.next = some (.row [.int .i64 be.kind, .int .i64 be.uid, .int .i64 be.dir, .string be.link, .bool be.object, sl, .int .i64 be.b.r1, .int .i64 be.b.r2, .int .i64 be.b.r3, .int .i64 be.b.g] 34 (.rw 0 [])) := by rw [← hh]; exact Hp.get_set_self _ _ _
      clear hh
      refine tail _ _ ⟨?_, ?_, ?_, ?_, ?_, ?_, fun hn => k2 hn.1, vD, ?_, ?_, ?_, ?_, ?_, ?_⟩
      · repeat' (first | simp only [evr, nextP_norm, evd, evq, beq_self_eq_true, cond_true, cond_false, reduceIte, Nat.reduceEqDiff, Nat.reduceAdd, Int.reduceBNe, Int.reduceBEq, Int.reduceLT, Int.reduceLE, Int.reduceEq, evh, evp, Nat.reduceLeDiff, Nat.reduceSub, Nat.reduceBEq, typs] | refine kCond2_by (fun hc => ?_) (fun hc => ?_) <;> try simp only [hc] | refine kPick_by (fun hc => ?_) (fun hc => ?_) <;> try simp only [hc] | refine kWant_by (fun hc => ?_) (fun hc => ?_) <;> try simp only [hc])
      · repeat' (first | simp only [evr, nextP_norm, evd, evq, beq_self_eq_true, cond_true, cond_false, reduceIte, Nat.reduceEqDiff, Nat.reduceAdd, Int.reduceBNe, Int.reduceBEq, Int.reduceLT, Int.reduceLE, Int.reduceEq, evh, evp, Nat.reduceLeDiff, Nat.reduceSub, Nat.reduceBEq, typs] | refine kCond2_by (fun hc => ?_) (fun hc => ?_) <;> try simp only [hc] | refine kPick_by (fun hc => ?_) (fun hc => ?_) <;> try simp only [hc] | refine kWant_by (fun hc => ?_) (fun hc => ?_) <;> try simp only [hc])
      · repeat' (first | simp only [evr, nextP_norm, evd, evq, beq_self_eq_true, cond_true, cond_false, reduceIte, Nat.reduceEqDiff, Nat.reduceAdd, Int.reduceBNe, Int.reduceBEq, Int.reduceLT, Int.reduceLE, Int.reduceEq, evh, evp, Nat.reduceLeDiff, Nat.reduceSub, Nat.reduceBEq, typs] | refine kCond2_by (fun hc => ?_) (fun hc => ?_) <;> try simp only [hc] | refine kPick_by (fun hc => ?_) (fun hc => ?_) <;> try simp only [hc] | refine kWant_by (fun hc => ?_) (fun hc => ?_) <;> try simp only [hc])
      · repeat' (first | simp only [evr, nextP_norm, evd, evq, beq_self_eq_true, cond_true, cond_false, reduceIte, Nat.reduceEqDiff, Nat.reduceAdd, Int.reduceBNe, Int.reduceBEq, Int.reduceLT, Int.reduceLE, Int.reduceEq, evh, evp, Nat.reduceLeDiff, Nat.reduceSub, Nat.reduceBEq, typs] | refine kCond2_by (fun hc => ?_) (fun hc => ?_) <;> try simp only [hc] | refine kPick_by (fun hc => ?_) (fun hc => ?_) <;> try simp only [hc] | refine kWant_by (fun hc => ?_) (fun hc => ?_) <;> try simp only [hc])
      · repeat' (first | simp only [evr, nextP_norm, evd, evq, beq_self_eq_true, cond_true, cond_false, reduceIte, Nat.reduceEqDiff, Nat.reduceAdd, Int.reduceBNe, Int.reduceBEq, Int.reduceLT, Int.reduceLE, Int.reduceEq, evh, evp, Nat.reduceLeDiff, Nat.reduceSub, Nat.reduceBEq, typs] | refine kCond2_by (fun hc => ?_) (fun hc => ?_) <;> try simp only [hc] | refine kPick_by (fun hc => ?_) (fun hc => ?_) <;> try simp only [hc] | refine kWant_by (fun hc => ?_) (fun hc => ?_) <;> try simp only [hc])
      · repeat' (first | simp only [evr, nextP_norm, evd, evq, beq_self_eq_true, cond_true, cond_false, reduceIte, Nat.reduceEqDiff, Nat.reduceAdd, Int.reduceBNe, Int.reduceBEq, Int.reduceLT, Int.reduceLE, Int.reduceEq, evh, evp, Nat.reduceLeDiff, Nat.reduceSub, Nat.reduceBEq, typs] | refine kCond2_by (fun hc => ?_) (fun hc => ?_) <;> try simp only [hc] | refine kPick_by (fun hc => ?_) (fun hc => ?_) <;> try simp only [hc] | refine kWant_by (fun hc => ?_) (fun hc => ?_) <;> try simp only [hc])
      · have eD : (T.gone e.id).D = T.D := by unfold Hi.gone; simp only [hbe, if_neg k2]
        rw [eD]; exact rH.keeps K1
      · exact rowz K1
      · exact g10
      · omega
      · intro k hkl _
        exact (hk.trans K1).2 k hkl
      · exact SlTy.keepF hs3 K1.1 fun k hk5 => K1.2 k (rH.lt k (by rw [hk5]; decide))
  case t =>
    rintro fr H0 ⟨q0, q6, q9, q10, q11, q12, hnb, vD', r0, gz, gb, hn0, hs0, ty0⟩
    refine Wp_loop (fun m fr h' => ∃ (i : Nat) (v : Value), m = T.L.length - i ∧ i ≤ T.L.length ∧ fr.get 0 = some (.pointer (some ⟨br, 0, none⟩)) ∧ fr.get 6 = some (.pointer (some ⟨h.next, 0, none⟩)) ∧ fr.get 9 = some (.int .i64 e.id) ∧ fr.get 10 = some (.pointer (some ⟨H.next, 0, none⟩)) ∧ fr.get 11 = some v ∧ fr.get 12 = some (.int .i64 i) ∧
      Keep H0 h' ∧ Fresh H0.next h' v 126 3 (ens ((T.L.take i).filter fun x => !decide (x.id = e.id)))) T.L.length ⟨0, .slice none 0 0, rfl, Nat.zero_le _, q0, q6, q9, q10, q11, q12, Keep.refl _, Fresh.nil _ _ _ _⟩ ?_
    clear q0 q6 q9 q10 q11 q12
    rintro m fr2 H5 ⟨i, v, rfl, hi, q0, q6, q9, q10, q11, q12, K, g⟩
    have r5 := r0.keeps K
    have la := r5.en.len
    by_cases h3 : i < T.L.length
    · have e3 : decide ((i : Int) < T.L.length) = true := by simp; omega
      obtain ⟨b6, o6, all6, hia6, hb6, hr6, d0, d1, d2⟩ := EnSl.at r5.en (List.getElem?_eq_getElem h3)
      have w1 := wrap64 (x := (i : Int) + 1) (by omega) (by omega)
      have htk : T.L.take (i + 1) = T.L.take i ++ [T.L[i]] := (List.take_append_getElem h3).symm
      have la : evLen kon.P 95 vL = some (.int .i64 T.L.length) := la
      by_cases hd : T.L[i].id = e.id
      · have f2 : (((T.L[i].id : Nat) : Int) != ((e.id : Nat) : Int)) = false := by simp [hd]
        repeat' (first | simp only [evr, nextP_norm, evd, evq, beq_self_eq_true, cond_true, cond_false, reduceIte, Nat.reduceEqDiff, Nat.reduceAdd, Int.reduceBNe, Int.reduceBEq, Int.reduceLT, Int.reduceLE, Int.reduceEq, evh, evp, Nat.reduceLeDiff, Nat.reduceSub, Nat.reduceBEq, typs, q0, q6, q9, q10, q11, q12, r5.rw, la, e3, hia6, hr6, d1, f2, w1] | refine kCond2_by (fun hc => ?_) (fun hc => ?_) <;> try simp only [hc] | refine kPick_by (fun hc => ?_) (fun hc => ?_) <;> try simp only [hc] | refine kWant_by (fun hc => ?_) (fun hc => ?_) <;> try simp only [hc])
        refine ⟨T.L.length - (i + 1), by omega, i + 1, v, rfl, by omega, rfl, rfl, K, ?_⟩
        rw [htk, List.filter_append, List.filter_cons, if_neg (by simp [hd])]
        simpa using g
      · have f2 : (((T.L[i].id : Nat) : Int) != ((e.id : Nat) : Int)) = true := by simp; omega
        obtain ⟨ag, ag2⟩ := three d0 d1 d2
        have P2 : Keep H5 (H5.push (.row (enC T.L[i]) 126 (.rw 0 []))) := Keep.push _ _
        have eP : (H5.push (.row (enC T.L[i]) 126 (.rw 0 []))).next = H5.next + 1 := rfl
        obtain ⟨v6, h6, ea, g6, n6, s6⟩ := app_en (e := T.L[i]) (g.keeps P2).gr (Nat.le_trans (List.length_filter_le ..) (by rw [List.length_take]; omega)) (Hp.get_push_self _ _)
        have hK := K.1
        have K6 : Keep H0 h6 := ⟨by omega, fun j hj => (s6 j (by omega) (by omega)).trans ((P2.2 j (by omega)).trans (K.2 j hj))⟩
        unfold enC at ea
        repeat' (first | simp only [evr, nextP_norm, evd, evq, beq_self_eq_true, cond_true, cond_false, reduceIte, Nat.reduceEqDiff, Nat.reduceAdd, Int.reduceBNe, Int.reduceBEq, Int.reduceLT, Int.reduceLE, Int.reduceEq, evh, evp, Nat.reduceLeDiff, Nat.reduceSub, Nat.reduceBEq, typs, q0, q6, q9, q10, q11, q12, r5.rw, la, e3, hia6, hr6, d1, f2, w1, ag, ag2, ea] | refine kCond2_by (fun hc => ?_) (fun hc => ?_) <;> try simp only [hc] | refine kPick_by (fun hc => ?_) (fun hc => ?_) <;> try simp only [hc] | refine kWant_by (fun hc => ?_) (fun hc => ?_) <;> try simp only [hc])
        refine ⟨T.L.length - (i + 1), by omega, i + 1, v6, rfl, by omega, rfl, rfl, K6, ?_⟩
        rw [htk, List.filter_append, List.filter_cons, if_pos (by simpa using hd)]
        refine Exists.intro _ (And.intro g6 fun k hk => ?_)
        rcases hk with hk | hk
        · exact hk.1
        · omega
    · have e3 : decide ((i : Int) < T.L.length) = false := by simp; omega
      have hi2 : i = T.L.length := by omega
      subst hi2
      rw [List.take_length] at g
      have la : evLen kon.P 95 vL = some (.int .i64 T.L.length) := la
      have nz : (h.next = br) = False := by have := r.lb; simp; omega
      have nb : (H.next = br) = False := by have := r.lb; simp; omega
      have gz5 := (K.2 _ (by omega)).trans gz
      have gb5 := (K.2 _ (by omega)).trans gb
      have hK := K.1
      have rp := r5.paint (p := fun k => H0.next ≤ k ∧ k < H5.next) (x := 3) (fun k hk => hk.2) (by decide)
      have rL := rp.setL (g.gr.mono (fun k hk => paint_new (c00 k (by omega)) hk) fun k hk => rp.lt k (by rw [hk]; decide))
      obtain ⟨y1, y2⟩ := g.cell
      repeat' (first | simp only [evr, nextP_norm, evd, evq, beq_self_eq_true, cond_true, cond_false, reduceIte, Nat.reduceEqDiff, Nat.reduceAdd, Int.reduceBNe, Int.reduceBEq, Int.reduceLT, Int.reduceLE, Int.reduceEq, evh, evp, Nat.reduceLeDiff, Nat.reduceSub, Nat.reduceBEq, typs, q0, q6, q9, q10, q11, q12, r5.rw, r5.row, la, e3, y1, y2, nz, nb, gz5, gb5, rowOf_rw gz5, rowOf_rw gb5, z1, z2] | refine kCond2_by (fun hc => ?_) (fun hc => ?_) <;> try simp only [hc] | refine kPick_by (fun hc => ?_) (fun hc => ?_) <;> try simp only [hc] | refine kWant_by (fun hc => ?_) (fun hc => ?_) <;> try simp only [hc])
      rw [if_neg hnb]
      have hc0 : be.kind = 2 → T.count be.dir = 0 := fun h2 => Nat.eq_zero_of_not_pos fun h3 => hnb ⟨h2, h3⟩
      have hch := hk.1
      have up : Upd h F ((H5.set br (.row [vB, v, vD'] 97 (.rw 0 []))).set h.next (.row [.int .i64 be.kind, .int .i64 be.uid, .int .i64 be.dir, .string be.link, .bool be.object, sl, .int .i64 be.b.r1, .int .i64 be.b.r2, .int .i64 be.b.r3, .int .i64 be.b.g] 34 (.rw 0 [])))
          fun k => paint c (fun k => H0.next ≤ k ∧ k < H5.next) 3 k ≠ 0 := upd_paint hF (by show h.next ≤ H5.next; omega) (fun k hk hc => by
            rw [Hp.get_set_ne (by omega), Hp.get_set_ne (by rintro rfl; rw [r.me] at hc; cases hc), K.2 k (by omega)]
            exact hs0 k hk hc) fun k hk => by omega
      have rf : RefB ((H5.set br (.row [vB, v, vD'] 97 (.rw 0 []))).set h.next (.row [.int .i64 be.kind, .int .i64 be.uid, .int .i64 be.dir, .string be.link, .bool be.object, sl, .int .i64 be.b.r1, .int .i64 be.b.r2, .int .i64 be.b.r3, .int .i64 be.b.g] 34 (.rw 0 []))) (paint c (fun k => H0.next ≤ k ∧ k < H5.next) 3) (T.gone e.id) br vB v vD' cs := by
        exact rL.keep (Nat.le_refl _) fun k hk => Hp.get_set_ne (by
          rintro rfl
          rcases paint_cases (c := c) (p := fun k => H0.next ≤ k ∧ k < H5.next) (x := 3) (k := h.next) with ⟨q, _⟩ | ⟨_, _, q⟩
          · rw [q, c00 _ (Nat.le_refl _)] at hk; exact hk rfl
          · omega)
      refine ⟨sl, fun k => paint c (fun k => H0.next ≤ k ∧ k < H5.next) 3 k ≠ 0, rfl, ?_, ⟨_, _, _, _, _, fun k => Iff.rfl, rf, (hgone hc0).1, ha⟩, up⟩
      · have t5 : TmTy H5 (fun k => c k = 5) sl be.acl := SlTy.keepF ty0 K.1 fun k hk => K.2 k (r0.lt k (by rw [hk]; decide))
        refine SlTy.same (h := (H5.set br _).set h.next _) (F := fun k => c k = 5) ?_ (Same.refl _ _) fun k hk => by rw [paint_old (by rw [hk]; decide), hk]; decide
        refine SlTy.keepF t5 (Nat.le_refl _) fun k hk => ?_
        rw [Hp.get_set_ne (by rintro rfl; rw [c00 _ (Nat.le_refl _)] at hk; cases hk), Hp.get_set_ne (by rintro rfl; rw [r.me] at hk; cases hk)]
end
end Go.Proofs.YtncmgiddcefpcaaGreatDoor
namespace Go.Proofs.YtncmgiddcefpcaaGreatDoor
open Go Go.Ev Go.Con
set_option linter.unusedSimpArgs false
set_option linter.unusedVariables false
set_option maxRecDepth 100000
structure Mk where
  proc : Int
  kind : Int
  uid : Int
  off : Int
  at_ : Int
  before : Int
  after : Int
def mkC (m : Mk) : List Value := [.int .i64 m.proc, .int .i64 m.kind, .int .i64 m.uid, .int .i64 m.off, .int .i64 m.at_, .int .i64 m.before, .int .i64 m.after]
end Go.Proofs.YtncmgiddcefpcaaGreatDoor
namespace Go.Ev
open Go
set_option linter.unusedSimpArgs false
set_option linter.unusedVariables false
end Go.Ev
namespace Go.Proofs.YtncmgiddcefpcaaGreatDoor
open Go Go.Ev Go.Con
set_option linter.unusedSimpArgs false
set_option linter.unusedVariables false
set_option maxRecDepth 100000
theorem flat_len {α : Type} (f : α → List Value) {n : Nat} (hf : ∀ x, (f x).length = n) (l : List α) : ((l.map f).flatten).length = l.length * n := by
  induction l with
  | nil => simp
  | cons a l ih => rw [List.map_cons, List.flatten_cons, List.length_append, ih, hf, List.length_cons, Nat.add_mul]; omega
theorem flat_at {α : Type} (f : α → List Value) {n : Nat} (hf : ∀ x, (f x).length = n) : ∀ (l : List α) {i : Nat} {x : α}, l[i]? = some x → (((l.map f).flatten).drop (i * n)).take n = f x
  | [], i, x, h => by simp at h
  | a :: l, 0, x, h => by
    simp at h; subst h
    rw [Nat.zero_mul, List.drop_zero, List.map_cons, List.flatten_cons, ← hf a, List.take_left]
  | a :: l, i + 1, x, h => by
    have := flat_at f hf l (i := i) (by simpa using h)
    rw [List.map_cons, List.flatten_cons, show (i + 1) * n = n + i * n by rw [Nat.add_mul]; omega, ← List.drop_drop]
    have e : ((f a) ++ (l.map f).flatten).drop n = (l.map f).flatten := by rw [← hf a]; exact List.drop_left
    rw [e]; exact this
abbrev MkSl (h : Hp) (v : Value) (l : List Mk) : Prop := SlAt h 7 v ((l.map mkC).flatten)
theorem MkSl.len {h : Hp} {v : Value} {l : List Mk} (s : MkSl h v l) : evLen kon.P 68 v = some (.int .i64 l.length) := by
  have fl := flat_len mkC (n := 7) (fun _ => rfl) l
  rcases s with ⟨rfl, hl⟩ | ⟨b, o, k, c, all, rfl, h2, h3, h4, h5, h6⟩
  · rw [hl] at fl
    have : l = [] := List.length_eq_zero_iff.1 (by simp at fl; omega)
    subst this; exact evLen_slice (e := 60) (by kernel_rfl)
  · have : k = l.length := by omega
    subst this
    exact evLen_slice (e := 60) (by kernel_rfl)
theorem MkSl.at {h : Hp} {v : Value} {l : List Mk} (s : MkSl h v l) {i : Nat} {x : Mk} (hi : l[i]? = some x) : ∃ b o all, evIndexAddr kon.P 68 v (.int .i64 i) = some (.pointer (some ⟨b, o, none⟩)) ∧ rowOf h b = some all ∧
    decide (o + 7 ≤ all.length) = true ∧ (all.drop o).take 7 = [.int .i64 x.proc, .int .i64 x.kind, .int .i64 x.uid, .int .i64 x.off, .int .i64 x.at_, .int .i64 x.before, .int .i64 x.after] := by
  have fl := flat_len mkC (n := 7) (fun _ => rfl) l
  have hlt : i < l.length := (List.getElem?_eq_some_iff.1 hi).1
  rcases s with ⟨rfl, hl⟩ | ⟨b, o, k, c, all, rfl, h2, h3, h4, h5, h6⟩
  · rw [hl] at fl; simp at fl; omega
  · have hk : k = l.length := by omega
    subst hk
    have hz : o + l.length * 7 ≤ all.length := by
      have := congrArg List.length h6
      rw [List.length_take, List.length_drop, fl] at this; omega
    refine ⟨b, o + i * 7, all, ?_, h4, decide_eq_true (by omega), ?_⟩
    · have := L_indexAddr (C := kon) (t := 68) (e := 60) (n := 7) (by kernel_rfl) (by kernel_rfl) b o l.length c .i64 i (by omega) (by omega)
      simpa using this
    · have := flat_at mkC (n := 7) (fun _ => rfl) l hi
      rw [← h6, List.drop_take, List.take_take, List.drop_drop] at this
      rw [← show mkC x = [.int .i64 x.proc, .int .i64 x.kind, .int .i64 x.uid, .int .i64 x.off, .int .i64 x.at_, .int .i64 x.before, .int .i64 x.after] from rfl, ← this]
      congr 1; omega
end Go.Proofs.YtncmgiddcefpcaaGreatDoor
namespace Go.Proofs.YtncmgiddcefpcaaGreatDoor
open Go Go.Ev Go.Con
set_option linter.unusedSimpArgs false
set_option linter.unusedVariables false
set_option maxRecDepth 100000
end Go.Proofs.YtncmgiddcefpcaaGreatDoor
namespace Go.Proofs.YtncmgiddcefpcaaGreatDoor
open Go Go.Ev Go.Con
set_option linter.unusedSimpArgs false
set_option linter.unusedVariables false
set_option maxRecDepth 100000
end Go.Proofs.YtncmgiddcefpcaaGreatDoor
namespace Go.Proofs.YtncmgiddcefpcaaGreatDoor
open Go Go.Ev Go.Con
set_option linter.unusedSimpArgs false
set_option linter.unusedVariables false
set_option maxRecDepth 100000
theorem RefAt.keep {h h' : Hp} {G : Nat → Prop} {R : Hi} {br : Nat} (r : RefAt h G R br) (hn : h.next ≤ h'.next) (hs : ∀ k, G k → h'.get k = h.get k) : RefAt h' G R br := by
  obtain ⟨c, vB, vL, vD, cs, hF, r, ok, ha⟩ := r
  exact ⟨c, vB, vL, vD, cs, hF, r.keep hn fun k hk => hs k ((hF k).2 hk), ok, ha⟩
theorem RefAt.lt {h : Hp} {G : Nat → Prop} {R : Hi} {br : Nat} (r : RefAt h G R br) {k : Nat} (hk : G k) : k < h.next := by
  obtain ⟨c, vB, vL, vD, cs, hF, r, _⟩ := r
  exact r.lt k ((hF k).1 hk)
theorem TreeAt.ltF' {h : Hp} {F : Nat → Prop} {T : Hi} {bt : Nat} (t : TreeAt h F T bt) {k : Nat} (hk : F k) : k < h.next := by obtain ⟨_, _, _, _, t⟩ := t; exact t.lt k hk
structure Two (h : Hp) (P F G : Nat → Prop) (T R : Hi) (bt br : Nat) : Prop where
  t : TreeAt h F T bt
  r : RefAt h G R br
  dj : ∀ k, F k → ¬ G k
  p : ∀ k, P k → ¬ F k ∧ ¬ G k ∧ k < h.next
section
variable {h h' : Hp} {P F F' G G' : Nat → Prop} {T T' R R' : Hi} {bt br : Nat}
theorem Two.keeps (x : Two h P F G T R bt br) (k : Keep h h') : Two h' P F G T R bt br :=
  ⟨x.t.keeps k, x.r.keep k.1 fun j hj => k.2 j (x.r.lt hj), x.dj, fun j hj => ⟨(x.p j hj).1, (x.p j hj).2.1, Nat.lt_of_lt_of_le (x.p j hj).2.2 k.1⟩⟩
theorem Two.tree (x : Two h P F G T R bt br) (u : Upd h F h' F') (t : TreeAt h' F' T' bt) : Two h' P F' G T' R bt br ∧ ∀ k, P k → h'.get k = h.get k := by
  refine ⟨⟨t, x.r.keep u.next fun k hk => u.same k (x.r.lt hk) fun hf => x.dj k hf hk, fun k hf hg => ?_, fun k hk => ⟨fun hf => ?_, (x.p k hk).2.1, Nat.lt_of_lt_of_le (x.p k hk).2.2 u.next⟩⟩, fun k hk => u.same k (x.p k hk).2.2 (x.p k hk).1⟩
  · rcases u.own k hf with h1 | h1
    · exact x.dj k h1 hg
    · have := x.r.lt hg; omega
  · rcases u.own k hf with h1 | h1
    · exact (x.p k hk).1 h1
    · have := (x.p k hk).2.2; omega
theorem Two.ref (x : Two h P F G T R bt br) (u : Upd h G h' G') (r : RefAt h' G' R' br) : Two h' P F G' T R' bt br ∧ ∀ k, P k → h'.get k = h.get k := by
  refine ⟨⟨x.t.keep u.next fun k hk => u.same k (x.t.ltF' hk) fun hg => x.dj k hk hg, r, fun k hf hg => ?_, fun k hk => ⟨(x.p k hk).1, fun hg => ?_, Nat.lt_of_lt_of_le (x.p k hk).2.2 u.next⟩⟩, fun k hk => u.same k (x.p k hk).2.2 (x.p k hk).2.1⟩
  · rcases u.own k hg with h1 | h1
    · exact x.dj k hf h1
    · have := x.t.ltF' hf; omega
  · rcases u.own k hg with h1 | h1
    · exact (x.p k hk).2.1 h1
    · have := (x.p k hk).2.2; omega
theorem Two.more (x : Two h P F G T R bt br) {b : Nat} (hb : b < h.next) (hF : ¬ F b) (hG : ¬ G b) : Two h (fun k => P k ∨ k = b) F G T R bt br :=
  ⟨x.t, x.r, x.dj, fun k hk => by
    rcases hk with hk | rfl
    · exact x.p k hk
    · exact ⟨hF, hG, hb⟩⟩
end
theorem Two.start {h0 h1 h2 : Hp} {F G : Nat → Prop} {T R : Hi} {bt br : Nat} (k1 : Keep h0 h1) (t : TreeAt h1 F T bt) (hF : ∀ k, F k → h0.next ≤ k) (k2 : Keep h1 h2) (r : RefAt h2 G R br) (hG : ∀ k, G k → h1.next ≤ k) : Two h2 (fun k => k < h0.next) F G T R bt br :=
  ⟨t.keeps k2, r, fun k hf hg => by have := t.ltF' hf; have := hG k hg; omega, fun k hk => ⟨fun hf => by have := hF k hf; omega, fun hg => by have := hG k hg; have := k1.1; omega, by have := k1.1; have := k2.1; omega⟩⟩
end Go.Proofs.YtncmgiddcefpcaaGreatDoor
namespace Go.Con
open Go
set_option linter.unusedSimpArgs false
set_option linter.unusedVariables false
def rootB : Bn := ⟨2, 0, 0, ByteArray.empty, false, [], noBk⟩
def walkK (T : Hi) : Nat → Int → List ByteArray → (Bn × Int) × Nat
  | k, _, [] => ((rootB, 0), k)
  | k, d, n :: ps => match T.look d n with
    | none => ((noBn, 4), k)
    | some b => if b.kind = 3 then (match k with
        | 0 => ((noBn, 14), 0)
        | k' + 1 => match split b.link with
          | none => ((noBn, 3), k')
          | some l => walkK T k' 0 (l ++ ps))
      else if ps = [] then ((b, 0), k) else if b.kind = 1 then ((noBn, 15), k) else walkK T k b.dir ps
  termination_by k _ ps => (k, ps.length)
theorem walkK_nil (T : Hi) (k : Nat) (d : Int) : walkK T k d [] = ((rootB, 0), k) := by rw [walkK]
theorem walkK_cons (T : Hi) (k : Nat) (d : Int) (n : ByteArray) (ps : List ByteArray) : walkK T k d (n :: ps) = match T.look d n with
    | none => ((noBn, 4), k)
    | some b => if b.kind = 3 then (match k with
        | 0 => ((noBn, 14), 0)
        | k' + 1 => match split b.link with
          | none => ((noBn, 3), k')
          | some l => walkK T k' 0 (l ++ ps))
      else if ps = [] then ((b, 0), k) else if b.kind = 1 then ((noBn, 15), k) else walkK T k b.dir ps := by rw [walkK]
def Hi.Kinds (T : Hi) : Prop := ∀ d n b, T.look d n = some b → b.kind = 1 ∨ b.kind = 2 ∨ b.kind = 3
def findK (T : Hi) (k : Nat) (p : ByteArray) : (Bn × Int) × Nat := match split p with | none => ((noBn, 3), k) | some l => walkK T k 0 l
def dirK (T : Hi) (p : ByteArray) : Int × Int := let r := findK T 8 p; if r.1.2 ≠ 0 then (0, r.1.2) else if r.1.1.kind ≠ 2 then (0, 15) else (r.1.1.dir, 0)
end Go.Con
namespace Go.Con
open Go
set_option linter.unusedSimpArgs false
set_option linter.unusedVariables false
structure Dd where
  act : Int
  dir : Int
  name : ByteArray
  more : ByteArray
  b : Bn
namespace Hi
variable (T : Hi)
def step (d : Dd) : Hi :=
  if d.act ≤ 4 then (T.add d.dir d.name d.b).1 else if d.act = 5 then (T.name d.dir d.name d.more).1 else if d.act = 6 then (T.unname d.dir d.name).1
  else if d.act = 7 then (T.delete d.dir d.name).1 else if d.act = 8 then (T.access d.dir d.name d.b.acl).1 else (T.ringed d.dir d.name d.b.b).1
def steps (T : Hi) (l : List Dd) : Hi := l.foldl Hi.step T
def Kin : Prop := ∀ b ∈ T.B, b.kind = 1 ∨ b.kind = 2 ∨ b.kind = 3
def Few (n : Nat) : Prop := T.L.length ≤ n ∧ T.B.length ≤ n
theorem newHi_kin : newHi.Kin := by intro b hb; simp [newHi] at hb
theorem newHi_few : newHi.Few 0 := ⟨Nat.le_refl _, Nat.le_refl _⟩
variable {T}
theorem Few.mono {n m : Nat} (f : T.Few n) (h : n ≤ m) : T.Few m := ⟨Nat.le_trans f.1 h, Nat.le_trans f.2 h⟩
theorem Kin.setB (k : T.Kin) (i : Nat) (b : Bn) (h : b.kind = 1) : (T.setB i b).Kin := by
  intro x hx
  rcases List.mem_or_eq_of_mem_set hx with hx | rfl
  · exact k x hx
  · exact .inl h
theorem Kin.add (k : T.Kin) (d : Int) (n : ByteArray) (b : Bn) : (T.add d n b).1.Kin := by
  unfold Hi.add
  split
  · intro x hx
    unfold added at hx
    rcases List.mem_append.1 hx with hx | hx
    · exact k x hx
    · rw [List.mem_singleton.1 hx]
      unfold clean
      split
      · exact .inl rfl
      · split
        · exact .inr (.inl rfl)
        · exact .inr (.inr rfl)
  · exact k
theorem Few.add {m : Nat} (k : T.Few m) (d : Int) (n : ByteArray) (b : Bn) : (T.add d n b).1.Few (m + 1) := by
  unfold Hi.add
  split
  · exact ⟨by simp [added]; exact k.1, by simp [added]; exact k.2⟩
  · exact k.mono (Nat.le_succ _)
theorem Kin.step {T : Hi} (k : T.Kin) (d : Dd) : (T.step d).Kin := by
  unfold Hi.step
  split
  · exact k.add _ _ _
  split
  · unfold Hi.name named; split
    · exact k
    · split
      · exact k
      · split <;> exact k
  split
  · unfold Hi.unname taken; split
    · exact k
    · split <;> exact k
  split
  · unfold Hi.delete gone; split
    · exact k
    · split <;> exact k
  split
  · unfold Hi.access; split
    · exact k
    · split
      · exact k
      · rename_i h
        split
        · exact k
        · exact k.setB _ _ (by simpa using h)
  · unfold Hi.ringed; split
    · exact k
    · split
      · exact k
      · rename_i h
        split
        · exact k
        · exact k.setB _ _ (by simpa using h)
theorem Few.step {m : Nat} (k : T.Few m) (d : Dd) : (T.step d).Few (m + 1) := by
  have k' := k.mono (Nat.le_succ m)
  unfold Hi.step
  split
  · exact k.add _ _ _
  split
  · unfold Hi.name named; split
    · exact k'
    · split
      · exact k'
      · split
        · exact k'
        · exact ⟨by simp; exact k.1, k'.2⟩
  split
  · unfold Hi.unname taken; split
    · exact k'
    · split
      · exact k'
      · exact ⟨Nat.le_trans (List.length_filter_le _ _) k'.1, k'.2⟩
  split
  · unfold Hi.delete gone; split
    · exact k'
    · split
      · exact k'
      · exact ⟨Nat.le_trans (List.length_filter_le _ _) k'.1, k'.2⟩
  split
  · unfold Hi.access setB; split
    · exact k'
    · split
      · exact k'
      · split
        · exact k'
        · exact ⟨k'.1, by simp; exact k'.2⟩
  · unfold Hi.ringed setB; split
    · exact k'
    · split
      · exact k'
      · split
        · exact k'
        · exact ⟨k'.1, by simp; exact k'.2⟩
theorem steps_app (T : Hi) (l : List Dd) (d : Dd) : T.steps (l ++ [d]) = (T.steps l).step d := by
  unfold steps; rw [List.foldl_append]; rfl
theorem Kin.kinds (k : T.Kin) (ok : T.Ok) : T.Kinds := by
  intro d n b h
  unfold Hi.look at h
  obtain ⟨i, h1, rfl⟩ := Option.map_eq_some_iff.1 h
  have hi := ok.get_lt h1
  exact k _ (by rw [br_lt hi]; exact List.getElem_mem hi)
end Hi
end Go.Con
