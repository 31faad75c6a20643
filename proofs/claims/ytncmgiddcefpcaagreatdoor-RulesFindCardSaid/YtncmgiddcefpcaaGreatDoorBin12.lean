/- Texts joined: what the claim needs of them. No condition. -/
import Derived.Test.YtncmgiddcefpcaaGreatDoorBin11
import Derived.Test.YtncmgiddcefpcaaGreatDoorBin10
namespace Go.Proofs.YtncmgiddcefpcaaGreatDoor
open Go Go.Ev Go.Con
set_option linter.unusedSimpArgs false
set_option linter.unusedVariables false
set_option maxRecDepth 100000
def ToP (h : Hp) (bw br : Nat) (r : (Int × ByteArray × Int) × Nat) (u : Value) (h' : Hp) : Prop :=
  ∃ m', u = .tuple #[.int .i64 r.1.1, .string r.1.2.1, .int .i64 r.1.2.2] ∧ But bw h h' ∧ WkAt h' bw br m' ∧ (r.1.2.2 = 0 → r.2 + m' = 8)
section
variable {G : Nat → Prop} {T : Hi} {br : Nat}
set_option maxHeartbeats 4000000 in
theorem rTo_spec (hK : T.Kinds) (hL : T.L.length ≤ 1000000000) {k : Nat} (hf : ∀ j, j < k → FindOK G T br j) {h : Hp} {bw m : Nat} (r : RefAt h G T br) (w : WkAt h bw br m) (hG : ¬ G bw) (hk : k + m = 8) (p : ByteArray) :
    Meets kon 58 [.pointer (some ⟨bw, 0, none⟩), .string p] h (ToP h bw br (toK T k p)) := by
  obtain ⟨hb, hw⟩ := w
  refine Meets.mk rfl (by kernel_rfl) Tryz.func58 rfl (congrArg Array.toList Tryz.results58) ?_
  repeat' (first | simp only [evr, nextP_norm, evd, evq, beq_self_eq_true, cond_true, cond_false, reduceIte, Nat.reduceEqDiff, Nat.reduceAdd, Int.reduceBNe, Int.reduceBEq, Int.reduceLT, Int.reduceLE, Int.reduceEq, evh, evp, Nat.reduceLeDiff, Nat.reduceSub, Nat.reduceBEq, typs] | refine kCond2_by (fun hc => ?_) (fun hc => ?_) <;> try simp only [hc] | refine kPick_by (fun hc => ?_) (fun hc => ?_) <;> try simp only [hc] | refine kWant_by (fun hc => ?_) (fun hc => ?_) <;> try simp only [hc])
  refine callP_meets (rsplit_spec p h) ?_
  rintro u H0 ⟨k0, hu⟩
  have n0 := k0.1
  have w0 : WkAt H0 bw br m := ⟨by omega, (k0.2 bw hb).trans hw⟩
  have bt0 : But bw h H0 := (But.refl _ _).keep k0
  cases hs : split p with
  | none =>
    rw [hs] at hu
    simp only at hu
    subst hu
    have hT : toK T k p = ((0, ByteArray.empty, 3), k) := by unfold toK; rw [hs]
    rw [hT]
    repeat' (first | simp only [evr, nextP_norm, evd, evq, beq_self_eq_true, cond_true, cond_false, reduceIte, Nat.reduceEqDiff, Nat.reduceAdd, Int.reduceBNe, Int.reduceBEq, Int.reduceLT, Int.reduceLE, Int.reduceEq, evh, evp, Nat.reduceLeDiff, Nat.reduceSub, Nat.reduceBEq, typs] | refine kCond2_by (fun hc => ?_) (fun hc => ?_) <;> try simp only [hc] | refine kPick_by (fun hc => ?_) (fun hc => ?_) <;> try simp only [hc] | refine kWant_by (fun hc => ?_) (fun hc => ?_) <;> try simp only [hc])
    exact ⟨m, rfl, bt0, w0, fun e => absurd e (show (3 : Int) ≠ 0 by decide)⟩
  | some l =>
    rw [hs] at hu
    simp only at hu
    obtain ⟨sl, rfl, g⟩ := hu
    obtain ⟨_, hl16, _, _⟩ := split_all hs
    have sw : StrW H0 bw sl l := ⟨g.slAt, fun c k j e => by
      rcases g with ⟨rfl, _⟩ | ⟨b, k', base, olds, x, rfl, _, _, _, _, _, _, hb0, _⟩
      · cases e
      · simp only [Value.slice.injEq, Option.some.injEq, Addr.mk.injEq] at e
        omega⟩
    have ls := StrSl.len sw.s
    cases hgl : l.getLast? with
    | none =>
      have : l = [] := by simpa using hgl
      subst this
      have hT : toK T k p = ((0, ByteArray.empty, 3), k) := by unfold toK; rw [hs]; rfl
      rw [hT]
      have f1 : (((0 : Nat) : Int) == 0) = true := rfl
      repeat' (first | simp only [evr, nextP_norm, evd, evq, beq_self_eq_true, cond_true, cond_false, reduceIte, Nat.reduceEqDiff, Nat.reduceAdd, Int.reduceBNe, Int.reduceBEq, Int.reduceLT, Int.reduceLE, Int.reduceEq, evh, evp, Nat.reduceLeDiff, Nat.reduceSub, Nat.reduceBEq, typs, ls, f1] | refine kCond2_by (fun hc => ?_) (fun hc => ?_) <;> try simp only [hc] | refine kPick_by (fun hc => ?_) (fun hc => ?_) <;> try simp only [hc] | refine kWant_by (fun hc => ?_) (fun hc => ?_) <;> try simp only [hc])
      exact ⟨m, rfl, bt0, w0, fun e => absurd e (show (3 : Int) ≠ 0 by decide)⟩
    | some x =>
      have e := last_app hgl
      generalize l.dropLast = q at e
      subst e
      have hlen : (q ++ [x]).length = q.length + 1 := by simp
      rw [hlen] at ls hl16
      have f1 : (((q.length + 1 : Nat) : Int) == 0) = false := by simp; omega
      have wn : IntKind.i64.wrap (((q.length + 1 : Nat) : Int) - 1) = (q.length : Int) := by rw [wrap64 (by omega) (by omega)]; omega
      have hT := toK_snoc (T := T) (k := k) hs
      generalize toK T k p = R at hT
      repeat' (first | simp only [evr, nextP_norm, evd, evq, beq_self_eq_true, cond_true, cond_false, reduceIte, Nat.reduceEqDiff, Nat.reduceAdd, Int.reduceBNe, Int.reduceBEq, Int.reduceLT, Int.reduceLE, Int.reduceEq, evh, evp, Nat.reduceLeDiff, Nat.reduceSub, Nat.reduceBEq, typs, ls, f1] | refine kCond2_by (fun hc => ?_) (fun hc => ?_) <;> try simp only [hc] | refine kPick_by (fun hc => ?_) (fun hc => ?_) <;> try simp only [hc] | refine kWant_by (fun hc => ?_) (fun hc => ?_) <;> try simp only [hc])
      refine Wp_loop (fun N fr H => ∃ (i k' m' : Nat) (b : Bn), N = q.length - i ∧ i ≤ q.length ∧ k' + m' = 8 ∧ k' ≤ k ∧ walkK T k 0 (q.take i) = ((b, 0), k') ∧ b.kind = 2 ∧ But bw H0 H ∧ WkAt H bw br m' ∧
        fr.get 0 = some (.pointer (some ⟨bw, 0, none⟩)) ∧ fr.get 7 = some sl ∧ fr.get 9 = some (.int .i64 b.dir) ∧ fr.get 10 = some (.int .i64 i)) q.length ⟨0, k, m, rootB, rfl, Nat.zero_le _, hk, Nat.le_refl _, walkK_nil _ _ _, rfl, But.refl _ _, w0, ?_, ?_, ?_, ?_⟩ ?_
      · repeat' (first | simp only [evr, nextP_norm, evd, evq, beq_self_eq_true, cond_true, cond_false, reduceIte, Nat.reduceEqDiff, Nat.reduceAdd, Int.reduceBNe, Int.reduceBEq, Int.reduceLT, Int.reduceLE, Int.reduceEq, evh, evp, Nat.reduceLeDiff, Nat.reduceSub, Nat.reduceBEq, typs] | refine kCond2_by (fun hc => ?_) (fun hc => ?_) <;> try simp only [hc] | refine kPick_by (fun hc => ?_) (fun hc => ?_) <;> try simp only [hc] | refine kWant_by (fun hc => ?_) (fun hc => ?_) <;> try simp only [hc])
      · repeat' (first | simp only [evr, nextP_norm, evd, evq, beq_self_eq_true, cond_true, cond_false, reduceIte, Nat.reduceEqDiff, Nat.reduceAdd, Int.reduceBNe, Int.reduceBEq, Int.reduceLT, Int.reduceLE, Int.reduceEq, evh, evp, Nat.reduceLeDiff, Nat.reduceSub, Nat.reduceBEq, typs] | refine kCond2_by (fun hc => ?_) (fun hc => ?_) <;> try simp only [hc] | refine kPick_by (fun hc => ?_) (fun hc => ?_) <;> try simp only [hc] | refine kWant_by (fun hc => ?_) (fun hc => ?_) <;> try simp only [hc])
      · repeat' (first | simp only [evr, nextP_norm, evd, evq, beq_self_eq_true, cond_true, cond_false, reduceIte, Nat.reduceEqDiff, Nat.reduceAdd, Int.reduceBNe, Int.reduceBEq, Int.reduceLT, Int.reduceLE, Int.reduceEq, evh, evp, Nat.reduceLeDiff, Nat.reduceSub, Nat.reduceBEq, typs] | refine kCond2_by (fun hc => ?_) (fun hc => ?_) <;> try simp only [hc] | refine kPick_by (fun hc => ?_) (fun hc => ?_) <;> try simp only [hc] | refine kWant_by (fun hc => ?_) (fun hc => ?_) <;> try simp only [hc])
        rfl
      · repeat' (first | simp only [evr, nextP_norm, evd, evq, beq_self_eq_true, cond_true, cond_false, reduceIte, Nat.reduceEqDiff, Nat.reduceAdd, Int.reduceBNe, Int.reduceBEq, Int.reduceLT, Int.reduceLE, Int.reduceEq, evh, evp, Nat.reduceLeDiff, Nat.reduceSub, Nat.reduceBEq, typs] | refine kCond2_by (fun hc => ?_) (fun hc => ?_) <;> try simp only [hc] | refine kPick_by (fun hc => ?_) (fun hc => ?_) <;> try simp only [hc] | refine kWant_by (fun hc => ?_) (fun hc => ?_) <;> try simp only [hc])
        rfl
      rintro N fr H ⟨i, k', m', b, rfl, hi, hk', hkk, hwk, hb2, bu, wH, r0, r7, r9, r10⟩
      have swH := sw.but bu
      have nH := bu.1
      by_cases h3 : i < q.length
      · have e3 : decide ((i : Int) < (q.length : Int)) = true := decide_eq_true (by omega)
        have hx : (q ++ [x])[i]? = some q[i] := by rw [List.getElem?_append_left h3, List.getElem?_eq_getElem h3]
        obtain ⟨pb, po, pall, a1, a2, a3⟩ := StrSl.at2 swH.s hx
        have wi : IntKind.i64.wrap ((i : Int) + 1) = ((i + 1 : Nat) : Int) := by rw [wrap64 (by omega) (by omega)]; omega
        repeat' (first | simp only [evr, nextP_norm, evd, evq, beq_self_eq_true, cond_true, cond_false, reduceIte, Nat.reduceEqDiff, Nat.reduceAdd, Int.reduceBNe, Int.reduceBEq, Int.reduceLT, Int.reduceLE, Int.reduceEq, evh, evp, Nat.reduceLeDiff, Nat.reduceSub, Nat.reduceBEq, typs, r0, r7, r9, r10, ls, wn, e3, a1, a2, a3] | refine kCond2_by (fun hc => ?_) (fun hc => ?_) <;> try simp only [hc] | refine kPick_by (fun hc => ?_) (fun hc => ?_) <;> try simp only [hc] | refine kWant_by (fun hc => ?_) (fun hc => ?_) <;> try simp only [hc])
        have rH := r.keep (h' := H) (by omega) fun j hj => (bu.2 j (by have := r.lt hj; omega) (by rintro rfl; exact hG hj)).trans (k0.2 j (r.lt hj))
        refine callP_meets (rIn_spec hL (fun j hj => hf j (by omega)) rH wH hG hk' b.dir q[i]) ?_
        rw [← walk_next hK h3 hwk hb2]
        have pre := walk_pre hK k q (i + 1)
        have le1 := walkK_le T k 0 (q.take (i + 1))
        generalize hR1 : walkK T k 0 (q.take (i + 1)) = R1 at *
        rintro _ H2 ⟨s2, m2, rfl, ty2, b2, w2, hm2⟩
        obtain ⟨c1, c2⟩ := TmTy.cell ty2
        have n2 := b2.1
        unfold bnC
        simp only [evr, evd, evq, beq_self_eq_true, cond_true, cond_false, reduceIte, Nat.reduceEqDiff, Nat.reduceAdd, Int.reduceBNe, Int.reduceBEq, Int.reduceLT, Int.reduceLE, Int.reduceEq, evh, evp, Nat.reduceLeDiff, Nat.reduceSub, Nat.reduceBEq, typs, r0, r7, r9, r10, c1, c2]
        rw [nextP_norm]
        generalize hh : Hp.set _ _ _ = H3
        have k3 : Keep H2 H3 := by rw [← hh]; exact (Keep.push _ _).set (Nat.le_refl _)
        have q3 : rowOf H3 H2.next = some (bnC R1.1.1 s2) := by rw [← hh]; exact rowOf_rw (Hp.get_set_self _ _ _)
        clear hh
        unfold bnC at q3
        have w3 : WkAt H3 bw br m2 := ⟨Nat.lt_of_lt_of_le w2.1 k3.1, (k3.2 bw w2.1).trans w2.2⟩
        have bu3 := (bu.trans b2).keep k3
        by_cases h1 : R1.1.2 = 0
        · have g1 : (R1.1.2 != 0) = false := by simp [h1]
          by_cases h2 : R1.1.1.kind = 2
          · have g2 : (R1.1.1.kind != 2) = false := by simp [h2]
            repeat' (first | simp only [evr, nextP_norm, evd, evq, beq_self_eq_true, cond_true, cond_false, reduceIte, Nat.reduceEqDiff, Nat.reduceAdd, Int.reduceBNe, Int.reduceBEq, Int.reduceLT, Int.reduceLE, Int.reduceEq, evh, evp, Nat.reduceLeDiff, Nat.reduceSub, Nat.reduceBEq, typs, r0, r7, r9, r10, q3, g1, g2, wi] | refine kCond2_by (fun hc => ?_) (fun hc => ?_) <;> try simp only [hc] | refine kPick_by (fun hc => ?_) (fun hc => ?_) <;> try simp only [hc] | refine kWant_by (fun hc => ?_) (fun hc => ?_) <;> try simp only [hc])
            refine ⟨q.length - (i + 1), by omega, i + 1, R1.2, m2, R1.1.1, rfl, by omega, hm2 h1, le1, ?_, h2, bu3, w3, rfl, rfl⟩
            rw [hR1]
            obtain ⟨⟨a, b⟩, c⟩ := R1
            simp only at h1
            rw [h1]
          · have g2 : (R1.1.1.kind != 2) = true := by simp [h2]
            repeat' (first | simp only [evr, nextP_norm, evd, evq, beq_self_eq_true, cond_true, cond_false, reduceIte, Nat.reduceEqDiff, Nat.reduceAdd, Int.reduceBNe, Int.reduceBEq, Int.reduceLT, Int.reduceLE, Int.reduceEq, evh, evp, Nat.reduceLeDiff, Nat.reduceSub, Nat.reduceBEq, typs, r0, r7, r9, r10, q3, g1, g2] | refine kCond2_by (fun hc => ?_) (fun hc => ?_) <;> try simp only [hc] | refine kPick_by (fun hc => ?_) (fun hc => ?_) <;> try simp only [hc] | refine kWant_by (fun hc => ?_) (fun hc => ?_) <;> try simp only [hc])
            have e15 : R.1 = (0, ByteArray.empty, 15) := by
              rw [hT, pre]
              unfold walkThen
              by_cases hd : q.drop (i + 1) = []
              · rw [hd]; simp [h1, h2]
              · simp only [ne_eq, h1, not_true_eq_false, if_false, hd, h2]; simp
            exact ⟨m2, by rw [e15], bt0.trans bu3, w3, fun e => absurd e (by rw [e15]; decide)⟩
        · have g1 : (R1.1.2 != 0) = true := by simp [h1]
          repeat' (first | simp only [evr, nextP_norm, evd, evq, beq_self_eq_true, cond_true, cond_false, reduceIte, Nat.reduceEqDiff, Nat.reduceAdd, Int.reduceBNe, Int.reduceBEq, Int.reduceLT, Int.reduceLE, Int.reduceEq, evh, evp, Nat.reduceLeDiff, Nat.reduceSub, Nat.reduceBEq, typs, r0, r7, r9, r10, q3, g1] | refine kCond2_by (fun hc => ?_) (fun hc => ?_) <;> try simp only [hc] | refine kPick_by (fun hc => ?_) (fun hc => ?_) <;> try simp only [hc] | refine kWant_by (fun hc => ?_) (fun hc => ?_) <;> try simp only [hc])
          have er : R.1 = (0, ByteArray.empty, R1.1.2) := by
            rw [hT, pre]
            unfold walkThen
            rw [if_pos h1, if_pos h1]
          exact ⟨m2, by rw [er], bt0.trans bu3, w3, fun e => absurd e (by rw [er]; exact h1)⟩
      · have e3 : decide ((i : Int) < (q.length : Int)) = false := decide_eq_false (by omega)
        have hx : (q ++ [x])[q.length]? = some x := by simp
        obtain ⟨pb, po, pall, a1, a2, a3⟩ := StrSl.at2 swH.s hx
        repeat' (first | simp only [evr, nextP_norm, evd, evq, beq_self_eq_true, cond_true, cond_false, reduceIte, Nat.reduceEqDiff, Nat.reduceAdd, Int.reduceBNe, Int.reduceBEq, Int.reduceLT, Int.reduceLE, Int.reduceEq, evh, evp, Nat.reduceLeDiff, Nat.reduceSub, Nat.reduceBEq, typs, r0, r7, r9, r10, ls, wn, e3] | refine kCond2_by (fun hc => ?_) (fun hc => ?_) <;> try simp only [hc] | refine kPick_by (fun hc => ?_) (fun hc => ?_) <;> try simp only [hc] | refine kWant_by (fun hc => ?_) (fun hc => ?_) <;> try simp only [hc])
        refine Wp_drawE [0, 0, 0, 0, 0, 0, 1, 0, 0, 0] (KR.mk (by kernel_rfl)) ?_
        repeat' (first | simp only [evr, nextP_norm, evd, evq, beq_self_eq_true, cond_true, cond_false, reduceIte, Nat.reduceEqDiff, Nat.reduceAdd, Int.reduceBNe, Int.reduceBEq, Int.reduceLT, Int.reduceLE, Int.reduceEq, evh, evp, Nat.reduceLeDiff, Nat.reduceSub, Nat.reduceBEq, typs, r0, r7, r9, r10, ls, wn, e3, a1, a2, a3] | refine kCond2_by (fun hc => ?_) (fun hc => ?_) <;> try simp only [hc] | refine kPick_by (fun hc => ?_) (fun hc => ?_) <;> try simp only [hc] | refine kWant_by (fun hc => ?_) (fun hc => ?_) <;> try simp only [hc])
        rw [List.take_of_length_le (by omega)] at hwk
        have eR : R = ((b.dir, x, 0), k') := by rw [hT, hwk, if_neg (by simp), if_neg (by simp [hb2])]
        rw [eR]
        exact ⟨m', rfl, bt0.trans bu, wH, fun _ => hk'⟩
set_option maxHeartbeats 4000000 in
theorem rFind_spec (hK : T.Kinds) (hL : T.L.length ≤ 1000000000) (k : Nat) : FindOK G T br k := by
  induction k using Nat.strongRecOn with
  | _ k ih =>
  rintro h bw m p r ⟨hb, hw⟩ hG hk
  refine Meets.mk rfl (by kernel_rfl) Tryz.func57 rfl (congrArg Array.toList Tryz.results57) ?_
  simp only [evr, evd, evq, beq_self_eq_true, cond_true, cond_false, reduceIte, Nat.reduceEqDiff, Nat.reduceAdd, Int.reduceBNe, Int.reduceBEq, Int.reduceLT, Int.reduceLE, Int.reduceEq, evh, evp, Nat.reduceLeDiff, Nat.reduceSub, Nat.reduceBEq, typs]
  rw [nextP_norm]
  generalize hh : Hp.push _ _ = H0
  have k0 : Keep h H0 := by rw [← hh]; exact Keep.push _ _
  have n0 : H0.next = h.next + 1 := by rw [← hh]; rfl
  have z0 : H0.get h.next = some (.row [.int .i64 0, .int .i64 0, .int .i64 0, .string ByteArray.empty, .bool false, .slice none 0 0, .int .i64 0, .int .i64 0, .int .i64 0, .int .i64 0] 34 (.rw 0 [])) := by rw [← hh]; exact Hp.get_push_self _ _
  clear hh
  have q0 := rowOf_rw z0
  have r0 := r.keep k0.1 fun j hj => k0.2 j (r.lt hj)
  have w0 : WkAt H0 bw br m := ⟨by omega, (k0.2 _ hb).trans hw⟩
  have bn : ∀ {H' : Hp} {o : Ob}, But bw H0 H' → But bw h (H'.set h.next o) := fun {H' o} kk => ⟨by rw [Hp.next_set]; have := kk.1; omega, fun j hj hne => by
    rw [Hp.get_set_ne (by omega)]; exact (kk.2 j (by omega) hne).trans (k0.2 j hj)⟩
  have wn : ∀ {H' : Hp} {o : Ob} {m' : Nat}, WkAt H' bw br m' → WkAt (H'.set h.next o) bw br m' := fun {H' o m'} e => ⟨e.1, (Hp.get_set_ne (by omega)).trans e.2⟩
  by_cases hp : p = ⟨#[62]⟩
  · have f1 : decide (p = (ByteArray.mk #[62])) = true := decide_eq_true hp
    have eb : evBuild kon.P 34 [(0, .int .i64 2)] = some (.agg #[.int .i64 2, .int .i64 0, .int .i64 0, .string ByteArray.empty, .bool false, .slice none 0 0, .int .i64 0, .int .i64 0, .int .i64 0, .int .i64 0]) := by kernel_rfl
    have hR : findK T k p = ((rootB, 0), k) := by unfold findK; rw [split_nil.2 hp]; exact walkK_nil _ _ _
    rw [hR]
    repeat' (first | simp only [evr, nextP_norm, evd, evq, beq_self_eq_true, cond_true, cond_false, reduceIte, Nat.reduceEqDiff, Nat.reduceAdd, Int.reduceBNe, Int.reduceBEq, Int.reduceLT, Int.reduceLE, Int.reduceEq, evh, evp, Nat.reduceLeDiff, Nat.reduceSub, Nat.reduceBEq, typs, f1, eb, z0, q0] | refine kCond2_by (fun hc => ?_) (fun hc => ?_) <;> try simp only [hc] | refine kPick_by (fun hc => ?_) (fun hc => ?_) <;> try simp only [hc] | refine kWant_by (fun hc => ?_) (fun hc => ?_) <;> try simp only [hc])
    exact ⟨.slice none 0 0, m, rfl, .inl ⟨rfl, rfl⟩, bn (But.refl _ _), wn w0, fun _ => hk⟩
  · have f1 : decide (p = (ByteArray.mk #[62])) = false := decide_eq_false hp
    repeat' (first | simp only [evr, nextP_norm, evd, evq, beq_self_eq_true, cond_true, cond_false, reduceIte, Nat.reduceEqDiff, Nat.reduceAdd, Int.reduceBNe, Int.reduceBEq, Int.reduceLT, Int.reduceLE, Int.reduceEq, evh, evp, Nat.reduceLeDiff, Nat.reduceSub, Nat.reduceBEq, typs, f1] | refine kCond2_by (fun hc => ?_) (fun hc => ?_) <;> try simp only [hc] | refine kPick_by (fun hc => ?_) (fun hc => ?_) <;> try simp only [hc] | refine kWant_by (fun hc => ?_) (fun hc => ?_) <;> try simp only [hc])
    refine callP_meets (rTo_spec hK hL ih r0 w0 hG hk p) ?_
    rintro _ H2 ⟨m2, rfl, b2, w2, hm2⟩
    have z2 := (b2.2 _ (by omega) (by omega)).trans z0
    have q2 := rowOf_rw z2
    by_cases h1 : (toK T k p).1.2.2 = 0
    · have f2 : ((toK T k p).1.2.2 != 0) = false := by simp [h1]
      have hft := find_to hK (k := k) (p := p) (d := (toK T k p).1.1) (n := (toK T k p).1.2.1) (k' := (toK T k p).2) (by rw [← h1])
      have hm2' := hm2 h1
      have hle := hft.2
      rw [hft.1]
      generalize toK T k p = R at *
      repeat' (first | simp only [evr, nextP_norm, evd, evq, beq_self_eq_true, cond_true, cond_false, reduceIte, Nat.reduceEqDiff, Nat.reduceAdd, Int.reduceBNe, Int.reduceBEq, Int.reduceLT, Int.reduceLE, Int.reduceEq, evh, evp, Nat.reduceLeDiff, Nat.reduceSub, Nat.reduceBEq, typs, f2] | refine kCond2_by (fun hc => ?_) (fun hc => ?_) <;> try simp only [hc] | refine kPick_by (fun hc => ?_) (fun hc => ?_) <;> try simp only [hc] | refine kWant_by (fun hc => ?_) (fun hc => ?_) <;> try simp only [hc])
      have r2 := r0.keep b2.1 fun j hj => b2.2 j (r0.lt hj) (by rintro rfl; exact hG hj)
      refine callP_meets (rIn_spec hL (fun j hj => ih j (by omega)) r2 w2 hG hm2' R.1.1 R.1.2.1) ?_
      rintro _ H3 ⟨s3, m3, rfl, ty3, b3, w3, hm3⟩
      obtain ⟨c1, c2⟩ := TmTy.cell ty3
      have n2 := b2.1
      have z3 := (b3.2 _ (by omega) (by omega)).trans z2
      have q3 := rowOf_rw z3
      unfold bnC
      repeat' (first | simp only [evr, nextP_norm, evd, evq, beq_self_eq_true, cond_true, cond_false, reduceIte, Nat.reduceEqDiff, Nat.reduceAdd, Int.reduceBNe, Int.reduceBEq, Int.reduceLT, Int.reduceLE, Int.reduceEq, evh, evp, Nat.reduceLeDiff, Nat.reduceSub, Nat.reduceBEq, typs, z3, q3, c1, c2] | refine kCond2_by (fun hc => ?_) (fun hc => ?_) <;> try simp only [hc] | refine kPick_by (fun hc => ?_) (fun hc => ?_) <;> try simp only [hc] | refine kWant_by (fun hc => ?_) (fun hc => ?_) <;> try simp only [hc])
      exact ⟨s3, m3, rfl, SlTy.keepF ty3 (Nat.le_refl _) fun j hj => Hp.get_set_ne (by have := r.lt hj; omega), bn (b2.trans b3), wn w3, hm3⟩
    · have f2 : ((toK T k p).1.2.2 != 0) = true := by simp [h1]
      have hR := find_toerr hK hp h1
      generalize toK T k p = R at *
      repeat' (first | simp only [evr, nextP_norm, evd, evq, beq_self_eq_true, cond_true, cond_false, reduceIte, Nat.reduceEqDiff, Nat.reduceAdd, Int.reduceBNe, Int.reduceBEq, Int.reduceLT, Int.reduceLE, Int.reduceEq, evh, evp, Nat.reduceLeDiff, Nat.reduceSub, Nat.reduceBEq, typs, f2, zero_buildR, z2, q2] | refine kCond2_by (fun hc => ?_) (fun hc => ?_) <;> try simp only [hc] | refine kPick_by (fun hc => ?_) (fun hc => ?_) <;> try simp only [hc] | refine kWant_by (fun hc => ?_) (fun hc => ?_) <;> try simp only [hc])
      exact ⟨.slice none 0 0, m2, by rw [hR]; rfl, by rw [hR]; exact .inl ⟨rfl, rfl⟩, bn b2, wn w2, fun e => absurd (by rw [hR] at e; exact e) h1⟩
theorem wk_new (h : Hp) (br : Nat) : WkAt (h.push (.row [.pointer (some ⟨br, 0, none⟩), .int .i64 0] 118 (.rw 0 []))) h.next br 0 := ⟨Nat.lt_succ_self _, Hp.get_push_self _ _⟩
theorem But.new {h h' : Hp} {o : Ob} (b : But h.next (h.push o) h') : Keep h h' := ⟨Nat.le_trans (Nat.le_succ _) b.1, fun k hk => (b.2 k (Nat.lt_succ_of_lt hk) (by omega)).trans ((Keep.push h o).2 k hk)⟩
theorem RefAt.keeps {h h' : Hp} {G : Nat → Prop} {R : Hi} {br : Nat} (r : RefAt h G R br) (k : Keep h h') : RefAt h' G R br := r.keep k.1 fun j hj => k.2 j (r.lt hj)
def FinR (h : Hp) (G : Nat → Prop) (R : Bn × Int) (u : Value) (h' : Hp) : Prop := ∃ sl, u = .tuple #[.agg (bnC R.1 sl).toArray, .int .i64 R.2] ∧ TmTy h' G sl R.1.acl ∧ Keep h h'
theorem wk_build (br : Nat) : evBuild kon.P 118 [(0, .pointer (some ⟨br, 0, none⟩))] = some (.agg #[.pointer (some ⟨br, 0, none⟩), .int .i64 0]) := by kernel_rfl
set_option maxHeartbeats 1000000 in
theorem rwTo_spec (hK : T.Kinds) (hL : T.L.length ≤ 1000000000) {h : Hp} (r : RefAt h G T br) (p : ByteArray) : Meets kon 23 [.pointer (some ⟨br, 0, none⟩), .string p] h fun u h' => u = .tuple #[.int .i64 (toK T 8 p).1.1, .string (toK T 8 p).1.2.1, .int .i64 (toK T 8 p).1.2.2] ∧ Keep h h' := by
  refine Meets.mk rfl (by kernel_rfl) Tryz.func23 rfl (congrArg Array.toList Tryz.results23) ?_
  repeat' (first | simp only [evr, nextP_norm, evd, evq, beq_self_eq_true, cond_true, cond_false, reduceIte, Nat.reduceEqDiff, Nat.reduceAdd, Int.reduceBNe, Int.reduceBEq, Int.reduceLT, Int.reduceLE, Int.reduceEq, evh, evp, Nat.reduceLeDiff, Nat.reduceSub, Nat.reduceBEq, typs, wk_build br] | refine kCond2_by (fun hc => ?_) (fun hc => ?_) <;> try simp only [hc] | refine kPick_by (fun hc => ?_) (fun hc => ?_) <;> try simp only [hc] | refine kWant_by (fun hc => ?_) (fun hc => ?_) <;> try simp only [hc])
  refine callP_meets (rTo_spec hK hL (fun j _ => rFind_spec hK hL j) (r.keeps (Keep.push _ _)) (wk_new h br) (fun hg => by have := r.lt hg; omega) (k := 8) rfl p) ?_
  rintro _ H2 ⟨m2, rfl, b2, w2, hm2⟩
  repeat' (first | simp only [evr, nextP_norm, evd, evq, beq_self_eq_true, cond_true, cond_false, reduceIte, Nat.reduceEqDiff, Nat.reduceAdd, Int.reduceBNe, Int.reduceBEq, Int.reduceLT, Int.reduceLE, Int.reduceEq, evh, evp, Nat.reduceLeDiff, Nat.reduceSub, Nat.reduceBEq, typs] | refine kCond2_by (fun hc => ?_) (fun hc => ?_) <;> try simp only [hc] | refine kPick_by (fun hc => ?_) (fun hc => ?_) <;> try simp only [hc] | refine kWant_by (fun hc => ?_) (fun hc => ?_) <;> try simp only [hc])
  exact b2.new
set_option maxHeartbeats 1000000 in
theorem rwDir_spec (hK : T.Kinds) (hL : T.L.length ≤ 1000000000) {h : Hp} (r : RefAt h G T br) (p : ByteArray) : Meets kon 21 [.pointer (some ⟨br, 0, none⟩), .string p] h fun u h' => u = .tuple #[.int .i64 (dirK T p).1, .int .i64 (dirK T p).2] ∧ Keep h h' := by
  refine Meets.mk rfl (by kernel_rfl) Tryz.func21 rfl (congrArg Array.toList Tryz.results21) ?_
  repeat' (first | simp only [evr, nextP_norm, evd, evq, beq_self_eq_true, cond_true, cond_false, reduceIte, Nat.reduceEqDiff, Nat.reduceAdd, Int.reduceBNe, Int.reduceBEq, Int.reduceLT, Int.reduceLE, Int.reduceEq, evh, evp, Nat.reduceLeDiff, Nat.reduceSub, Nat.reduceBEq, typs, wk_build br] | refine kCond2_by (fun hc => ?_) (fun hc => ?_) <;> try simp only [hc] | refine kPick_by (fun hc => ?_) (fun hc => ?_) <;> try simp only [hc] | refine kWant_by (fun hc => ?_) (fun hc => ?_) <;> try simp only [hc])
  refine callP_meets (rFind_spec hK hL 8 _ h.next 0 p (r.keeps (Keep.push _ _)) (wk_new h br) (fun hg => by have := r.lt hg; omega) rfl) ?_
  rintro _ H2 ⟨s2, m2, rfl, ty, b2, w2, hm2⟩
  obtain ⟨c1, c2⟩ := TmTy.cell ty
  have k2 := b2.new
  have hD : dirK T p = if (findK T 8 p).1.2 ≠ 0 then (0, (findK T 8 p).1.2) else if (findK T 8 p).1.1.kind ≠ 2 then (0, 15) else ((findK T 8 p).1.1.dir, 0) := rfl
  rw [hD]
  clear hD hm2
  generalize (findK T 8 p).1 = R at *
  unfold bnC
  simp only [evr, evd, evq, beq_self_eq_true, cond_true, cond_false, reduceIte, Nat.reduceEqDiff, Nat.reduceAdd, Int.reduceBNe, Int.reduceBEq, Int.reduceLT, Int.reduceLE, Int.reduceEq, evh, evp, Nat.reduceLeDiff, Nat.reduceSub, Nat.reduceBEq, typs, c1, c2]
  rw [nextP_norm]
  generalize hh : Hp.set _ _ _ = H3
  have k3 : Keep H2 H3 := by rw [← hh]; exact (Keep.push _ _).set (Nat.le_refl _)
  have q3 : rowOf H3 H2.next = some (bnC R.1 s2) := by rw [← hh]; exact rowOf_rw (Hp.get_set_self _ _ _)
  clear hh
  unfold bnC at q3
  by_cases h1 : R.2 = 0
  · have f1 : (R.2 != 0) = false := by simp [h1]
    rw [if_neg (by simp [h1])]
    by_cases h2 : R.1.kind = 2
    · have f2 : (R.1.kind != 2) = false := by simp [h2]
      rw [if_neg (by simp [h2])]
      repeat' (first | simp only [evr, nextP_norm, evd, evq, beq_self_eq_true, cond_true, cond_false, reduceIte, Nat.reduceEqDiff, Nat.reduceAdd, Int.reduceBNe, Int.reduceBEq, Int.reduceLT, Int.reduceLE, Int.reduceEq, evh, evp, Nat.reduceLeDiff, Nat.reduceSub, Nat.reduceBEq, typs, q3, f1, f2] | refine kCond2_by (fun hc => ?_) (fun hc => ?_) <;> try simp only [hc] | refine kPick_by (fun hc => ?_) (fun hc => ?_) <;> try simp only [hc] | refine kWant_by (fun hc => ?_) (fun hc => ?_) <;> try simp only [hc])
      exact k2.trans k3
    · have f2 : (R.1.kind != 2) = true := by simp [h2]
      rw [if_pos h2]
      repeat' (first | simp only [evr, nextP_norm, evd, evq, beq_self_eq_true, cond_true, cond_false, reduceIte, Nat.reduceEqDiff, Nat.reduceAdd, Int.reduceBNe, Int.reduceBEq, Int.reduceLT, Int.reduceLE, Int.reduceEq, evh, evp, Nat.reduceLeDiff, Nat.reduceSub, Nat.reduceBEq, typs, q3, f1, f2] | refine kCond2_by (fun hc => ?_) (fun hc => ?_) <;> try simp only [hc] | refine kPick_by (fun hc => ?_) (fun hc => ?_) <;> try simp only [hc] | refine kWant_by (fun hc => ?_) (fun hc => ?_) <;> try simp only [hc])
      exact k2.trans k3
  · have f1 : (R.2 != 0) = true := by simp [h1]
    rw [if_pos h1]
    repeat' (first | simp only [evr, nextP_norm, evd, evq, beq_self_eq_true, cond_true, cond_false, reduceIte, Nat.reduceEqDiff, Nat.reduceAdd, Int.reduceBNe, Int.reduceBEq, Int.reduceLT, Int.reduceLE, Int.reduceEq, evh, evp, Nat.reduceLeDiff, Nat.reduceSub, Nat.reduceBEq, typs, q3, f1] | refine kCond2_by (fun hc => ?_) (fun hc => ?_) <;> try simp only [hc] | refine kPick_by (fun hc => ?_) (fun hc => ?_) <;> try simp only [hc] | refine kWant_by (fun hc => ?_) (fun hc => ?_) <;> try simp only [hc])
    exact k2.trans k3
set_option maxHeartbeats 1000000 in
theorem rwFind_spec (hK : T.Kinds) (hL : T.L.length ≤ 1000000000) {h : Hp} (r : RefAt h G T br) (p : ByteArray) : Meets kon 24 [.pointer (some ⟨br, 0, none⟩), .string p] h (FinR h G (findK T 8 p).1) := by
  refine Meets.mk rfl (by kernel_rfl) Tryz.func24 rfl (congrArg Array.toList Tryz.results24) ?_
  simp only [evr, evd, evq, beq_self_eq_true, cond_true, cond_false, reduceIte, Nat.reduceEqDiff, Nat.reduceAdd, Int.reduceBNe, Int.reduceBEq, Int.reduceLT, Int.reduceLE, Int.reduceEq, evh, evp, Nat.reduceLeDiff, Nat.reduceSub, Nat.reduceBEq, typs]
  rw [nextP_norm]
  generalize hh : Hp.push _ _ = H0
  have k0 : Keep h H0 := by rw [← hh]; exact Keep.push _ _
  have n0 : H0.next = h.next + 1 := by rw [← hh]; rfl
  have z0 : H0.get h.next = some (.row [.int .i64 0, .int .i64 0, .int .i64 0, .string ByteArray.empty, .bool false, .slice none 0 0, .int .i64 0, .int .i64 0, .int .i64 0, .int .i64 0] 34 (.rw 0 [])) := by rw [← hh]; exact Hp.get_push_self _ _
  clear hh
  have r0 := r.keeps k0
  repeat' (first | simp only [evr, nextP_norm, evd, evq, beq_self_eq_true, cond_true, cond_false, reduceIte, Nat.reduceEqDiff, Nat.reduceAdd, Int.reduceBNe, Int.reduceBEq, Int.reduceLT, Int.reduceLE, Int.reduceEq, evh, evp, Nat.reduceLeDiff, Nat.reduceSub, Nat.reduceBEq, typs, wk_build br] | refine kCond2_by (fun hc => ?_) (fun hc => ?_) <;> try simp only [hc] | refine kPick_by (fun hc => ?_) (fun hc => ?_) <;> try simp only [hc] | refine kWant_by (fun hc => ?_) (fun hc => ?_) <;> try simp only [hc])
  refine callP_meets (rFind_spec hK hL 8 _ H0.next 0 p (r0.keeps (Keep.push _ _)) (wk_new H0 br) (fun hg => by have := r0.lt hg; omega) rfl) ?_
  rintro _ H2 ⟨s2, m2, rfl, ty, b2, w2, hm2⟩
  obtain ⟨c1, c2⟩ := TmTy.cell ty
  have k2 := b2.new
  have z2 := (k2.2 _ (by omega)).trans z0
  have q2 := rowOf_rw z2
  unfold bnC
  repeat' (first | simp only [evr, nextP_norm, evd, evq, beq_self_eq_true, cond_true, cond_false, reduceIte, Nat.reduceEqDiff, Nat.reduceAdd, Int.reduceBNe, Int.reduceBEq, Int.reduceLT, Int.reduceLE, Int.reduceEq, evh, evp, Nat.reduceLeDiff, Nat.reduceSub, Nat.reduceBEq, typs, z2, q2, c1, c2] | refine kCond2_by (fun hc => ?_) (fun hc => ?_) <;> try simp only [hc] | refine kPick_by (fun hc => ?_) (fun hc => ?_) <;> try simp only [hc] | refine kWant_by (fun hc => ?_) (fun hc => ?_) <;> try simp only [hc])
  exact ⟨s2, rfl, SlTy.keepF ty (Nat.le_refl _) fun j hj => Hp.get_set_ne (by have := r.lt hj; omega), (k0.trans k2).set (Nat.le_refl _)⟩
set_option maxHeartbeats 1000000 in
theorem rwIn_spec (hK : T.Kinds) (hL : T.L.length ≤ 1000000000) {h : Hp} (r : RefAt h G T br) (d : Int) (n : ByteArray) : Meets kon 26 [.pointer (some ⟨br, 0, none⟩), .int .i64 d, .string n] h (FinR h G (walkK T 8 d [n]).1) := by
  refine Meets.mk rfl (by kernel_rfl) Tryz.func26 rfl (congrArg Array.toList Tryz.results26) ?_
  simp only [evr, evd, evq, beq_self_eq_true, cond_true, cond_false, reduceIte, Nat.reduceEqDiff, Nat.reduceAdd, Int.reduceBNe, Int.reduceBEq, Int.reduceLT, Int.reduceLE, Int.reduceEq, evh, evp, Nat.reduceLeDiff, Nat.reduceSub, Nat.reduceBEq, typs]
  rw [nextP_norm]
  generalize hh : Hp.push _ _ = H0
  have k0 : Keep h H0 := by rw [← hh]; exact Keep.push _ _
  have n0 : H0.next = h.next + 1 := by rw [← hh]; rfl
  have z0 : H0.get h.next = some (.row [.int .i64 0, .int .i64 0, .int .i64 0, .string ByteArray.empty, .bool false, .slice none 0 0, .int .i64 0, .int .i64 0, .int .i64 0, .int .i64 0] 34 (.rw 0 [])) := by rw [← hh]; exact Hp.get_push_self _ _
  clear hh
  have r0 := r.keeps k0
  repeat' (first | simp only [evr, nextP_norm, evd, evq, beq_self_eq_true, cond_true, cond_false, reduceIte, Nat.reduceEqDiff, Nat.reduceAdd, Int.reduceBNe, Int.reduceBEq, Int.reduceLT, Int.reduceLE, Int.reduceEq, evh, evp, Nat.reduceLeDiff, Nat.reduceSub, Nat.reduceBEq, typs, wk_build br] | refine kCond2_by (fun hc => ?_) (fun hc => ?_) <;> try simp only [hc] | refine kPick_by (fun hc => ?_) (fun hc => ?_) <;> try simp only [hc] | refine kWant_by (fun hc => ?_) (fun hc => ?_) <;> try simp only [hc])
  refine callP_meets (rIn_spec hL (fun j _ => rFind_spec hK hL j) (r0.keeps (Keep.push _ _)) (wk_new H0 br) (fun hg => by have := r0.lt hg; omega) (k := 8) rfl d n) ?_
  rintro _ H2 ⟨s2, m2, rfl, ty, b2, w2, hm2⟩
  obtain ⟨c1, c2⟩ := TmTy.cell ty
  have k2 := b2.new
  have z2 := (k2.2 _ (by omega)).trans z0
  have q2 := rowOf_rw z2
  unfold bnC
  repeat' (first | simp only [evr, nextP_norm, evd, evq, beq_self_eq_true, cond_true, cond_false, reduceIte, Nat.reduceEqDiff, Nat.reduceAdd, Int.reduceBNe, Int.reduceBEq, Int.reduceLT, Int.reduceLE, Int.reduceEq, evh, evp, Nat.reduceLeDiff, Nat.reduceSub, Nat.reduceBEq, typs, z2, q2, c1, c2] | refine kCond2_by (fun hc => ?_) (fun hc => ?_) <;> try simp only [hc] | refine kPick_by (fun hc => ?_) (fun hc => ?_) <;> try simp only [hc] | refine kWant_by (fun hc => ?_) (fun hc => ?_) <;> try simp only [hc])
  exact ⟨s2, rfl, SlTy.keepF ty (Nat.le_refl _) fun j hj => Hp.get_set_ne (by have := r.lt hj; omega), (k0.trans k2).set (Nat.le_refl _)⟩
end
end Go.Proofs.YtncmgiddcefpcaaGreatDoor
namespace Go.Proofs.YtncmgiddcefpcaaGreatDoor
open Go Go.Ev Go.Con
set_option linter.unusedSimpArgs false
set_option linter.unusedVariables false
set_option maxRecDepth 100000
def rlC (r : Rl) : List Value := [.int .i64 r.kind, .string r.path]
abbrev RlSl (h : Hp) (v : Value) (l : List Rl) : Prop := SlAt h 2 v ((l.map rlC).flatten)
theorem RlSl.len {h : Hp} {v : Value} {l : List Rl} (s : RlSl h v l) : evLen kon.P 81 v = some (.int .i64 l.length) := by
  have fl := flat_len rlC (n := 2) (fun _ => rfl) l
  rcases s with ⟨rfl, hl⟩ | ⟨b, o, k, c, all, rfl, h2, h3, h4, h5, h6⟩
  · rw [hl] at fl
    have : l = [] := List.length_eq_zero_iff.1 (by simp at fl; omega)
    subst this; exact evLen_slice (e := 83) (by kernel_rfl)
  · have : k = l.length := by omega
    subst this
    exact evLen_slice (e := 83) (by kernel_rfl)
theorem RlSl.at {h : Hp} {v : Value} {l : List Rl} (s : RlSl h v l) {i : Nat} {x : Rl} (hi : l[i]? = some x) : ∃ b o all, evIndexAddr kon.P 81 v (.int .i64 i) = some (.pointer (some ⟨b, o, none⟩)) ∧ b < h.next ∧ rowOf h b = some all ∧
    decide (o + 2 ≤ all.length) = true ∧ (all.drop o).take 2 = [.int .i64 x.kind, .string x.path] ∧ all[o]? = some (.int .i64 x.kind) ∧ all[o + 1]? = some (.string x.path) := by
  have fl := flat_len rlC (n := 2) (fun _ => rfl) l
  have hlt : i < l.length := (List.getElem?_eq_some_iff.1 hi).1
  rcases s with ⟨rfl, hl⟩ | ⟨b, o, k, c, all, rfl, h2, h3, h4, h5, h6⟩
  · rw [hl] at fl; simp at fl; omega
  · have hk : k = l.length := by omega
    subst hk
    have hz : o + l.length * 2 ≤ all.length := by
      have := congrArg List.length h6
      rw [List.length_take, List.length_drop, fl] at this; omega
    have hc : (all.drop (o + i * 2)).take 2 = [.int .i64 x.kind, .string x.path] := by
      have := flat_at rlC (n := 2) (fun _ => rfl) l hi
      rw [← h6, List.drop_take, List.take_take, List.drop_drop] at this
      rw [← show rlC x = [.int .i64 x.kind, .string x.path] from rfl, ← this]
      congr 1; omega
    have e : ∀ j, j < 2 → all[o + i * 2 + j]? = ([.int .i64 x.kind, .string x.path] : List Value)[j]? := fun j hj => by rw [← hc, List.getElem?_take, if_pos hj, List.getElem?_drop]
    refine ⟨b, o + i * 2, all, ?_, h3, h4, decide_eq_true (by omega), hc, e 0 (by decide), e 1 (by decide)⟩
    have := L_indexAddr (C := kon) (t := 81) (e := 83) (n := 2) (by kernel_rfl) (by kernel_rfl) b o l.length c .i64 i (by omega) (by omega)
    simpa using this
theorem one_spec (r : Rl) (h : Hp) : Meets kon 76 [.agg #[.int .i64 r.kind, .string r.path]] h fun v h' => v = .bool (ruleOne r) ∧ Keep h h' := by
  have ee : (ByteArray.mk #[]) = ByteArray.empty := rfl
  refine Meets.mk rfl (by kernel_rfl) Tryz.func76 rfl (congrArg Array.toList Tryz.results76) ?_
  simp only [evr, evd, evq, beq_self_eq_true, cond_true, cond_false, reduceIte, Nat.reduceEqDiff, Nat.reduceAdd, Int.reduceBNe, Int.reduceBEq, Int.reduceLT, Int.reduceLE, Int.reduceEq, evh, evp, Nat.reduceLeDiff, Nat.reduceSub, Nat.reduceBEq, typs]
  rw [nextP_norm]
  generalize hh : Hp.push _ _ = H
  have kH : Keep h H := by rw [← hh]; exact Keep.push _ _
  have q : rowOf H h.next = some [.int .i64 r.kind, .string r.path] := by rw [← hh]; exact rowOf_rw (Hp.get_push_self _ _)
  clear hh
  unfold ruleOne
  by_cases h1 : r.kind = 1
  · have f1 : (r.kind == 1) = true := by simp [h1]
    rw [if_pos (.inl h1)]
    repeat' (first | simp only [evr, nextP_norm, evd, evq, beq_self_eq_true, cond_true, cond_false, reduceIte, Nat.reduceEqDiff, Nat.reduceAdd, Int.reduceBNe, Int.reduceBEq, Int.reduceLT, Int.reduceLE, Int.reduceEq, evh, evp, Nat.reduceLeDiff, Nat.reduceSub, Nat.reduceBEq, typs, q, f1, ee] | refine kCond2_by (fun hc => ?_) (fun hc => ?_) <;> try simp only [hc] | refine kPick_by (fun hc => ?_) (fun hc => ?_) <;> try simp only [hc] | refine kWant_by (fun hc => ?_) (fun hc => ?_) <;> try simp only [hc])
    exact kH
  have f1 : (r.kind == 1) = false := by simp [h1]
  by_cases h2 : r.kind = 2
  · have f2 : (r.kind == 2) = true := by simp [h2]
    rw [if_pos (.inr h2)]
    repeat' (first | simp only [evr, nextP_norm, evd, evq, beq_self_eq_true, cond_true, cond_false, reduceIte, Nat.reduceEqDiff, Nat.reduceAdd, Int.reduceBNe, Int.reduceBEq, Int.reduceLT, Int.reduceLE, Int.reduceEq, evh, evp, Nat.reduceLeDiff, Nat.reduceSub, Nat.reduceBEq, typs, q, f1, f2, ee] | refine kCond2_by (fun hc => ?_) (fun hc => ?_) <;> try simp only [hc] | refine kPick_by (fun hc => ?_) (fun hc => ?_) <;> try simp only [hc] | refine kWant_by (fun hc => ?_) (fun hc => ?_) <;> try simp only [hc])
    exact kH
  have f2 : (r.kind == 2) = false := by simp [h2]
  rw [if_neg (by simp [h1, h2])]
  by_cases h3 : r.kind = 3
  · have f3 : (r.kind == 3) = true := by simp [h3]
    rw [if_pos h3]
    repeat' (first | simp only [evr, nextP_norm, evd, evq, beq_self_eq_true, cond_true, cond_false, reduceIte, Nat.reduceEqDiff, Nat.reduceAdd, Int.reduceBNe, Int.reduceBEq, Int.reduceLT, Int.reduceLE, Int.reduceEq, evh, evp, Nat.reduceLeDiff, Nat.reduceSub, Nat.reduceBEq, typs, q, f1, f2, f3] | refine kCond2_by (fun hc => ?_) (fun hc => ?_) <;> try simp only [hc] | refine kPick_by (fun hc => ?_) (fun hc => ?_) <;> try simp only [hc] | refine kWant_by (fun hc => ?_) (fun hc => ?_) <;> try simp only [hc])
    refine callP_meets (split_spec r.path H) ?_
    rintro u H2 ⟨k2, hu⟩
    cases hs : split r.path with
    | none =>
      rw [hs] at hu
      simp only at hu
      subst hu
      repeat' (first | simp only [evr, nextP_norm, evd, evq, beq_self_eq_true, cond_true, cond_false, reduceIte, Nat.reduceEqDiff, Nat.reduceAdd, Int.reduceBNe, Int.reduceBEq, Int.reduceLT, Int.reduceLE, Int.reduceEq, evh, evp, Nat.reduceLeDiff, Nat.reduceSub, Nat.reduceBEq, typs] | refine kCond2_by (fun hc => ?_) (fun hc => ?_) <;> try simp only [hc] | refine kPick_by (fun hc => ?_) (fun hc => ?_) <;> try simp only [hc] | refine kWant_by (fun hc => ?_) (fun hc => ?_) <;> try simp only [hc])
      exact ⟨rfl, kH.trans k2⟩
    | some l =>
      rw [hs] at hu
      simp only at hu
      obtain ⟨sl, rfl, g⟩ := hu
      repeat' (first | simp only [evr, nextP_norm, evd, evq, beq_self_eq_true, cond_true, cond_false, reduceIte, Nat.reduceEqDiff, Nat.reduceAdd, Int.reduceBNe, Int.reduceBEq, Int.reduceLT, Int.reduceLE, Int.reduceEq, evh, evp, Nat.reduceLeDiff, Nat.reduceSub, Nat.reduceBEq, typs] | refine kCond2_by (fun hc => ?_) (fun hc => ?_) <;> try simp only [hc] | refine kPick_by (fun hc => ?_) (fun hc => ?_) <;> try simp only [hc] | refine kWant_by (fun hc => ?_) (fun hc => ?_) <;> try simp only [hc])
      exact ⟨rfl, kH.trans k2⟩
  have f3 : (r.kind == 3) = false := by simp [h3]
  rw [if_neg h3]
  repeat' (first | simp only [evr, nextP_norm, evd, evq, beq_self_eq_true, cond_true, cond_false, reduceIte, Nat.reduceEqDiff, Nat.reduceAdd, Int.reduceBNe, Int.reduceBEq, Int.reduceLT, Int.reduceLE, Int.reduceEq, evh, evp, Nat.reduceLeDiff, Nat.reduceSub, Nat.reduceBEq, typs, q, f1, f2, f3] | refine kCond2_by (fun hc => ?_) (fun hc => ?_) <;> try simp only [hc] | refine kPick_by (fun hc => ?_) (fun hc => ?_) <;> try simp only [hc] | refine kWant_by (fun hc => ?_) (fun hc => ?_) <;> try simp only [hc])
  exact kH
set_option maxHeartbeats 1000000 in
theorem rulesMay_spec {h : Hp} {v : Value} {l : List Rl} (s : RlSl h v l) (hl : l.length ≤ 1000000000) : Meets kon 39 [v] h fun u h' => u = .bool (rulesMay l) ∧ Keep h h' := by
  have ll := RlSl.len s
  refine Meets.mk rfl (by kernel_rfl) Tryz.func39 rfl (congrArg Array.toList Tryz.results39) ?_
  repeat' (first | simp only [evr, nextP_norm, evd, evq, beq_self_eq_true, cond_true, cond_false, reduceIte, Nat.reduceEqDiff, Nat.reduceAdd, Int.reduceBNe, Int.reduceBEq, Int.reduceLT, Int.reduceLE, Int.reduceEq, evh, evp, Nat.reduceLeDiff, Nat.reduceSub, Nat.reduceBEq, typs, ll] | refine kCond2_by (fun hc => ?_) (fun hc => ?_) <;> try simp only [hc] | refine kPick_by (fun hc => ?_) (fun hc => ?_) <;> try simp only [hc] | refine kWant_by (fun hc => ?_) (fun hc => ?_) <;> try simp only [hc])
  refine Wp_loop (fun k fr H => ∃ j : Nat, k = l.length - j ∧ j ≤ l.length ∧ Keep h H ∧ fr.get 0 = some v ∧ fr.get 5 = some v ∧ fr.get 6 = some (.int .i64 l.length) ∧ fr.get 7 = some (.int .i64 j) ∧ ∀ r ∈ l.take j, ruleOne r = true) l.length ⟨0, rfl, Nat.zero_le _, Keep.refl _, ?_, ?_, ?_, ?_, by simp⟩ ?_
  · repeat' (first | simp only [evr, nextP_norm, evd, evq, beq_self_eq_true, cond_true, cond_false, reduceIte, Nat.reduceEqDiff, Nat.reduceAdd, Int.reduceBNe, Int.reduceBEq, Int.reduceLT, Int.reduceLE, Int.reduceEq, evh, evp, Nat.reduceLeDiff, Nat.reduceSub, Nat.reduceBEq, typs] | refine kCond2_by (fun hc => ?_) (fun hc => ?_) <;> try simp only [hc] | refine kPick_by (fun hc => ?_) (fun hc => ?_) <;> try simp only [hc] | refine kWant_by (fun hc => ?_) (fun hc => ?_) <;> try simp only [hc])
  · repeat' (first | simp only [evr, nextP_norm, evd, evq, beq_self_eq_true, cond_true, cond_false, reduceIte, Nat.reduceEqDiff, Nat.reduceAdd, Int.reduceBNe, Int.reduceBEq, Int.reduceLT, Int.reduceLE, Int.reduceEq, evh, evp, Nat.reduceLeDiff, Nat.reduceSub, Nat.reduceBEq, typs] | refine kCond2_by (fun hc => ?_) (fun hc => ?_) <;> try simp only [hc] | refine kPick_by (fun hc => ?_) (fun hc => ?_) <;> try simp only [hc] | refine kWant_by (fun hc => ?_) (fun hc => ?_) <;> try simp only [hc])
  · repeat' (first | simp only [evr, nextP_norm, evd, evq, beq_self_eq_true, cond_true, cond_false, reduceIte, Nat.reduceEqDiff, Nat.reduceAdd, Int.reduceBNe, Int.reduceBEq, Int.reduceLT, Int.reduceLE, Int.reduceEq, evh, evp, Nat.reduceLeDiff, Nat.reduceSub, Nat.reduceBEq, typs] | refine kCond2_by (fun hc => ?_) (fun hc => ?_) <;> try simp only [hc] | refine kPick_by (fun hc => ?_) (fun hc => ?_) <;> try simp only [hc] | refine kWant_by (fun hc => ?_) (fun hc => ?_) <;> try simp only [hc])
  · repeat' (first | simp only [evr, nextP_norm, evd, evq, beq_self_eq_true, cond_true, cond_false, reduceIte, Nat.reduceEqDiff, Nat.reduceAdd, Int.reduceBNe, Int.reduceBEq, Int.reduceLT, Int.reduceLE, Int.reduceEq, evh, evp, Nat.reduceLeDiff, Nat.reduceSub, Nat.reduceBEq, typs] | refine kCond2_by (fun hc => ?_) (fun hc => ?_) <;> try simp only [hc] | refine kPick_by (fun hc => ?_) (fun hc => ?_) <;> try simp only [hc] | refine kWant_by (fun hc => ?_) (fun hc => ?_) <;> try simp only [hc])
    rfl
  rintro k fr H ⟨j, rfl, hj, K, r0, r5, r6, r7, hp⟩
  by_cases h3 : j < l.length
  · have e3 : decide ((j : Int) < (l.length : Int)) = true := decide_eq_true (by omega)
    obtain ⟨b, o, all, pa, hb, hr, hz, hc, a0, a1⟩ := RlSl.at s (List.getElem?_eq_getElem h3)
    have hrH := (K.row hb).trans hr
    have wj : IntKind.i64.wrap ((j : Int) + 1) = ((j + 1 : Nat) : Int) := by rw [wrap64 (by omega) (by omega)]; omega
    repeat' (first | simp only [evr, nextP_norm, evd, evq, beq_self_eq_true, cond_true, cond_false, reduceIte, Nat.reduceEqDiff, Nat.reduceAdd, Int.reduceBNe, Int.reduceBEq, Int.reduceLT, Int.reduceLE, Int.reduceEq, evh, evp, Nat.reduceLeDiff, Nat.reduceSub, Nat.reduceBEq, typs, r0, r5, r6, r7, e3, pa] | refine kCond2_by (fun hc => ?_) (fun hc => ?_) <;> try simp only [hc] | refine kPick_by (fun hc => ?_) (fun hc => ?_) <;> try simp only [hc] | refine kWant_by (fun hc => ?_) (fun hc => ?_) <;> try simp only [hc])
    simp only [evr, evd, evq, beq_self_eq_true, cond_true, cond_false, reduceIte, Nat.reduceEqDiff, Nat.reduceAdd, Int.reduceBNe, Int.reduceBEq, Int.reduceLT, Int.reduceLE, Int.reduceEq, evh, evp, Nat.reduceLeDiff, Nat.reduceSub, Nat.reduceBEq, typs, hrH, hz, hc]
    rw [nextP_norm]
    generalize hh : Hp.set _ _ _ = H1
    have k1 : Keep H H1 := by rw [← hh]; exact (Keep.push _ _).set (Nat.le_refl _)
    have q1 : rowOf H1 H.next = some [.int .i64 l[j].kind, .string l[j].path] := by rw [← hh]; exact rowOf_rw (Hp.get_set_self _ _ _)
    clear hh
    repeat' (first | simp only [evr, nextP_norm, evd, evq, beq_self_eq_true, cond_true, cond_false, reduceIte, Nat.reduceEqDiff, Nat.reduceAdd, Int.reduceBNe, Int.reduceBEq, Int.reduceLT, Int.reduceLE, Int.reduceEq, evh, evp, Nat.reduceLeDiff, Nat.reduceSub, Nat.reduceBEq, typs, r0, r5, r6, r7, q1] | refine kCond2_by (fun hc => ?_) (fun hc => ?_) <;> try simp only [hc] | refine kPick_by (fun hc => ?_) (fun hc => ?_) <;> try simp only [hc] | refine kWant_by (fun hc => ?_) (fun hc => ?_) <;> try simp only [hc])
    refine callP_meets (one_spec l[j] H1) ?_
    rintro _ H2 ⟨rfl, k2⟩
    cases ho : ruleOne l[j] with
    | true =>
      repeat' (first | simp only [evr, nextP_norm, evd, evq, beq_self_eq_true, cond_true, cond_false, reduceIte, Nat.reduceEqDiff, Nat.reduceAdd, Int.reduceBNe, Int.reduceBEq, Int.reduceLT, Int.reduceLE, Int.reduceEq, evh, evp, Nat.reduceLeDiff, Nat.reduceSub, Nat.reduceBEq, typs, r0, r5, r6, r7, wj] | refine kCond2_by (fun hc => ?_) (fun hc => ?_) <;> try simp only [hc] | refine kPick_by (fun hc => ?_) (fun hc => ?_) <;> try simp only [hc] | refine kWant_by (fun hc => ?_) (fun hc => ?_) <;> try simp only [hc])
      refine ⟨l.length - (j + 1), by omega, j + 1, rfl, by omega, (K.trans k1).trans k2, rfl, fun r hr' => ?_⟩
      rw [List.take_add_one, List.getElem?_eq_getElem h3, List.mem_append] at hr'
      rcases hr' with hr' | hr'
      · exact hp r hr'
      · simp at hr'; rw [hr']; exact ho
    | false =>
      repeat' (first | simp only [evr, nextP_norm, evd, evq, beq_self_eq_true, cond_true, cond_false, reduceIte, Nat.reduceEqDiff, Nat.reduceAdd, Int.reduceBNe, Int.reduceBEq, Int.reduceLT, Int.reduceLE, Int.reduceEq, evh, evp, Nat.reduceLeDiff, Nat.reduceSub, Nat.reduceBEq, typs, r0, r5, r6, r7] | refine kCond2_by (fun hc => ?_) (fun hc => ?_) <;> try simp only [hc] | refine kPick_by (fun hc => ?_) (fun hc => ?_) <;> try simp only [hc] | refine kWant_by (fun hc => ?_) (fun hc => ?_) <;> try simp only [hc])
      refine ⟨?_, (K.trans k1).trans k2⟩
      have : rulesMay l = false := by
        unfold rulesMay
        rw [Bool.and_eq_false_iff]; left
        rw [List.all_eq_false]; exact ⟨_, List.getElem_mem h3, by simp [ho]⟩
      rw [this]
  · have e3 : decide ((j : Int) < (l.length : Int)) = false := decide_eq_false (by omega)
    have ha : l.all ruleOne = true := by rw [List.all_eq_true]; exact fun r hr => hp r (by rw [List.take_of_length_le (by omega)]; exact hr)
    have e8 : decide ((l.length : Int) ≤ 8) = decide (l.length ≤ 8) := by rw [decide_eq_decide]; omega
    repeat' (first | simp only [evr, nextP_norm, evd, evq, beq_self_eq_true, cond_true, cond_false, reduceIte, Nat.reduceEqDiff, Nat.reduceAdd, Int.reduceBNe, Int.reduceBEq, Int.reduceLT, Int.reduceLE, Int.reduceEq, evh, evp, Nat.reduceLeDiff, Nat.reduceSub, Nat.reduceBEq, typs, r0, r5, r6, r7, e3, ll, e8] | refine kCond2_by (fun hc => ?_) (fun hc => ?_) <;> try simp only [hc] | refine kPick_by (fun hc => ?_) (fun hc => ?_) <;> try simp only [hc] | refine kWant_by (fun hc => ?_) (fun hc => ?_) <;> try simp only [hc])
    exact ⟨by unfold rulesMay; rw [ha]; rfl, K⟩
section
variable {h : Hp} {F : Nat → Prop} {T : Hi} {bt : Nat}
set_option maxHeartbeats 1000000 in
theorem ruleDir_spec (t : TreeAt h F T bt) (r : Rl) (work : ByteArray) (fr0 : Int) : Meets kon 78 [.pointer (some ⟨bt, 0, none⟩), .agg #[.int .i64 r.kind, .string r.path], .string work, .int .i64 fr0] h fun u h' => (∃ d b, u = .tuple #[.int .i64 d, .bool b] ∧ ruleDir T work fr0 r = if b then some d else none) ∧ Keep h h' := by
  refine Meets.mk rfl (by kernel_rfl) Tryz.func78 rfl (congrArg Array.toList Tryz.results78) ?_
  simp only [evr, evd, evq, beq_self_eq_true, cond_true, cond_false, reduceIte, Nat.reduceEqDiff, Nat.reduceAdd, Int.reduceBNe, Int.reduceBEq, Int.reduceLT, Int.reduceLE, Int.reduceEq, evh, evp, Nat.reduceLeDiff, Nat.reduceSub, Nat.reduceBEq, typs]
  rw [nextP_norm]
  generalize hh : Hp.push _ _ = H
  have kH : Keep h H := by rw [← hh]; exact Keep.push _ _
  have q : rowOf H h.next = some [.int .i64 r.kind, .string r.path] := by rw [← hh]; exact rowOf_rw (Hp.get_push_self _ _)
  clear hh
  have tH := t.keeps kH
  have fin : ∀ {H' : Hp} (p : ByteArray), p = (if r.kind = 2 then work else r.path) → r.kind ≠ 1 → Keep H H' → (∃ d b, Value.tuple #[.int .i64 (dirK T p).1, .bool ((dirK T p).2 == 0)] = .tuple #[.int .i64 d, .bool b] ∧ ruleDir T work fr0 r = if b then some d else none) ∧ Keep h H' := fun {H'} p hp h1 k => by
    refine ⟨⟨_, _, rfl, ?_⟩, kH.trans k⟩
    unfold ruleDir
    rw [if_neg h1, ← hp]
    by_cases h0 : (dirK T p).2 = 0 <;> simp [h0]
  by_cases h1 : r.kind = 1
  · have f1 : (r.kind == 1) = true := by simp [h1]
    repeat' (first | simp only [evr, nextP_norm, evd, evq, beq_self_eq_true, cond_true, cond_false, reduceIte, Nat.reduceEqDiff, Nat.reduceAdd, Int.reduceBNe, Int.reduceBEq, Int.reduceLT, Int.reduceLE, Int.reduceEq, evh, evp, Nat.reduceLeDiff, Nat.reduceSub, Nat.reduceBEq, typs, q, f1] | refine kCond2_by (fun hc => ?_) (fun hc => ?_) <;> try simp only [hc] | refine kPick_by (fun hc => ?_) (fun hc => ?_) <;> try simp only [hc] | refine kWant_by (fun hc => ?_) (fun hc => ?_) <;> try simp only [hc])
    refine ⟨⟨_, _, rfl, ?_⟩, kH⟩
    unfold ruleDir
    rw [if_pos h1]
    by_cases h0 : 0 ≤ fr0 <;> simp [h0]
  have f1 : (r.kind == 1) = false := by simp [h1]
  by_cases h2 : r.kind = 2
  · have f2 : (r.kind == 2) = true := by simp [h2]
    repeat' (first | simp only [evr, nextP_norm, evd, evq, beq_self_eq_true, cond_true, cond_false, reduceIte, Nat.reduceEqDiff, Nat.reduceAdd, Int.reduceBNe, Int.reduceBEq, Int.reduceLT, Int.reduceLE, Int.reduceEq, evh, evp, Nat.reduceLeDiff, Nat.reduceSub, Nat.reduceBEq, typs, q, f1, f2] | refine kCond2_by (fun hc => ?_) (fun hc => ?_) <;> try simp only [hc] | refine kPick_by (fun hc => ?_) (fun hc => ?_) <;> try simp only [hc] | refine kWant_by (fun hc => ?_) (fun hc => ?_) <;> try simp only [hc])
    refine callP_meets (wDir_spec tH work) ?_
    rintro _ H2 ⟨rfl, k2⟩
    repeat' (first | simp only [evr, nextP_norm, evd, evq, beq_self_eq_true, cond_true, cond_false, reduceIte, Nat.reduceEqDiff, Nat.reduceAdd, Int.reduceBNe, Int.reduceBEq, Int.reduceLT, Int.reduceLE, Int.reduceEq, evh, evp, Nat.reduceLeDiff, Nat.reduceSub, Nat.reduceBEq, typs] | refine kCond2_by (fun hc => ?_) (fun hc => ?_) <;> try simp only [hc] | refine kPick_by (fun hc => ?_) (fun hc => ?_) <;> try simp only [hc] | refine kWant_by (fun hc => ?_) (fun hc => ?_) <;> try simp only [hc])
    exact fin work (by rw [if_pos h2]) h1 k2
  have f2 : (r.kind == 2) = false := by simp [h2]
  repeat' (first | simp only [evr, nextP_norm, evd, evq, beq_self_eq_true, cond_true, cond_false, reduceIte, Nat.reduceEqDiff, Nat.reduceAdd, Int.reduceBNe, Int.reduceBEq, Int.reduceLT, Int.reduceLE, Int.reduceEq, evh, evp, Nat.reduceLeDiff, Nat.reduceSub, Nat.reduceBEq, typs, q, f1, f2] | refine kCond2_by (fun hc => ?_) (fun hc => ?_) <;> try simp only [hc] | refine kPick_by (fun hc => ?_) (fun hc => ?_) <;> try simp only [hc] | refine kWant_by (fun hc => ?_) (fun hc => ?_) <;> try simp only [hc])
  refine callP_meets (wDir_spec tH r.path) ?_
  rintro _ H2 ⟨rfl, k2⟩
  repeat' (first | simp only [evr, nextP_norm, evd, evq, beq_self_eq_true, cond_true, cond_false, reduceIte, Nat.reduceEqDiff, Nat.reduceAdd, Int.reduceBNe, Int.reduceBEq, Int.reduceLT, Int.reduceLE, Int.reduceEq, evh, evp, Nat.reduceLeDiff, Nat.reduceSub, Nat.reduceBEq, typs] | refine kCond2_by (fun hc => ?_) (fun hc => ?_) <;> try simp only [hc] | refine kPick_by (fun hc => ?_) (fun hc => ?_) <;> try simp only [hc] | refine kWant_by (fun hc => ?_) (fun hc => ?_) <;> try simp only [hc])
  exact fin r.path (by rw [if_neg h2]) h1 k2
end
end Go.Proofs.YtncmgiddcefpcaaGreatDoor
namespace Go.Proofs.YtncmgiddcefpcaaGreatDoor
open Go Go.Ev Go.Con
set_option linter.unusedSimpArgs false
set_option linter.unusedVariables false
set_option maxRecDepth 100000
theorem ruleHit_no {T : Hi} {work : ByteArray} {fr0 : Int} {name : ByteArray} {r : Rl} (h : ruleDir T work fr0 r = none) : ruleHit T work fr0 name r = none := by unfold ruleHit; rw [h]
theorem ruleHit_in {T : Hi} {work : ByteArray} {fr0 : Int} {name : ByteArray} {r : Rl} {d : Int} (h : ruleDir T work fr0 r = some d) : ruleHit T work fr0 name r = if (walkK T 8 d [name]).1.2 = 0 ∧ (walkK T 8 d [name]).1.1.kind = 1 then some (walkK T 8 d [name]).1.1 else none := by unfold ruleHit; rw [h]
section
variable {h : Hp} {F : Nat → Prop} {T : Hi} {bt : Nat}
set_option maxHeartbeats 2000000 in
theorem rulesFind_spec (t : TreeAt h F T bt) {v : Value} {l : List Rl} (s : RlSl h v l) (hl : l.length ≤ 1000000000) (work : ByteArray) (fr0 : Int) (name : ByteArray) : Meets kon 41 [.pointer (some ⟨bt, 0, none⟩), v, .string work, .int .i64 fr0, .string name] h (FinP h (rulesFind T l work fr0 name)) := by
  have ep : (some (⟨bt, 0, none⟩ : Addr) == none) = false := rfl
  have ll := RlSl.len s
  refine Meets.mk rfl (by kernel_rfl) Tryz.func41 rfl (congrArg Array.toList Tryz.results41) ?_
  simp only [evr, evd, evq, beq_self_eq_true, cond_true, cond_false, reduceIte, Nat.reduceEqDiff, Nat.reduceAdd, Int.reduceBNe, Int.reduceBEq, Int.reduceLT, Int.reduceLE, Int.reduceEq, evh, evp, Nat.reduceLeDiff, Nat.reduceSub, Nat.reduceBEq, typs]
  rw [nextP_norm]
  generalize hh : Hp.push _ _ = H0
  have k0 : Keep h H0 := by rw [← hh]; exact Keep.push _ _
  have n0 : H0.next = h.next + 1 := by rw [← hh]; rfl
  have z0 : H0.get h.next = some (.row [.int .i64 0, .int .i64 0, .int .i64 0, .string ByteArray.empty, .bool false, .slice none 0 0, .int .i64 0, .int .i64 0, .int .i64 0, .int .i64 0] 40 (.rw 0 [])) := by rw [← hh]; exact Hp.get_push_self _ _
  clear hh
  have t0 := t.keeps k0
  have bn : ∀ {H' : Hp} {o : Ob}, Keep H0 H' → Keep h (H'.set h.next o) := fun {H' o} kk => (k0.trans kk).set (Nat.le_refl _)
  have er : ∀ {H' : Hp} {o : Ob} {e : Int}, rulesFind T l work fr0 name = (noBn, e) → Keep H0 H' → FinP h (rulesFind T l work fr0 name) (.tuple #[.agg #[.int .i64 0, .int .i64 0, .int .i64 0, .string ByteArray.empty, .bool false, .slice none 0 0, .int .i64 0, .int .i64 0, .int .i64 0, .int .i64 0], .int .i64 e]) (H'.set h.next o) := fun {H' o e} hr kk => by
    rw [hr]; exact ⟨.slice none 0 0, rfl, .inl ⟨rfl, rfl⟩, bn kk⟩
  repeat' (first | simp only [evr, nextP_norm, evd, evq, beq_self_eq_true, cond_true, cond_false, reduceIte, Nat.reduceEqDiff, Nat.reduceAdd, Int.reduceBNe, Int.reduceBEq, Int.reduceLT, Int.reduceLE, Int.reduceEq, evh, evp, Nat.reduceLeDiff, Nat.reduceSub, Nat.reduceBEq, typs, ep] | refine kCond2_by (fun hc => ?_) (fun hc => ?_) <;> try simp only [hc] | refine kPick_by (fun hc => ?_) (fun hc => ?_) <;> try simp only [hc] | refine kWant_by (fun hc => ?_) (fun hc => ?_) <;> try simp only [hc])
  refine callP_meets (rulesMay_spec (SlAt.keep s k0) hl) ?_
  rintro _ H1 ⟨rfl, k1⟩
  have z1 := (k1.2 _ (by omega)).trans z0
  have q1 := rowOf_rw z1
  have n1 := k1.1
  cases hm : rulesMay l with
  | false =>
    repeat' (first | simp only [evr, nextP_norm, evd, evq, beq_self_eq_true, cond_true, cond_false, reduceIte, Nat.reduceEqDiff, Nat.reduceAdd, Int.reduceBNe, Int.reduceBEq, Int.reduceLT, Int.reduceLE, Int.reduceEq, evh, evp, Nat.reduceLeDiff, Nat.reduceSub, Nat.reduceBEq, typs, zero_build, z1, q1] | refine kCond2_by (fun hc => ?_) (fun hc => ?_) <;> try simp only [hc] | refine kPick_by (fun hc => ?_) (fun hc => ?_) <;> try simp only [hc] | refine kWant_by (fun hc => ?_) (fun hc => ?_) <;> try simp only [hc])
    exact er (by unfold rulesFind; rw [if_pos hm]) k1
  | true =>
    have l8 : l.length ≤ 8 := by unfold rulesMay at hm; rw [Bool.and_eq_true] at hm; exact of_decide_eq_true hm.2
    have my := (may_spec name H1).call
    cases hn : mayN name with
    | false =>
      rw [hn] at my
      repeat' (first | simp only [evr, nextP_norm, evd, evq, beq_self_eq_true, cond_true, cond_false, reduceIte, Nat.reduceEqDiff, Nat.reduceAdd, Int.reduceBNe, Int.reduceBEq, Int.reduceLT, Int.reduceLE, Int.reduceEq, evh, evp, Nat.reduceLeDiff, Nat.reduceSub, Nat.reduceBEq, typs, my, zero_build, z1, q1] | refine kCond2_by (fun hc => ?_) (fun hc => ?_) <;> try simp only [hc] | refine kPick_by (fun hc => ?_) (fun hc => ?_) <;> try simp only [hc] | refine kWant_by (fun hc => ?_) (fun hc => ?_) <;> try simp only [hc])
      exact er (by unfold rulesFind; rw [if_neg (by simp [hm]), if_pos hn]) k1
    | true =>
      rw [hn] at my
      repeat' (first | simp only [evr, nextP_norm, evd, evq, beq_self_eq_true, cond_true, cond_false, reduceIte, Nat.reduceEqDiff, Nat.reduceAdd, Int.reduceBNe, Int.reduceBEq, Int.reduceLT, Int.reduceLE, Int.reduceEq, evh, evp, Nat.reduceLeDiff, Nat.reduceSub, Nat.reduceBEq, typs, my, ll] | refine kCond2_by (fun hc => ?_) (fun hc => ?_) <;> try simp only [hc] | refine kPick_by (fun hc => ?_) (fun hc => ?_) <;> try simp only [hc] | refine kWant_by (fun hc => ?_) (fun hc => ?_) <;> try simp only [hc])
      refine Wp_loop (fun k fr H => ∃ j : Nat, k = l.length - j ∧ j ≤ l.length ∧ Keep H0 H ∧ fr.get 0 = some (.pointer (some ⟨bt, 0, none⟩)) ∧ fr.get 2 = some (.string work) ∧ fr.get 3 = some (.int .i64 fr0) ∧ fr.get 4 = some (.string name) ∧ fr.get 10 = some (.pointer (some ⟨h.next, 0, none⟩)) ∧ fr.get 32 = some v ∧ fr.get 33 = some (.int .i64 l.length) ∧ fr.get 34 = some (.int .i64 j) ∧ ∀ r ∈ l.take j, ruleHit T work fr0 name r = none) l.length ⟨0, rfl, Nat.zero_le _, k1, ?_, ?_, ?_, ?_, ?_, ?_, ?_, ?_, by simp⟩ ?_
      · repeat' (first | simp only [evr, nextP_norm, evd, evq, beq_self_eq_true, cond_true, cond_false, reduceIte, Nat.reduceEqDiff, Nat.reduceAdd, Int.reduceBNe, Int.reduceBEq, Int.reduceLT, Int.reduceLE, Int.reduceEq, evh, evp, Nat.reduceLeDiff, Nat.reduceSub, Nat.reduceBEq, typs] | refine kCond2_by (fun hc => ?_) (fun hc => ?_) <;> try simp only [hc] | refine kPick_by (fun hc => ?_) (fun hc => ?_) <;> try simp only [hc] | refine kWant_by (fun hc => ?_) (fun hc => ?_) <;> try simp only [hc])
      · repeat' (first | simp only [evr, nextP_norm, evd, evq, beq_self_eq_true, cond_true, cond_false, reduceIte, Nat.reduceEqDiff, Nat.reduceAdd, Int.reduceBNe, Int.reduceBEq, Int.reduceLT, Int.reduceLE, Int.reduceEq, evh, evp, Nat.reduceLeDiff, Nat.reduceSub, Nat.reduceBEq, typs] | refine kCond2_by (fun hc => ?_) (fun hc => ?_) <;> try simp only [hc] | refine kPick_by (fun hc => ?_) (fun hc => ?_) <;> try simp only [hc] | refine kWant_by (fun hc => ?_) (fun hc => ?_) <;> try simp only [hc])
      · repeat' (first | simp only [evr, nextP_norm, evd, evq, beq_self_eq_true, cond_true, cond_false, reduceIte, Nat.reduceEqDiff, Nat.reduceAdd, Int.reduceBNe, Int.reduceBEq, Int.reduceLT, Int.reduceLE, Int.reduceEq, evh, evp, Nat.reduceLeDiff, Nat.reduceSub, Nat.reduceBEq, typs] | refine kCond2_by (fun hc => ?_) (fun hc => ?_) <;> try simp only [hc] | refine kPick_by (fun hc => ?_) (fun hc => ?_) <;> try simp only [hc] | refine kWant_by (fun hc => ?_) (fun hc => ?_) <;> try simp only [hc])
      · repeat' (first | simp only [evr, nextP_norm, evd, evq, beq_self_eq_true, cond_true, cond_false, reduceIte, Nat.reduceEqDiff, Nat.reduceAdd, Int.reduceBNe, Int.reduceBEq, Int.reduceLT, Int.reduceLE, Int.reduceEq, evh, evp, Nat.reduceLeDiff, Nat.reduceSub, Nat.reduceBEq, typs] | refine kCond2_by (fun hc => ?_) (fun hc => ?_) <;> try simp only [hc] | refine kPick_by (fun hc => ?_) (fun hc => ?_) <;> try simp only [hc] | refine kWant_by (fun hc => ?_) (fun hc => ?_) <;> try simp only [hc])
      · repeat' (first | simp only [evr, nextP_norm, evd, evq, beq_self_eq_true, cond_true, cond_false, reduceIte, Nat.reduceEqDiff, Nat.reduceAdd, Int.reduceBNe, Int.reduceBEq, Int.reduceLT, Int.reduceLE, Int.reduceEq, evh, evp, Nat.reduceLeDiff, Nat.reduceSub, Nat.reduceBEq, typs] | refine kCond2_by (fun hc => ?_) (fun hc => ?_) <;> try simp only [hc] | refine kPick_by (fun hc => ?_) (fun hc => ?_) <;> try simp only [hc] | refine kWant_by (fun hc => ?_) (fun hc => ?_) <;> try simp only [hc])
      · repeat' (first | simp only [evr, nextP_norm, evd, evq, beq_self_eq_true, cond_true, cond_false, reduceIte, Nat.reduceEqDiff, Nat.reduceAdd, Int.reduceBNe, Int.reduceBEq, Int.reduceLT, Int.reduceLE, Int.reduceEq, evh, evp, Nat.reduceLeDiff, Nat.reduceSub, Nat.reduceBEq, typs] | refine kCond2_by (fun hc => ?_) (fun hc => ?_) <;> try simp only [hc] | refine kPick_by (fun hc => ?_) (fun hc => ?_) <;> try simp only [hc] | refine kWant_by (fun hc => ?_) (fun hc => ?_) <;> try simp only [hc])
      · repeat' (first | simp only [evr, nextP_norm, evd, evq, beq_self_eq_true, cond_true, cond_false, reduceIte, Nat.reduceEqDiff, Nat.reduceAdd, Int.reduceBNe, Int.reduceBEq, Int.reduceLT, Int.reduceLE, Int.reduceEq, evh, evp, Nat.reduceLeDiff, Nat.reduceSub, Nat.reduceBEq, typs] | refine kCond2_by (fun hc => ?_) (fun hc => ?_) <;> try simp only [hc] | refine kPick_by (fun hc => ?_) (fun hc => ?_) <;> try simp only [hc] | refine kWant_by (fun hc => ?_) (fun hc => ?_) <;> try simp only [hc])
      · repeat' (first | simp only [evr, nextP_norm, evd, evq, beq_self_eq_true, cond_true, cond_false, reduceIte, Nat.reduceEqDiff, Nat.reduceAdd, Int.reduceBNe, Int.reduceBEq, Int.reduceLT, Int.reduceLE, Int.reduceEq, evh, evp, Nat.reduceLeDiff, Nat.reduceSub, Nat.reduceBEq, typs] | refine kCond2_by (fun hc => ?_) (fun hc => ?_) <;> try simp only [hc] | refine kPick_by (fun hc => ?_) (fun hc => ?_) <;> try simp only [hc] | refine kWant_by (fun hc => ?_) (fun hc => ?_) <;> try simp only [hc])
        rfl
      rintro k fr H ⟨j, rfl, hj, K, r0, r2, r3, r4, r10, r32, r33, r34, hp⟩
      have nH := K.1
      have zH := (K.2 _ (by omega)).trans z0
      have qH := rowOf_rw zH
      have tH := t0.keeps K
      by_cases h3 : j < l.length
      · have e3 : decide ((j : Int) < (l.length : Int)) = true := decide_eq_true (by omega)
        obtain ⟨b, o, all, pa, hb, hr, hz, hc, a0, a1⟩ := RlSl.at s (List.getElem?_eq_getElem h3)
        have hrH := ((k0.trans K).row hb).trans hr
        have wj : IntKind.i64.wrap ((j : Int) + 1) = ((j + 1 : Nat) : Int) := by rw [wrap64 (by omega) (by omega)]; omega
        have next : ruleHit T work fr0 name l[j] = none → ∀ r ∈ l.take (j + 1), ruleHit T work fr0 name r = none := fun ho r hr' => by
          rw [List.take_add_one, List.getElem?_eq_getElem h3, List.mem_append] at hr'
          rcases hr' with hr' | hr'
          · exact hp r hr'
          · simp at hr'; rw [hr']; exact ho
        have hitj : ∀ {b : Bn}, ruleHit T work fr0 name l[j] = some b → rulesFind T l work fr0 name = (b, 0) := fun {b} hb' => rulesFind_hit hm hn h3 hp hb'
        repeat' (first | simp only [evr, nextP_norm, evd, evq, beq_self_eq_true, cond_true, cond_false, reduceIte, Nat.reduceEqDiff, Nat.reduceAdd, Int.reduceBNe, Int.reduceBEq, Int.reduceLT, Int.reduceLE, Int.reduceEq, evh, evp, Nat.reduceLeDiff, Nat.reduceSub, Nat.reduceBEq, typs, r0, r2, r3, r4, r10, r32, r33, r34, e3, pa] | refine kCond2_by (fun hc => ?_) (fun hc => ?_) <;> try simp only [hc] | refine kPick_by (fun hc => ?_) (fun hc => ?_) <;> try simp only [hc] | refine kWant_by (fun hc => ?_) (fun hc => ?_) <;> try simp only [hc])
        simp only [evr, evd, evq, beq_self_eq_true, cond_true, cond_false, reduceIte, Nat.reduceEqDiff, Nat.reduceAdd, Int.reduceBNe, Int.reduceBEq, Int.reduceLT, Int.reduceLE, Int.reduceEq, evh, evp, Nat.reduceLeDiff, Nat.reduceSub, Nat.reduceBEq, typs, hrH, hz, hc]
        rw [nextP_norm]
        generalize hh : Hp.set _ _ _ = H2
        have k2 : Keep H H2 := by rw [← hh]; exact (Keep.push _ _).set (Nat.le_refl _)
        have q2 : rowOf H2 H.next = some [.int .i64 l[j].kind, .string l[j].path] := by rw [← hh]; exact rowOf_rw (Hp.get_set_self _ _ _)
        clear hh
        generalize l[j] = rl at *
        repeat' (first | simp only [evr, nextP_norm, evd, evq, beq_self_eq_true, cond_true, cond_false, reduceIte, Nat.reduceEqDiff, Nat.reduceAdd, Int.reduceBNe, Int.reduceBEq, Int.reduceLT, Int.reduceLE, Int.reduceEq, evh, evp, Nat.reduceLeDiff, Nat.reduceSub, Nat.reduceBEq, typs, r0, r2, r3, r4, r10, r32, r33, r34, q2] | refine kCond2_by (fun hc => ?_) (fun hc => ?_) <;> try simp only [hc] | refine kPick_by (fun hc => ?_) (fun hc => ?_) <;> try simp only [hc] | refine kWant_by (fun hc => ?_) (fun hc => ?_) <;> try simp only [hc])
        refine callP_meets (ruleDir_spec (tH.keeps k2) rl work fr0) ?_
        rintro _ H3 ⟨⟨d, bb, rfl, hd⟩, k3⟩
        cases bb with
        | false =>
          have hd : ruleDir T work fr0 rl = none := by simpa using hd
          repeat' (first | simp only [evr, nextP_norm, evd, evq, beq_self_eq_true, cond_true, cond_false, reduceIte, Nat.reduceEqDiff, Nat.reduceAdd, Int.reduceBNe, Int.reduceBEq, Int.reduceLT, Int.reduceLE, Int.reduceEq, evh, evp, Nat.reduceLeDiff, Nat.reduceSub, Nat.reduceBEq, typs, r0, r2, r3, r4, r10, r32, r33, r34, wj] | refine kCond2_by (fun hc => ?_) (fun hc => ?_) <;> try simp only [hc] | refine kPick_by (fun hc => ?_) (fun hc => ?_) <;> try simp only [hc] | refine kWant_by (fun hc => ?_) (fun hc => ?_) <;> try simp only [hc])
          exact ⟨l.length - (j + 1), by omega, j + 1, rfl, by omega, (K.trans k2).trans k3, rfl, next (ruleHit_no hd)⟩
        | true =>
          have hd : ruleDir T work fr0 rl = some d := by simpa using hd
          have hh := ruleHit_in (name := name) hd
          repeat' (first | simp only [evr, nextP_norm, evd, evq, beq_self_eq_true, cond_true, cond_false, reduceIte, Nat.reduceEqDiff, Nat.reduceAdd, Int.reduceBNe, Int.reduceBEq, Int.reduceLT, Int.reduceLE, Int.reduceEq, evh, evp, Nat.reduceLeDiff, Nat.reduceSub, Nat.reduceBEq, typs, r0, r2, r3, r4, r10, r32, r33, r34] | refine kCond2_by (fun hc => ?_) (fun hc => ?_) <;> try simp only [hc] | refine kPick_by (fun hc => ?_) (fun hc => ?_) <;> try simp only [hc] | refine kWant_by (fun hc => ?_) (fun hc => ?_) <;> try simp only [hc])
          refine callP_meets (wIn_spec ((tH.keeps k2).keeps k3) d name) ?_
          rintro _ H4 ⟨s4, rfl, ty4, k4⟩
          obtain ⟨c1, c2⟩ := TmTy.cell ty4
          generalize (walkK T 8 d [name]).1 = R at *
          unfold bnC
          simp only [evr, evd, evq, beq_self_eq_true, cond_true, cond_false, reduceIte, Nat.reduceEqDiff, Nat.reduceAdd, Int.reduceBNe, Int.reduceBEq, Int.reduceLT, Int.reduceLE, Int.reduceEq, evh, evp, Nat.reduceLeDiff, Nat.reduceSub, Nat.reduceBEq, typs, r0, r2, r3, r4, r10, r32, r33, r34, c1, c2]
          rw [nextP_norm]
          generalize hh5 : Hp.set _ _ _ = H5
          have k5 : Keep H4 H5 := by rw [← hh5]; exact (Keep.push _ _).set (Nat.le_refl _)
          have q5 : rowOf H5 H4.next = some (bnC R.1 s4) := by rw [← hh5]; exact rowOf_rw (Hp.get_set_self _ _ _)
          clear hh5
          unfold bnC at q5
          have K5 := (((K.trans k2).trans k3).trans k4).trans k5
          have n2 := k2.1
          have n3 := k3.1
          by_cases h1 : R.2 = 0
          · have f1 : (R.2 == 0) = true := by simp [h1]
            by_cases h2 : R.1.kind = 1
            · have f2 : (R.1.kind == 1) = true := by simp [h2]
              rw [if_pos ⟨h1, h2⟩] at hh
              have z5 := (K5.2 _ (by omega)).trans z0
              have qz5 := rowOf_rw z5
              repeat' (first | simp only [evr, nextP_norm, evd, evq, beq_self_eq_true, cond_true, cond_false, reduceIte, Nat.reduceEqDiff, Nat.reduceAdd, Int.reduceBNe, Int.reduceBEq, Int.reduceLT, Int.reduceLE, Int.reduceEq, evh, evp, Nat.reduceLeDiff, Nat.reduceSub, Nat.reduceBEq, typs, r0, r2, r3, r4, r10, r32, r33, r34, q5, f1, f2, z5, qz5, c1, c2] | refine kCond2_by (fun hc => ?_) (fun hc => ?_) <;> try simp only [hc] | refine kPick_by (fun hc => ?_) (fun hc => ?_) <;> try simp only [hc] | refine kWant_by (fun hc => ?_) (fun hc => ?_) <;> try simp only [hc])
              rw [hitj hh]
              exact ⟨s4, rfl, SlTy.more (SlTy.keepF (SlTy.keepF (SlTy.within ty4) k5.1 fun i hi => k5.2 i hi.2) (Nat.le_refl _) fun i hi => Hp.get_set_ne (by have := hi.1; omega)) fun i hi => by have := hi.1; omega, bn K5⟩
            · have f2 : (R.1.kind == 1) = false := by simp [h2]
              rw [if_neg (by simp [h2])] at hh
              repeat' (first | simp only [evr, nextP_norm, evd, evq, beq_self_eq_true, cond_true, cond_false, reduceIte, Nat.reduceEqDiff, Nat.reduceAdd, Int.reduceBNe, Int.reduceBEq, Int.reduceLT, Int.reduceLE, Int.reduceEq, evh, evp, Nat.reduceLeDiff, Nat.reduceSub, Nat.reduceBEq, typs, r0, r2, r3, r4, r10, r32, r33, r34, q5, f1, f2, wj] | refine kCond2_by (fun hc => ?_) (fun hc => ?_) <;> try simp only [hc] | refine kPick_by (fun hc => ?_) (fun hc => ?_) <;> try simp only [hc] | refine kWant_by (fun hc => ?_) (fun hc => ?_) <;> try simp only [hc])
              exact ⟨l.length - (j + 1), by omega, j + 1, rfl, by omega, K5, rfl, next hh⟩
          · have f1 : (R.2 == 0) = false := by simp [h1]
            rw [if_neg (by simp [h1])] at hh
            repeat' (first | simp only [evr, nextP_norm, evd, evq, beq_self_eq_true, cond_true, cond_false, reduceIte, Nat.reduceEqDiff, Nat.reduceAdd, Int.reduceBNe, Int.reduceBEq, Int.reduceLT, Int.reduceLE, Int.reduceEq, evh, evp, Nat.reduceLeDiff, Nat.reduceSub, Nat.reduceBEq, typs, r0, r2, r3, r4, r10, r32, r33, r34, q5, f1, wj] | refine kCond2_by (fun hc => ?_) (fun hc => ?_) <;> try simp only [hc] | refine kPick_by (fun hc => ?_) (fun hc => ?_) <;> try simp only [hc] | refine kWant_by (fun hc => ?_) (fun hc => ?_) <;> try simp only [hc])
            exact ⟨l.length - (j + 1), by omega, j + 1, rfl, by omega, K5, rfl, next hh⟩
      · have e3 : decide ((j : Int) < (l.length : Int)) = false := decide_eq_false (by omega)
        repeat' (first | simp only [evr, nextP_norm, evd, evq, beq_self_eq_true, cond_true, cond_false, reduceIte, Nat.reduceEqDiff, Nat.reduceAdd, Int.reduceBNe, Int.reduceBEq, Int.reduceLT, Int.reduceLE, Int.reduceEq, evh, evp, Nat.reduceLeDiff, Nat.reduceSub, Nat.reduceBEq, typs, r0, r2, r3, r4, r10, r32, r33, r34, e3, zero_build, zH, qH] | refine kCond2_by (fun hc => ?_) (fun hc => ?_) <;> try simp only [hc] | refine kPick_by (fun hc => ?_) (fun hc => ?_) <;> try simp only [hc] | refine kWant_by (fun hc => ?_) (fun hc => ?_) <;> try simp only [hc])
        rw [List.take_of_length_le (by omega)] at hp
        exact er (rulesFind_none hm hn hp) K
end
set_option maxHeartbeats 2000000 in
theorem refRulesMay_spec {h : Hp} {v : Value} {l : List Rl} (s : RlSl h v l) (hl : l.length ≤ 1000000000) : Meets kon 40 [v] h fun u h' => u = .bool (rulesMay l) ∧ Keep h h' := by
  have ll := RlSl.len s
  have ee : (ByteArray.mk #[]) = ByteArray.empty := rfl
  refine Meets.mk rfl (by kernel_rfl) Tryz.func40 rfl (congrArg Array.toList Tryz.results40) ?_
  by_cases h8 : 8 < l.length
  · have f8 : decide ((8 : Int) < (l.length : Int)) = true := decide_eq_true (by omega)
    repeat' (first | simp only [evr, nextP_norm, evd, evq, beq_self_eq_true, cond_true, cond_false, reduceIte, Nat.reduceEqDiff, Nat.reduceAdd, Int.reduceBNe, Int.reduceBEq, Int.reduceLT, Int.reduceLE, Int.reduceEq, evh, evp, Nat.reduceLeDiff, Nat.reduceSub, Nat.reduceBEq, typs, ll, f8] | refine kCond2_by (fun hc => ?_) (fun hc => ?_) <;> try simp only [hc] | refine kPick_by (fun hc => ?_) (fun hc => ?_) <;> try simp only [hc] | refine kWant_by (fun hc => ?_) (fun hc => ?_) <;> try simp only [hc])
    exact ⟨by rw [show rulesMay l = false from by unfold rulesMay; rw [Bool.and_eq_false_iff]; right; simp; omega], Keep.refl _⟩
  have f8 : decide ((8 : Int) < (l.length : Int)) = false := decide_eq_false (by omega)
  repeat' (first | simp only [evr, nextP_norm, evd, evq, beq_self_eq_true, cond_true, cond_false, reduceIte, Nat.reduceEqDiff, Nat.reduceAdd, Int.reduceBNe, Int.reduceBEq, Int.reduceLT, Int.reduceLE, Int.reduceEq, evh, evp, Nat.reduceLeDiff, Nat.reduceSub, Nat.reduceBEq, typs, ll, f8] | refine kCond2_by (fun hc => ?_) (fun hc => ?_) <;> try simp only [hc] | refine kPick_by (fun hc => ?_) (fun hc => ?_) <;> try simp only [hc] | refine kWant_by (fun hc => ?_) (fun hc => ?_) <;> try simp only [hc])
  refine Wp_loop (fun k fr H => ∃ j : Nat, k = l.length - j ∧ j ≤ l.length ∧ Keep h H ∧ fr.get 0 = some v ∧ fr.get 3 = some (.int .i64 j) ∧ ∀ r ∈ l.take j, ruleOne r = true) l.length ⟨0, rfl, Nat.zero_le _, Keep.refl _, ?_, ?_, by simp⟩ ?_
  · repeat' (first | simp only [evr, nextP_norm, evd, evq, beq_self_eq_true, cond_true, cond_false, reduceIte, Nat.reduceEqDiff, Nat.reduceAdd, Int.reduceBNe, Int.reduceBEq, Int.reduceLT, Int.reduceLE, Int.reduceEq, evh, evp, Nat.reduceLeDiff, Nat.reduceSub, Nat.reduceBEq, typs] | refine kCond2_by (fun hc => ?_) (fun hc => ?_) <;> try simp only [hc] | refine kPick_by (fun hc => ?_) (fun hc => ?_) <;> try simp only [hc] | refine kWant_by (fun hc => ?_) (fun hc => ?_) <;> try simp only [hc])
  · repeat' (first | simp only [evr, nextP_norm, evd, evq, beq_self_eq_true, cond_true, cond_false, reduceIte, Nat.reduceEqDiff, Nat.reduceAdd, Int.reduceBNe, Int.reduceBEq, Int.reduceLT, Int.reduceLE, Int.reduceEq, evh, evp, Nat.reduceLeDiff, Nat.reduceSub, Nat.reduceBEq, typs] | refine kCond2_by (fun hc => ?_) (fun hc => ?_) <;> try simp only [hc] | refine kPick_by (fun hc => ?_) (fun hc => ?_) <;> try simp only [hc] | refine kWant_by (fun hc => ?_) (fun hc => ?_) <;> try simp only [hc])
    rfl
  rintro k fr H ⟨j, rfl, hj, K, r0, r3, hp⟩
  by_cases h3 : j < l.length
  · have e3 : decide ((j : Int) < (l.length : Int)) = true := decide_eq_true (by omega)
    obtain ⟨b, o, all, pa, hb, hr, hz, hc, a0, a1⟩ := RlSl.at s (List.getElem?_eq_getElem h3)
    have hrH := (K.row hb).trans hr
    have wj : IntKind.i64.wrap ((j : Int) + 1) = ((j + 1 : Nat) : Int) := by rw [wrap64 (by omega) (by omega)]; omega
    have next : ∀ {H' : Hp}, ruleOne l[j] = true → Keep h H' → ∃ j', j' < l.length - j ∧ ∃ i, j' = l.length - i ∧ i ≤ l.length ∧ Keep h H' ∧ some (Value.int .i64 ((j + 1 : Nat) : Int)) = some (.int .i64 i) ∧ ∀ r ∈ l.take i, ruleOne r = true := fun {H'} ho kk =>
      ⟨l.length - (j + 1), by omega, j + 1, rfl, by omega, kk, rfl, fun r hr' => by
        rw [List.take_add_one, List.getElem?_eq_getElem h3, List.mem_append] at hr'
        rcases hr' with hr' | hr'
        · exact hp r hr'
        · simp at hr'; rw [hr']; exact ho⟩
    have no : ∀ {H' : Hp}, ruleOne l[j] = false → Keep h H' → Value.bool false = .bool (rulesMay l) ∧ Keep h H' := fun {H'} ho kk => ⟨by
      have : rulesMay l = false := by
        unfold rulesMay
        rw [Bool.and_eq_false_iff]; left
        rw [List.all_eq_false]; exact ⟨_, List.getElem_mem h3, by simp [ho]⟩
      rw [this], kk⟩
    generalize l[j] = rl at *
    repeat' (first | simp only [evr, nextP_norm, evd, evq, beq_self_eq_true, cond_true, cond_false, reduceIte, Nat.reduceEqDiff, Nat.reduceAdd, Int.reduceBNe, Int.reduceBEq, Int.reduceLT, Int.reduceLE, Int.reduceEq, evh, evp, Nat.reduceLeDiff, Nat.reduceSub, Nat.reduceBEq, typs, r0, r3, ll, e3, pa, hrH, a1] | refine kCond2_by (fun hc => ?_) (fun hc => ?_) <;> try simp only [hc] | refine kPick_by (fun hc => ?_) (fun hc => ?_) <;> try simp only [hc] | refine kWant_by (fun hc => ?_) (fun hc => ?_) <;> try simp only [hc])
    refine callP_meets (rsplit_spec rl.path H) ?_
    rintro u H2 ⟨k2, hu⟩
    have hr2 := (k2.row (by have := K.1; omega)).trans hrH
    obtain ⟨sl, e, rfl, he⟩ : ∃ sl e, u = .tuple #[sl, .int .i64 e] ∧ (e = 0 ↔ (split rl.path).isSome = true) := by
      cases hs : split rl.path with
      | none => rw [hs] at hu; exact ⟨_, _, hu, by simp⟩
      | some l' => rw [hs] at hu; obtain ⟨sl, e, _⟩ := hu; exact ⟨_, _, e, by simp⟩
    have K2 := K.trans k2
    by_cases h1 : rl.kind = 1 ∨ rl.kind = 2
    · have ho : ruleOne rl = decide (rl.path = ByteArray.empty) := by unfold ruleOne; rw [if_pos h1]
      have f12 : (rl.kind == 1) = true ∨ (rl.kind == 1) = false ∧ (rl.kind == 2) = true := by
        rcases h1 with h1 | h1
        · left; simp [h1]
        · right; simp [h1]
      by_cases hpe : rl.path = ByteArray.empty
      · have fp : (!decide (rl.path = ByteArray.empty)) = false := by simp [hpe]
        rcases f12 with f1 | ⟨f1, f2⟩
        · repeat' (first | simp only [evr, nextP_norm, evd, evq, beq_self_eq_true, cond_true, cond_false, reduceIte, Nat.reduceEqDiff, Nat.reduceAdd, Int.reduceBNe, Int.reduceBEq, Int.reduceLT, Int.reduceLE, Int.reduceEq, evh, evp, Nat.reduceLeDiff, Nat.reduceSub, Nat.reduceBEq, typs, r0, r3, pa, hr2, a0, a1, f1, fp, ee, wj] | refine kCond2_by (fun hc => ?_) (fun hc => ?_) <;> try simp only [hc] | refine kPick_by (fun hc => ?_) (fun hc => ?_) <;> try simp only [hc] | refine kWant_by (fun hc => ?_) (fun hc => ?_) <;> try simp only [hc])
          exact next (by rw [ho]; simp [hpe]) K2
        · repeat' (first | simp only [evr, nextP_norm, evd, evq, beq_self_eq_true, cond_true, cond_false, reduceIte, Nat.reduceEqDiff, Nat.reduceAdd, Int.reduceBNe, Int.reduceBEq, Int.reduceLT, Int.reduceLE, Int.reduceEq, evh, evp, Nat.reduceLeDiff, Nat.reduceSub, Nat.reduceBEq, typs, r0, r3, pa, hr2, a0, a1, f1, f2, fp, ee, wj] | refine kCond2_by (fun hc => ?_) (fun hc => ?_) <;> try simp only [hc] | refine kPick_by (fun hc => ?_) (fun hc => ?_) <;> try simp only [hc] | refine kWant_by (fun hc => ?_) (fun hc => ?_) <;> try simp only [hc])
          exact next (by rw [ho]; simp [hpe]) K2
      · have fp : (!decide (rl.path = ByteArray.empty)) = true := by simp [hpe]
        rcases f12 with f1 | ⟨f1, f2⟩
        · repeat' (first | simp only [evr, nextP_norm, evd, evq, beq_self_eq_true, cond_true, cond_false, reduceIte, Nat.reduceEqDiff, Nat.reduceAdd, Int.reduceBNe, Int.reduceBEq, Int.reduceLT, Int.reduceLE, Int.reduceEq, evh, evp, Nat.reduceLeDiff, Nat.reduceSub, Nat.reduceBEq, typs, r0, r3, pa, hr2, a0, a1, f1, fp, ee] | refine kCond2_by (fun hc => ?_) (fun hc => ?_) <;> try simp only [hc] | refine kPick_by (fun hc => ?_) (fun hc => ?_) <;> try simp only [hc] | refine kWant_by (fun hc => ?_) (fun hc => ?_) <;> try simp only [hc])
          exact no (by rw [ho]; simp [hpe]) K2
        · repeat' (first | simp only [evr, nextP_norm, evd, evq, beq_self_eq_true, cond_true, cond_false, reduceIte, Nat.reduceEqDiff, Nat.reduceAdd, Int.reduceBNe, Int.reduceBEq, Int.reduceLT, Int.reduceLE, Int.reduceEq, evh, evp, Nat.reduceLeDiff, Nat.reduceSub, Nat.reduceBEq, typs, r0, r3, pa, hr2, a0, a1, f1, f2, fp, ee] | refine kCond2_by (fun hc => ?_) (fun hc => ?_) <;> try simp only [hc] | refine kPick_by (fun hc => ?_) (fun hc => ?_) <;> try simp only [hc] | refine kWant_by (fun hc => ?_) (fun hc => ?_) <;> try simp only [hc])
          exact no (by rw [ho]; simp [hpe]) K2
    · have f1 : (rl.kind == 1) = false := by simp; intro hh; exact h1 (.inl hh)
      have f2 : (rl.kind == 2) = false := by simp; intro hh; exact h1 (.inr hh)
      by_cases h4 : rl.kind = 3
      · have f3 : (rl.kind == 3) = true := by simp [h4]
        have ho : ruleOne rl = (split rl.path).isSome := by unfold ruleOne; rw [if_neg h1, if_pos h4]
        by_cases h5 : e = 0
        · have f5 : (e != 0) = false := by simp [h5]
          repeat' (first | simp only [evr, nextP_norm, evd, evq, beq_self_eq_true, cond_true, cond_false, reduceIte, Nat.reduceEqDiff, Nat.reduceAdd, Int.reduceBNe, Int.reduceBEq, Int.reduceLT, Int.reduceLE, Int.reduceEq, evh, evp, Nat.reduceLeDiff, Nat.reduceSub, Nat.reduceBEq, typs, r0, r3, pa, hr2, a0, a1, f1, f2, f3, f5, wj] | refine kCond2_by (fun hc => ?_) (fun hc => ?_) <;> try simp only [hc] | refine kPick_by (fun hc => ?_) (fun hc => ?_) <;> try simp only [hc] | refine kWant_by (fun hc => ?_) (fun hc => ?_) <;> try simp only [hc])
          exact next (by rw [ho]; exact he.1 h5) K2
        · have f5 : (e != 0) = true := by simp [h5]
          repeat' (first | simp only [evr, nextP_norm, evd, evq, beq_self_eq_true, cond_true, cond_false, reduceIte, Nat.reduceEqDiff, Nat.reduceAdd, Int.reduceBNe, Int.reduceBEq, Int.reduceLT, Int.reduceLE, Int.reduceEq, evh, evp, Nat.reduceLeDiff, Nat.reduceSub, Nat.reduceBEq, typs, r0, r3, pa, hr2, a0, a1, f1, f2, f3, f5] | refine kCond2_by (fun hc => ?_) (fun hc => ?_) <;> try simp only [hc] | refine kPick_by (fun hc => ?_) (fun hc => ?_) <;> try simp only [hc] | refine kWant_by (fun hc => ?_) (fun hc => ?_) <;> try simp only [hc])
          exact no (by rw [ho]; cases hs : (split rl.path).isSome; rfl; exact absurd (he.2 hs) h5) K2
      · have f3 : (rl.kind == 3) = false := by simp [h4]
        repeat' (first | simp only [evr, nextP_norm, evd, evq, beq_self_eq_true, cond_true, cond_false, reduceIte, Nat.reduceEqDiff, Nat.reduceAdd, Int.reduceBNe, Int.reduceBEq, Int.reduceLT, Int.reduceLE, Int.reduceEq, evh, evp, Nat.reduceLeDiff, Nat.reduceSub, Nat.reduceBEq, typs, r0, r3, pa, hr2, a0, a1, f1, f2, f3] | refine kCond2_by (fun hc => ?_) (fun hc => ?_) <;> try simp only [hc] | refine kPick_by (fun hc => ?_) (fun hc => ?_) <;> try simp only [hc] | refine kWant_by (fun hc => ?_) (fun hc => ?_) <;> try simp only [hc])
        exact no (by unfold ruleOne; rw [if_neg h1, if_neg h4]) K2
  · have e3 : decide ((j : Int) < (l.length : Int)) = false := decide_eq_false (by omega)
    have ha : l.all ruleOne = true := by rw [List.all_eq_true]; exact fun r hr => hp r (by rw [List.take_of_length_le (by omega)]; exact hr)
    repeat' (first | simp only [evr, nextP_norm, evd, evq, beq_self_eq_true, cond_true, cond_false, reduceIte, Nat.reduceEqDiff, Nat.reduceAdd, Int.reduceBNe, Int.reduceBEq, Int.reduceLT, Int.reduceLE, Int.reduceEq, evh, evp, Nat.reduceLeDiff, Nat.reduceSub, Nat.reduceBEq, typs, r0, r3, e3, ll] | refine kCond2_by (fun hc => ?_) (fun hc => ?_) <;> try simp only [hc] | refine kPick_by (fun hc => ?_) (fun hc => ?_) <;> try simp only [hc] | refine kWant_by (fun hc => ?_) (fun hc => ?_) <;> try simp only [hc])
    exact ⟨by unfold rulesMay; rw [ha, decide_eq_true (by omega)]; rfl, K⟩
end Go.Proofs.YtncmgiddcefpcaaGreatDoor
