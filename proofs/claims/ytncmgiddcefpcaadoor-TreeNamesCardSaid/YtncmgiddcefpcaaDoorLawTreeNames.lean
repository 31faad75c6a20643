/- TreeNames: the law's own code. -/
import Derived.Test.YtncmgiddcefpcaaDoorConWg
import Derived.Test.YtncmgiddcefpcaaDoorConTn
import Derived.Test.YtncmgiddcefpcaaDoorConTk2
import Derived.Test.YtncmgiddcefpcaaDoorConEq
import Derived.Test.YtncmgiddcefpcaaDoorConDe
import Derived.Test.YtncmgiddcefpcaaDoorConSl
import Derived.Test.YtncmgiddcefpcaaDoorConD
import Derived.Test.YtncmgiddcefpcaaDoorConZs
namespace Go.Proofs.YtncmgiddcefpcaaDoor
open Go Go.Ev Go.RowKit Go.Con Go.Con.Hi
set_option linter.unusedSimpArgs false
set_option linter.unusedVariables false
set_option maxRecDepth 1000000
theorem app_gr {G : Nat → Prop} {h : Hp} {v : Value} {ps : List ByteArray} (g : Gr G h v 9 1 (strs ps)) {b : Nat} {s : ByteArray} (hb : h.get b = some (.row [.string s] 9 (.rw 0 []))) (hl : ps.length ≤ 1000000000) :
    ∃ v' h', evAppend kon.P 23 v (.slice (some ⟨b, 0, none⟩) 1 2) h = some (v', h') ∧ Gr (fun k => G k ∨ k = h.next) h' v' 9 1 (strs (ps ++ [s])) ∧ h'.next = h.next + 1 ∧ ∀ c, c < h.next → ¬ G c → h'.get c = h.get c := by
  have hc : evCells 1 1 (.slice (some ⟨b, 0, none⟩) 1 2) h = some [.string s] := by
    show (bif 1 * 1 == 0 then some [] else (rowOf h b).bind fun cs => bif decide (0 + 1 * 1 ≤ cs.length) then some ((cs.drop 0).take (1 * 1)) else none) = _
    rw [rowOf_rw hb]; rfl
  rw [strs_app]
  exact append_gr (e := 9) (n := 1) (by_ := 16) (z := .string ByteArray.empty) (by kernel_rfl) (by kernel_rfl) (by kernel_rfl) (by kernel_rfl) (by kernel_rfl) (Nat.le_refl _) g (x := .slice (some ⟨b, 0, none⟩) 1 2) (j := 1) rfl hc (Nat.le_refl _) rfl rfl
    (by rw [strs_len]; exact Nat.le_trans (Nat.mul_le_mul_right 17 (show _ ≤ 2000001026 by omega)) (by decide))
def firstN (on : List ByteArray) : ByteArray := match on with
  | [] => ByteArray.empty
  | s :: _ => s
theorem firstN_app {on : List ByteArray} (h : on ≠ []) (s : ByteArray) : firstN (on ++ [s]) = firstN on := by
  cases on with
  | nil => exact absurd rfl h
  | cons a l => rfl
theorem firstN_mem {on : List ByteArray} (h : on ≠ []) : firstN on ∈ on := by
  cases on with
  | nil => exact absurd rfl h
  | cons a l => exact List.mem_cons_self ..
set_option maxHeartbeats 8000000 in
theorem treeNames_true {h : Hp} {v : Value} {l : List ByteArray} (s : StrSl h v l) (pick : UInt8) : Meets kon 20 [v, .int .u8 pick.toNat] h fun v _ => v = .bool true := by
  refine Meets.mk rfl (by kernel_rfl) Tryd.func20 rfl (congrArg Array.toList Tryd.results20) ?_
  have aw := fun h => awake_call (f := 33) (by kernel_rfl) h
  have la := s.len
  have ep : ∀ b, ptrV b = .pointer (some ⟨b, 0, none⟩) := fun _ => rfl
  rcases Bool.eq_false_or_eq_true ((l.length : Int) == 0) with e1 | e1
  · repeat' (first | simp only [evr, nextP_norm, evd, evq, beq_self_eq_true, cond_true, cond_false, reduceIte, Nat.reduceEqDiff, Nat.reduceAdd, Int.reduceBNe, Int.reduceBEq, Int.reduceLT, Int.reduceLE, Int.reduceEq, evh, evp, Nat.reduceLeDiff, Nat.reduceSub, Nat.reduceBEq, typs, aw, la, e1] | refine kCond2_by (fun hc => ?_) (fun hc => ?_) <;> try simp only [hc] | refine kPick_by (fun hc => ?_) (fun hc => ?_) <;> try simp only [hc] | refine kWant_by (fun hc => ?_) (fun hc => ?_) <;> try simp only [hc])
  rcases Bool.eq_false_or_eq_true (decide ((40 : Int) < l.length)) with e2 | e2
  · repeat' (first | simp only [evr, nextP_norm, evd, evq, beq_self_eq_true, cond_true, cond_false, reduceIte, Nat.reduceEqDiff, Nat.reduceAdd, Int.reduceBNe, Int.reduceBEq, Int.reduceLT, Int.reduceLE, Int.reduceEq, evh, evp, Nat.reduceLeDiff, Nat.reduceSub, Nat.reduceBEq, typs, aw, la, e1, e2] | refine kCond2_by (fun hc => ?_) (fun hc => ?_) <;> try simp only [hc] | refine kPick_by (fun hc => ?_) (fun hc => ?_) <;> try simp only [hc] | refine kWant_by (fun hc => ?_) (fun hc => ?_) <;> try simp only [hc])
  have hl40 : l.length ≤ 40 := by have := of_decide_eq_false e2; omega
  repeat' (first | simp only [evr, nextP_norm, evd, evq, beq_self_eq_true, cond_true, cond_false, reduceIte, Nat.reduceEqDiff, Nat.reduceAdd, Int.reduceBNe, Int.reduceBEq, Int.reduceLT, Int.reduceLE, Int.reduceEq, evh, evp, Nat.reduceLeDiff, Nat.reduceSub, Nat.reduceBEq, typs, aw, la, e1, e2] | refine kCond2_by (fun hc => ?_) (fun hc => ?_) <;> try simp only [hc] | refine kPick_by (fun hc => ?_) (fun hc => ?_) <;> try simp only [hc] | refine kWant_by (fun hc => ?_) (fun hc => ?_) <;> try simp only [hc])
  refine callP_meets (tNew_spec h) ?_
  rintro _ h2 ⟨F0, bt, rfl, k2, t2, fF⟩
  repeat' (first | simp only [evr, nextP_norm, evd, evq, beq_self_eq_true, cond_true, cond_false, reduceIte, Nat.reduceEqDiff, Nat.reduceAdd, Int.reduceBNe, Int.reduceBEq, Int.reduceLT, Int.reduceLE, Int.reduceEq, evh, evp, Nat.reduceLeDiff, Nat.reduceSub, Nat.reduceBEq, typs, ep bt] | refine kCond2_by (fun hc => ?_) (fun hc => ?_) <;> try simp only [hc] | refine kPick_by (fun hc => ?_) (fun hc => ?_) <;> try simp only [hc] | refine kWant_by (fun hc => ?_) (fun hc => ?_) <;> try simp only [hc])
  generalize hh : Hp.set _ (h2.next + 1) _ = h3
  have k3 : Keep h2 h3 := by rw [← hh]; exact ((Keep.push _ _).pushed).set (Nat.le_succ _)
  have n3 : h3.next = h2.next + 2 := by rw [← hh]; rfl
  have a3 : h3.get h2.next = some (.row [.string star, .bool true, .bool false, .bool false] 64 (.rw 0 [])) := by
    rw [← hh, Hp.get_set_ne (by omega), Hp.get_push_lt (by rw [Hp.next_push]; omega)]; exact Hp.get_push_self _ _
  have b3 : h3.get (h2.next + 1) = some (.row (bnC segN (.slice (some ⟨h2.next, 0, none⟩) 1 2)) 45 (.rw 0 [])) := by rw [← hh]; exact Hp.get_set_self _ _ _
  clear hh
  have t3 := t2.keeps k3
  have nF : ∀ k, k < h.next ∨ k = h2.next ∨ k = h2.next + 1 → ¬ F0 k := fun k hk hf => by
    have h1 := fF k hf; have h2' := t2.ltF hf; omega
  have x0 : WG h3 F0 h3 F0 (fun _ => False) (tn []) bt (.slice none 0 0) 9 1 (strs []) := ⟨t3, Gr.nil _ _ _, ⟨Nat.le_refl _, fun _ _ _ => rfl, fun k hk => .inl (hk.elim id False.elim)⟩, fun _ _ h => h⟩
  -- what is there of the law's own, at a later heap
  have own : ∀ {H : Hp} {F G : Nat → Prop} {T : Hi} {w : Value} {cs : List Value}, WG h3 F0 H F G T bt w 9 1 cs → StrSl H v l ∧ TmSl H (.slice (some ⟨h2.next, 0, none⟩) 1 2) [⟨star, ⟨true, false, false⟩⟩] ∧
      rowOf H (h2.next + 1) = some (bnC segN (.slice (some ⟨h2.next, 0, none⟩) 1 2)) ∧ h2.next + 2 ≤ H.next := fun {H F G T w cs} x => by
    have kk : Keep h H := ⟨by have := x.u.next; have := k2.1; omega, fun k hk => by
      rw [x.u.same k (by have := k2.1; omega) (nF k (.inl hk)), k3.2 k (by have := k2.1; omega)]; exact k2.2 k hk⟩
    have xn := x.u.next
    refine ⟨SlAt.keep s kk, tm_new (t := ⟨star, ⟨true, false, false⟩⟩) (by omega) ?_, ?_, by omega⟩
    · rw [x.u.same _ (by omega) (nF _ (.inr (.inl rfl)))]; exact a3
    · exact rowOf_rw ((x.u.same _ (by omega) (nF _ (.inr (.inr rfl)))).trans b3)
  refine Wp_loop (fun k fr h' => ∃ (i : Nat) (F G : Nat → Prop) (w : Value) (on : List ByteArray), k = l.length - i ∧ i ≤ l.length ∧ on.length ≤ i ∧ (∀ s ∈ on, mayN s = true) ∧ WG h3 F0 h' F G (tn on) bt w 9 1 (strs on) ∧
    fr.get 0 = some v ∧ fr.get 1 = some (.int .u8 pick.toNat) ∧ fr.get 5 = some (.pointer (some ⟨bt, 0, none⟩)) ∧ fr.get 6 = some (.pointer (some ⟨h2.next + 1, 0, none⟩)) ∧ fr.get 7 = some (.string (firstN on)) ∧ fr.get 8 = some w ∧ fr.get 9 = some (.int .i64 i)) l.length
    ⟨0, F0, _, _, [], rfl, Nat.zero_le _, Nat.le_refl _, by simp, x0, ?_, ?_, ?_, ?_, ?_, ?_, ?_⟩ ?_
  · repeat' (first | simp only [evr, nextP_norm, evd, evq, beq_self_eq_true, cond_true, cond_false, reduceIte, Nat.reduceEqDiff, Nat.reduceAdd, Int.reduceBNe, Int.reduceBEq, Int.reduceLT, Int.reduceLE, Int.reduceEq, evh, evp, Nat.reduceLeDiff, Nat.reduceSub, Nat.reduceBEq, typs] | refine kCond2_by (fun hc => ?_) (fun hc => ?_) <;> try simp only [hc] | refine kPick_by (fun hc => ?_) (fun hc => ?_) <;> try simp only [hc] | refine kWant_by (fun hc => ?_) (fun hc => ?_) <;> try simp only [hc])
  · repeat' (first | simp only [evr, nextP_norm, evd, evq, beq_self_eq_true, cond_true, cond_false, reduceIte, Nat.reduceEqDiff, Nat.reduceAdd, Int.reduceBNe, Int.reduceBEq, Int.reduceLT, Int.reduceLE, Int.reduceEq, evh, evp, Nat.reduceLeDiff, Nat.reduceSub, Nat.reduceBEq, typs] | refine kCond2_by (fun hc => ?_) (fun hc => ?_) <;> try simp only [hc] | refine kPick_by (fun hc => ?_) (fun hc => ?_) <;> try simp only [hc] | refine kWant_by (fun hc => ?_) (fun hc => ?_) <;> try simp only [hc])
  · repeat' (first | simp only [evr, nextP_norm, evd, evq, beq_self_eq_true, cond_true, cond_false, reduceIte, Nat.reduceEqDiff, Nat.reduceAdd, Int.reduceBNe, Int.reduceBEq, Int.reduceLT, Int.reduceLE, Int.reduceEq, evh, evp, Nat.reduceLeDiff, Nat.reduceSub, Nat.reduceBEq, typs] | refine kCond2_by (fun hc => ?_) (fun hc => ?_) <;> try simp only [hc] | refine kPick_by (fun hc => ?_) (fun hc => ?_) <;> try simp only [hc] | refine kWant_by (fun hc => ?_) (fun hc => ?_) <;> try simp only [hc])
  · repeat' (first | simp only [evr, nextP_norm, evd, evq, beq_self_eq_true, cond_true, cond_false, reduceIte, Nat.reduceEqDiff, Nat.reduceAdd, Int.reduceBNe, Int.reduceBEq, Int.reduceLT, Int.reduceLE, Int.reduceEq, evh, evp, Nat.reduceLeDiff, Nat.reduceSub, Nat.reduceBEq, typs] | refine kCond2_by (fun hc => ?_) (fun hc => ?_) <;> try simp only [hc] | refine kPick_by (fun hc => ?_) (fun hc => ?_) <;> try simp only [hc] | refine kWant_by (fun hc => ?_) (fun hc => ?_) <;> try simp only [hc])
  · repeat' (first | simp only [evr, nextP_norm, evd, evq, beq_self_eq_true, cond_true, cond_false, reduceIte, Nat.reduceEqDiff, Nat.reduceAdd, Int.reduceBNe, Int.reduceBEq, Int.reduceLT, Int.reduceLE, Int.reduceEq, evh, evp, Nat.reduceLeDiff, Nat.reduceSub, Nat.reduceBEq, typs] | refine kCond2_by (fun hc => ?_) (fun hc => ?_) <;> try simp only [hc] | refine kPick_by (fun hc => ?_) (fun hc => ?_) <;> try simp only [hc] | refine kWant_by (fun hc => ?_) (fun hc => ?_) <;> try simp only [hc])
    rfl
  · repeat' (first | simp only [evr, nextP_norm, evd, evq, beq_self_eq_true, cond_true, cond_false, reduceIte, Nat.reduceEqDiff, Nat.reduceAdd, Int.reduceBNe, Int.reduceBEq, Int.reduceLT, Int.reduceLE, Int.reduceEq, evh, evp, Nat.reduceLeDiff, Nat.reduceSub, Nat.reduceBEq, typs] | refine kCond2_by (fun hc => ?_) (fun hc => ?_) <;> try simp only [hc] | refine kPick_by (fun hc => ?_) (fun hc => ?_) <;> try simp only [hc] | refine kWant_by (fun hc => ?_) (fun hc => ?_) <;> try simp only [hc])
  · repeat' (first | simp only [evr, nextP_norm, evd, evq, beq_self_eq_true, cond_true, cond_false, reduceIte, Nat.reduceEqDiff, Nat.reduceAdd, Int.reduceBNe, Int.reduceBEq, Int.reduceLT, Int.reduceLE, Int.reduceEq, evh, evp, Nat.reduceLeDiff, Nat.reduceSub, Nat.reduceBEq, typs] | refine kCond2_by (fun hc => ?_) (fun hc => ?_) <;> try simp only [hc] | refine kPick_by (fun hc => ?_) (fun hc => ?_) <;> try simp only [hc] | refine kWant_by (fun hc => ?_) (fun hc => ?_) <;> try simp only [hc])
    rfl
  rintro k fr h' ⟨i, F, G, w, on, rfl, hi, hon, hmay, x, g0, g1, g5, g6, g7, g8, g9⟩
  obtain ⟨s', tm', q6, hn'⟩ := own x
  have la := s'.len
  by_cases h3i : i < l.length
  · have e3 : decide ((i : Int) < l.length) = true := by simp; omega
    have w1 := wrap64 (x := (i : Int) + 1) (by omega) (by omega)
    obtain ⟨nm, hnm⟩ : ∃ nm, l[i]? = some nm := ⟨_, List.getElem?_eq_getElem h3i⟩
    obtain ⟨p, ha, hld⟩ := StrSl.at s' hnm
    rcases Bool.eq_false_or_eq_true (decide ((100 : Int) < nm.size)) with e4 | e4
    · repeat' (first | simp only [evr, nextP_norm, evd, evq, beq_self_eq_true, cond_true, cond_false, reduceIte, Nat.reduceEqDiff, Nat.reduceAdd, Int.reduceBNe, Int.reduceBEq, Int.reduceLT, Int.reduceLE, Int.reduceEq, evh, evp, Nat.reduceLeDiff, Nat.reduceSub, Nat.reduceBEq, typs, g0, g1, g5, g6, g7, g8, g9, la, e3, ha, hld, e4] | refine kCond2_by (fun hc => ?_) (fun hc => ?_) <;> try simp only [hc] | refine kPick_by (fun hc => ?_) (fun hc => ?_) <;> try simp only [hc] | refine kWant_by (fun hc => ?_) (fun hc => ?_) <;> try simp only [hc])
    by_cases hne : on = []
    · subst hne
      have f0 : decide (firstN [] = ByteArray.empty) = true := rfl
      repeat' (first | simp only [evr, nextP_norm, evd, evq, beq_self_eq_true, cond_true, cond_false, reduceIte, Nat.reduceEqDiff, Nat.reduceAdd, Int.reduceBNe, Int.reduceBEq, Int.reduceLT, Int.reduceLE, Int.reduceEq, evh, evp, Nat.reduceLeDiff, Nat.reduceSub, Nat.reduceBEq, typs, g0, g1, g5, g6, g7, g8, g9, la, e3, ha, hld, e4, f0] | refine kCond2_by (fun hc => ?_) (fun hc => ?_) <;> try simp only [hc] | refine kPick_by (fun hc => ?_) (fun hc => ?_) <;> try simp only [hc] | refine kWant_by (fun hc => ?_) (fun hc => ?_) <;> try simp only [hc])
      refine Eq.mpr (Wp_drawOrd (KR.mk (by kernel_rfl))) ?_
      unfold bnC segN at q6
      repeat' (first | simp only [evr, nextP_norm, evd, evq, beq_self_eq_true, cond_true, cond_false, reduceIte, Nat.reduceEqDiff, Nat.reduceAdd, Int.reduceBNe, Int.reduceBEq, Int.reduceLT, Int.reduceLE, Int.reduceEq, evh, evp, Nat.reduceLeDiff, Nat.reduceSub, Nat.reduceBEq, typs, g0, g1, g5, g6, g7, g8, g9, la, ha, hld, q6] | refine kCond2_by (fun hc => ?_) (fun hc => ?_) <;> try simp only [hc] | refine kPick_by (fun hc => ?_) (fun hc => ?_) <;> try simp only [hc] | refine kWant_by (fun hc => ?_) (fun hc => ?_) <;> try simp only [hc])
      refine callP_meets (tAdd_spec x.t (by decide) (by decide) (b := segN) tm' (by decide) 0 nm) ?_
      rw [tn_nil, tn_add]
      rintro _ h5 ⟨rfl, F', t5, u5⟩
      have x5 := x.tree u5 t5
      obtain ⟨s5, _, q6, hn5⟩ := own x5
      have la := s5.len
      obtain ⟨p5, ha5, hld5⟩ := StrSl.at s5 hnm
      cases hm : mayN nm with
      | false =>
        rw [hm] at x5
        simp only [Bool.false_eq_true, if_false]
        repeat' (first | simp only [evr, nextP_norm, evd, evq, beq_self_eq_true, cond_true, cond_false, reduceIte, Nat.reduceEqDiff, Nat.reduceAdd, Int.reduceBNe, Int.reduceBEq, Int.reduceLT, Int.reduceLE, Int.reduceEq, evh, evp, Nat.reduceLeDiff, Nat.reduceSub, Nat.reduceBEq, typs, g0, g1, g5, g6, g7, g8, g9, w1] | refine kCond2_by (fun hc => ?_) (fun hc => ?_) <;> try simp only [hc] | refine kPick_by (fun hc => ?_) (fun hc => ?_) <;> try simp only [hc] | refine kWant_by (fun hc => ?_) (fun hc => ?_) <;> try simp only [hc])
        exact ⟨l.length - (i + 1), by omega, i + 1, F', G, w, [], rfl, by omega, Nat.zero_le _, by simp, x5, rfl, rfl, rfl⟩
      | true =>
        rw [hm] at x5
        simp only [if_true]
        have x6 := x5.keeps (Keep.push h5 (.row [.string nm] 9 (.rw 0 [])))
        obtain ⟨w', h7, ea, ga, na, sa⟩ := app_gr x6.g (b := h5.next) (s := nm) (Hp.get_push_self _ _) (by simp)
        have x7 := x6.app ga na sa
        obtain ⟨s7, _, _, _⟩ := own x7
        obtain ⟨p7, ha7, hld7⟩ := StrSl.at s7 hnm
        obtain rfl : p5 = p7 := Option.some.inj (ha5.symm.trans ha7)
        repeat' (first | simp only [evr, nextP_norm, evd, evq, beq_self_eq_true, cond_true, cond_false, reduceIte, Nat.reduceEqDiff, Nat.reduceAdd, Int.reduceBNe, Int.reduceBEq, Int.reduceLT, Int.reduceLE, Int.reduceEq, evh, evp, Nat.reduceLeDiff, Nat.reduceSub, Nat.reduceBEq, typs, g0, g1, g5, g6, g7, g8, g9, ha5, hld5, ea, f0, ha7, hld7, w1] | refine kCond2_by (fun hc => ?_) (fun hc => ?_) <;> try simp only [hc] | refine kPick_by (fun hc => ?_) (fun hc => ?_) <;> try simp only [hc] | refine kWant_by (fun hc => ?_) (fun hc => ?_) <;> try simp only [hc])
        exact ⟨l.length - (i + 1), by omega, i + 1, F', _, w', [nm], rfl, by omega, by simp, by simpa using hm, x7, rfl, rfl, rfl⟩
    · have f0 : decide (firstN on = ByteArray.empty) = false := decide_eq_false (may_ne (hmay _ (firstN_mem hne)))
      repeat' (first | simp only [evr, nextP_norm, evd, evq, beq_self_eq_true, cond_true, cond_false, reduceIte, Nat.reduceEqDiff, Nat.reduceAdd, Int.reduceBNe, Int.reduceBEq, Int.reduceLT, Int.reduceLE, Int.reduceEq, evh, evp, Nat.reduceLeDiff, Nat.reduceSub, Nat.reduceBEq, typs, g0, g1, g5, g6, g7, g8, g9, la, e3, ha, hld, e4, f0] | refine kCond2_by (fun hc => ?_) (fun hc => ?_) <;> try simp only [hc] | refine kPick_by (fun hc => ?_) (fun hc => ?_) <;> try simp only [hc] | refine kWant_by (fun hc => ?_) (fun hc => ?_) <;> try simp only [hc])
      refine callP_meets (tName_spec x.t (by show (List.map _ on).length ≤ _; rw [List.length_map]; omega) 0 (firstN on) nm) ?_
      rw [tn_name (firstN_mem hne)]
      rintro _ h5 ⟨rfl, F', t5, u5⟩
      have x5 := x.tree u5 t5
      obtain ⟨s5, _, _, hn5⟩ := own x5
      obtain ⟨p5, ha5, hld5⟩ := StrSl.at s5 hnm
      cases hm : mayN nm with
      | false =>
        rw [hm] at x5
        simp only [if_true]
        repeat' (first | simp only [evr, nextP_norm, evd, evq, beq_self_eq_true, cond_true, cond_false, reduceIte, Nat.reduceEqDiff, Nat.reduceAdd, Int.reduceBNe, Int.reduceBEq, Int.reduceLT, Int.reduceLE, Int.reduceEq, evh, evp, Nat.reduceLeDiff, Nat.reduceSub, Nat.reduceBEq, typs, g0, g1, g5, g6, g7, g8, g9, w1] | refine kCond2_by (fun hc => ?_) (fun hc => ?_) <;> try simp only [hc] | refine kPick_by (fun hc => ?_) (fun hc => ?_) <;> try simp only [hc] | refine kWant_by (fun hc => ?_) (fun hc => ?_) <;> try simp only [hc])
        exact ⟨l.length - (i + 1), by omega, i + 1, F', G, w, on, rfl, by omega, by omega, hmay, x5, rfl, rfl, rfl⟩
      | true =>
        rw [hm] at x5
        cases hb : memB on nm with
        | true =>
          rw [hb] at x5
          simp only [Bool.true_eq_false, if_false, if_true]
          repeat' (first | simp only [evr, nextP_norm, evd, evq, beq_self_eq_true, cond_true, cond_false, reduceIte, Nat.reduceEqDiff, Nat.reduceAdd, Int.reduceBNe, Int.reduceBEq, Int.reduceLT, Int.reduceLE, Int.reduceEq, evh, evp, Nat.reduceLeDiff, Nat.reduceSub, Nat.reduceBEq, typs, g0, g1, g5, g6, g7, g8, g9, w1] | refine kCond2_by (fun hc => ?_) (fun hc => ?_) <;> try simp only [hc] | refine kPick_by (fun hc => ?_) (fun hc => ?_) <;> try simp only [hc] | refine kWant_by (fun hc => ?_) (fun hc => ?_) <;> try simp only [hc])
          exact ⟨l.length - (i + 1), by omega, i + 1, F', G, w, on, rfl, by omega, by omega, hmay, x5, rfl, rfl, rfl⟩
        | false =>
          rw [hb] at x5
          simp only [Bool.true_eq_false, Bool.false_eq_true, if_false]
          have x6 := x5.keeps (Keep.push h5 (.row [.string nm] 9 (.rw 0 [])))
          obtain ⟨w', h7, ea, ga, na, sa⟩ := app_gr x6.g (b := h5.next) (s := nm) (Hp.get_push_self _ _) (by omega)
          have x7 := x6.app ga na sa
          repeat' (first | simp only [evr, nextP_norm, evd, evq, beq_self_eq_true, cond_true, cond_false, reduceIte, Nat.reduceEqDiff, Nat.reduceAdd, Int.reduceBNe, Int.reduceBEq, Int.reduceLT, Int.reduceLE, Int.reduceEq, evh, evp, Nat.reduceLeDiff, Nat.reduceSub, Nat.reduceBEq, typs, g0, g1, g5, g6, g7, g8, g9, ha5, hld5, ea, f0, w1] | refine kCond2_by (fun hc => ?_) (fun hc => ?_) <;> try simp only [hc] | refine kPick_by (fun hc => ?_) (fun hc => ?_) <;> try simp only [hc] | refine kWant_by (fun hc => ?_) (fun hc => ?_) <;> try simp only [hc])
          refine ⟨l.length - (i + 1), by omega, i + 1, F', _, w', on ++ [nm], rfl, by omega, by simp; omega, ?_, x7, ?_, rfl, rfl⟩
          · intro s hs
            rcases List.mem_append.1 hs with hs | hs
            · exact hmay s hs
            · simp at hs; subst hs; exact hm
          · rw [firstN_app hne]
  · have e3 : decide ((i : Int) < l.length) = false := by simp; omega
    have lw : evLen kon.P 23 w = some (.int .i64 on.length) := StrSl.len x.g.slAt
    have hln := (tLen_spec x.t 0).call
    rw [tn_is, if_pos rfl, tn_count] at hln
    unfold ptrV at hln
    by_cases hne : on = []
    · subst hne
      have lw : evLen kon.P 23 w = some (.int .i64 0) := lw
      have hln : ∀ Q, callP kon 70 h' Q [.pointer (some ⟨bt, 0, none⟩), .int .i64 0] = Q (.int .i64 0) h' := hln
      repeat' (first | simp only [evr, nextP_norm, evd, evq, beq_self_eq_true, cond_true, cond_false, reduceIte, Nat.reduceEqDiff, Nat.reduceAdd, Int.reduceBNe, Int.reduceBEq, Int.reduceLT, Int.reduceLE, Int.reduceEq, evh, evp, Nat.reduceLeDiff, Nat.reduceSub, Nat.reduceBEq, typs, g0, g1, g5, g6, g7, g8, g9, la, e3, lw, hln] | refine kCond2_by (fun hc => ?_) (fun hc => ?_) <;> try simp only [hc] | refine kPick_by (fun hc => ?_) (fun hc => ?_) <;> try simp only [hc] | refine kWant_by (fun hc => ?_) (fun hc => ?_) <;> try simp only [hc])
    · have f1 : (((on.length : Nat) : Int) == 0) = false := by
        have := List.length_pos_iff.2 hne
        simp; exact hne
      have v4 : ∀ xo yo, evBin kon.P .neq 39 xo yo (.agg #[.int .i64 1, .int .i64 2, .int .i64 3, .int .i64 0]) (.agg #[.int .i64 1, .int .i64 2, .int .i64 3, .int .i64 0]) = some (.bool false) := fun xo yo => by
        have := (evBk ⟨1, 2, 3, 0⟩ ⟨1, 2, 3, 0⟩ xo yo).2; simpa using this
      repeat' (first | simp only [evr, nextP_norm, evd, evq, beq_self_eq_true, cond_true, cond_false, reduceIte, Nat.reduceEqDiff, Nat.reduceAdd, Int.reduceBNe, Int.reduceBEq, Int.reduceLT, Int.reduceLE, Int.reduceEq, evh, evp, Nat.reduceLeDiff, Nat.reduceSub, Nat.reduceBEq, typs, g0, g1, g5, g6, g7, g8, g9, la, e3, lw, hln, bne_self_eq_false, f1] | refine kCond2_by (fun hc => ?_) (fun hc => ?_) <;> try simp only [hc] | refine kPick_by (fun hc => ?_) (fun hc => ?_) <;> try simp only [hc] | refine kWant_by (fun hc => ?_) (fun hc => ?_) <;> try simp only [hc])
      refine Wp_loop (fun k fr h'' => ∃ (i : Nat), k = on.length - i ∧ i ≤ on.length ∧ Keep h' h'' ∧
        fr.get 1 = some (.int .u8 pick.toNat) ∧ fr.get 5 = some (.pointer (some ⟨bt, 0, none⟩)) ∧ fr.get 6 = some (.pointer (some ⟨h2.next + 1, 0, none⟩)) ∧ fr.get 8 = some w ∧ fr.get 11 = some (.int .i64 i)) on.length
        ⟨0, rfl, Nat.zero_le _, Keep.refl _, ?_, ?_, ?_, ?_, ?_⟩ ?_
      · repeat' (first | simp only [evr, nextP_norm, evd, evq, beq_self_eq_true, cond_true, cond_false, reduceIte, Nat.reduceEqDiff, Nat.reduceAdd, Int.reduceBNe, Int.reduceBEq, Int.reduceLT, Int.reduceLE, Int.reduceEq, evh, evp, Nat.reduceLeDiff, Nat.reduceSub, Nat.reduceBEq, typs, g1] | refine kCond2_by (fun hc => ?_) (fun hc => ?_) <;> try simp only [hc] | refine kPick_by (fun hc => ?_) (fun hc => ?_) <;> try simp only [hc] | refine kWant_by (fun hc => ?_) (fun hc => ?_) <;> try simp only [hc])
      · repeat' (first | simp only [evr, nextP_norm, evd, evq, beq_self_eq_true, cond_true, cond_false, reduceIte, Nat.reduceEqDiff, Nat.reduceAdd, Int.reduceBNe, Int.reduceBEq, Int.reduceLT, Int.reduceLE, Int.reduceEq, evh, evp, Nat.reduceLeDiff, Nat.reduceSub, Nat.reduceBEq, typs, g5] | refine kCond2_by (fun hc => ?_) (fun hc => ?_) <;> try simp only [hc] | refine kPick_by (fun hc => ?_) (fun hc => ?_) <;> try simp only [hc] | refine kWant_by (fun hc => ?_) (fun hc => ?_) <;> try simp only [hc])
      · repeat' (first | simp only [evr, nextP_norm, evd, evq, beq_self_eq_true, cond_true, cond_false, reduceIte, Nat.reduceEqDiff, Nat.reduceAdd, Int.reduceBNe, Int.reduceBEq, Int.reduceLT, Int.reduceLE, Int.reduceEq, evh, evp, Nat.reduceLeDiff, Nat.reduceSub, Nat.reduceBEq, typs, g6] | refine kCond2_by (fun hc => ?_) (fun hc => ?_) <;> try simp only [hc] | refine kPick_by (fun hc => ?_) (fun hc => ?_) <;> try simp only [hc] | refine kWant_by (fun hc => ?_) (fun hc => ?_) <;> try simp only [hc])
      · repeat' (first | simp only [evr, nextP_norm, evd, evq, beq_self_eq_true, cond_true, cond_false, reduceIte, Nat.reduceEqDiff, Nat.reduceAdd, Int.reduceBNe, Int.reduceBEq, Int.reduceLT, Int.reduceLE, Int.reduceEq, evh, evp, Nat.reduceLeDiff, Nat.reduceSub, Nat.reduceBEq, typs, g8] | refine kCond2_by (fun hc => ?_) (fun hc => ?_) <;> try simp only [hc] | refine kPick_by (fun hc => ?_) (fun hc => ?_) <;> try simp only [hc] | refine kWant_by (fun hc => ?_) (fun hc => ?_) <;> try simp only [hc])
      · repeat' (first | simp only [evr, nextP_norm, evd, evq, beq_self_eq_true, cond_true, cond_false, reduceIte, Nat.reduceEqDiff, Nat.reduceAdd, Int.reduceBNe, Int.reduceBEq, Int.reduceLT, Int.reduceLE, Int.reduceEq, evh, evp, Nat.reduceLeDiff, Nat.reduceSub, Nat.reduceBEq, typs] | refine kCond2_by (fun hc => ?_) (fun hc => ?_) <;> try simp only [hc] | refine kPick_by (fun hc => ?_) (fun hc => ?_) <;> try simp only [hc] | refine kWant_by (fun hc => ?_) (fun hc => ?_) <;> try simp only [hc])
        rfl
      rintro k fr h'' ⟨i, rfl, hi, hk'', g1, g5, g6, g8, g11⟩
      have x' := x.keeps hk''
      obtain ⟨_, _, q6', hn''⟩ := own x'
      have lw : evLen kon.P 23 w = some (.int .i64 on.length) := StrSl.len x'.g.slAt
      by_cases h3i : i < on.length
      · have e3 : decide ((i : Int) < on.length) = true := by simp; omega
        have w1 := wrap64 (x := (i : Int) + 1) (by omega) (by omega)
        obtain ⟨nm, hnm⟩ : ∃ nm, on[i]? = some nm := ⟨_, List.getElem?_eq_getElem h3i⟩
        obtain ⟨p, ha, hld⟩ := StrSl.at x'.g.slAt hnm
        repeat' (first | simp only [evr, nextP_norm, evd, evq, beq_self_eq_true, cond_true, cond_false, reduceIte, Nat.reduceEqDiff, Nat.reduceAdd, Int.reduceBNe, Int.reduceBEq, Int.reduceLT, Int.reduceLE, Int.reduceEq, evh, evp, Nat.reduceLeDiff, Nat.reduceSub, Nat.reduceBEq, typs, g1, g5, g6, g8, g11, lw, e3, ha, hld] | refine kCond2_by (fun hc => ?_) (fun hc => ?_) <;> try simp only [hc] | refine kPick_by (fun hc => ?_) (fun hc => ?_) <;> try simp only [hc] | refine kWant_by (fun hc => ?_) (fun hc => ?_) <;> try simp only [hc])
        refine callP_meets (tLook_spec x'.t 0 nm) ?_
        rw [tn_look (List.mem_of_getElem? hnm)]
        rintro _ hL ⟨kL, sl, rfl, hsl⟩
        have sc := hsl.isCell
        have sv := hsl.cellsV
        have nL := kL.1
        have len1 : evLen kon.P 37 sl = some (.int .i64 1) := TmSl.len (l := segN.acl) hsl.slAt
        have e8 : (h2.next + 1 = hL.next) = False := eq_false (by omega)
        have r6 := (kL.row (show h2.next + 1 < h''.next by omega)).trans q6'
        unfold bnC segN at r6
        unfold outV bnC segN
        repeat' (first | simp only [evr, nextP_norm, evd, evq, beq_self_eq_true, cond_true, cond_false, reduceIte, Nat.reduceEqDiff, Nat.reduceAdd, Int.reduceBNe, Int.reduceBEq, Int.reduceLT, Int.reduceLE, Int.reduceEq, evh, evp, Nat.reduceLeDiff, Nat.reduceSub, Nat.reduceBEq, typs, g1, g5, g6, g8, g11, sc, sv, len1, e8, if_false, r6, v4, w1] | refine kCond2_by (fun hc => ?_) (fun hc => ?_) <;> try simp only [hc] | refine kPick_by (fun hc => ?_) (fun hc => ?_) <;> try simp only [hc] | refine kWant_by (fun hc => ?_) (fun hc => ?_) <;> try simp only [hc])
        exact ⟨on.length - (i + 1), by omega, i + 1, rfl, by omega, (hk''.trans kL).trans ((Keep.push _ _).set (Nat.le_refl _)), rfl⟩
      · have e3 : decide ((i : Int) < on.length) = false := by simp; omega
        have hpos : 0 < on.length := List.length_pos_iff.2 hne
        have n0 := pick.toNat_lt
        have wn : IntKind.i64.wrap (pick.toNat : Int) = (pick.toNat : Int) := wrap64 (by omega) (by omega)
        have rr : (pick.toNat : Int).tmod (on.length : Nat) = ((pick.toNat % on.length : Nat) : Int) := by rw [Int.tmod_eq_emod_of_nonneg (by omega)]; omega
        have hlt : pick.toNat % on.length < on.length := Nat.mod_lt _ hpos
        obtain ⟨nm, hnm⟩ : ∃ nm, on[pick.toNat % on.length]? = some nm := ⟨_, List.getElem?_eq_getElem hlt⟩
        obtain ⟨p, ha, hld⟩ := StrSl.at x'.g.slAt hnm
        repeat' (first | simp only [evr, nextP_norm, evd, evq, beq_self_eq_true, cond_true, cond_false, reduceIte, Nat.reduceEqDiff, Nat.reduceAdd, Int.reduceBNe, Int.reduceBEq, Int.reduceLT, Int.reduceLE, Int.reduceEq, evh, evp, Nat.reduceLeDiff, Nat.reduceSub, Nat.reduceBEq, typs, g1, g5, g6, g8, g11, lw, e3, wn, evBin_rem (b := ((on.length : Nat) : Int)) (by omega), rr, ha, hld] | refine kCond2_by (fun hc => ?_) (fun hc => ?_) <;> try simp only [hc] | refine kPick_by (fun hc => ?_) (fun hc => ?_) <;> try simp only [hc] | refine kWant_by (fun hc => ?_) (fun hc => ?_) <;> try simp only [hc])
        refine callP_meets (tDelete_spec x'.t (by show (List.map _ on).length ≤ _; rw [List.length_map]; omega) 0 nm) ?_
        obtain ⟨d1, d2, d3, d4⟩ := tn_delete (List.mem_of_getElem? hnm)
        rintro _ hD ⟨⟨sl, rfl, hsl⟩, F9, t9, u9⟩
        rw [d1] at hsl ⊢
        have sc := hsl.isCell
        have sv := hsl.cellsV
        unfold bnC segN
        repeat' (first | simp only [evr, nextP_norm, evd, evq, beq_self_eq_true, cond_true, cond_false, reduceIte, Nat.reduceEqDiff, Nat.reduceAdd, Int.reduceBNe, Int.reduceBEq, Int.reduceLT, Int.reduceLE, Int.reduceEq, evh, evp, Nat.reduceLeDiff, Nat.reduceSub, Nat.reduceBEq, typs, g1, g5, g6, g8, g11, sc, sv] | refine kCond2_by (fun hc => ?_) (fun hc => ?_) <;> try simp only [hc] | refine kPick_by (fun hc => ?_) (fun hc => ?_) <;> try simp only [hc] | refine kWant_by (fun hc => ?_) (fun hc => ?_) <;> try simp only [hc])
        generalize hh : Hp.set _ hD.next _ = hE
        have kE : Keep hD hE := by rw [← hh]; exact (Keep.push _ _).set (Nat.le_refl _)
        have gE : hE.get hD.next = some (.row (bnC segN sl) 45 (.rw 0 [])) := by rw [← hh]; exact Hp.get_set_self _ _ _
        have nE : hE.next = hD.next + 1 := by rw [← hh]; rfl
        clear hh
        have t10 := t9.keeps kE
        refine callP_meets (tByUID_spec t10 7) ?_
        rw [d2]
        rintro _ hU ⟨kU, hv⟩
        have hv : _ = noneV := hv
        subst hv
        unfold noneV
        have nU := kU.1
        have r14 := rowOf_rw ((kU.2 _ (by omega)).trans gE)
        unfold bnC segN at r14
        have e9 : (hD.next = hU.next) = False := eq_false (by omega)
        repeat' (first | simp only [evr, nextP_norm, evd, evq, beq_self_eq_true, cond_true, cond_false, reduceIte, Nat.reduceEqDiff, Nat.reduceAdd, Int.reduceBNe, Int.reduceBEq, Int.reduceLT, Int.reduceLE, Int.reduceEq, evh, evp, Nat.reduceLeDiff, Nat.reduceSub, Nat.reduceBEq, typs, g1, g5, g6, g8, g11, e9, if_false, r14] | refine kCond2_by (fun hc => ?_) (fun hc => ?_) <;> try simp only [hc] | refine kPick_by (fun hc => ?_) (fun hc => ?_) <;> try simp only [hc] | refine kWant_by (fun hc => ?_) (fun hc => ?_) <;> try simp only [hc])
        generalize hh : Hp.set _ hU.next _ = hX
        have kX : Keep hU hX := by rw [← hh]; exact (Keep.push _ _).set (Nat.le_refl _)
        clear hh
        have hln := (tLen_spec (t10.keeps (kU.trans kX)) 0).call
        rw [d4, if_pos rfl, d3] at hln
        unfold ptrV at hln
        have r15 := (kX.row (by omega)).trans r14
        repeat' (first | simp only [evr, nextP_norm, evd, evq, beq_self_eq_true, cond_true, cond_false, reduceIte, Nat.reduceEqDiff, Nat.reduceAdd, Int.reduceBNe, Int.reduceBEq, Int.reduceLT, Int.reduceLE, Int.reduceEq, evh, evp, Nat.reduceLeDiff, Nat.reduceSub, Nat.reduceBEq, typs, g1, g5, g6, g8, g11, r15, hln] | refine kCond2_by (fun hc => ?_) (fun hc => ?_) <;> try simp only [hc] | refine kPick_by (fun hc => ?_) (fun hc => ?_) <;> try simp only [hc] | refine kWant_by (fun hc => ?_) (fun hc => ?_) <;> try simp only [hc])
        rfl
theorem treeNames_law (W : World) (h : W.ShapedOpen Tryd.prog) {base : Nat} {v0 v1 : Value} (o0 : Value.okWide Tryd.prog W .any base 23 v0) (r0 : RdT Tryd.prog W 23 v0.cells.toList)
    (o1 : Value.okWide Tryd.prog W .any base 5 v1) (r1 : RdT Tryd.prog W 5 v1.cells.toList) :
    Calls Tryd.prog 20 #[v0, v1] W fun e w' => e = .returned (.bool true) ∧ Go.RowKit.Below W.heap.size W w' := by
  obtain ⟨a, len, cap, rfl⟩ := Go.WideShapes.okWide_slice Tryd.underlying23 o0
  obtain ⟨v, v', l, hv, hv2, hva, hs⟩ := strs_in h r0
  have hv1 : v = .slice a len cap := by
    have : (Value.slice a len cap).cells.toList = [.slice a len cap] := rfl
    rw [this] at hv; simpa using hv.symm
  subst hv1
  obtain ⟨c, rfl⟩ := rdU8 r1 o1
  exact open_call (kon_from h) kon_mix (args := [_, _]) (abs := [v', .int .u8 c.toNat]) (by show ((absC W.heap.size (.slice a len cap)).bind _) = _; rw [hva]; rfl) (treeNames_true hs c)
end Go.Proofs.YtncmgiddcefpcaaDoor
