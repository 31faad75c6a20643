/- What a user may, by an access list: acl.Find. -/
import Derived.Test.YtncmgiddcefpcaaGreatDoorConRi
namespace Go.Proofs.YtncmgiddcefpcaaGreatDoor
open Go Go.Ev Go.Con
set_option linter.unusedSimpArgs false
set_option linter.unusedVariables false
set_option maxRecDepth 100000
theorem find_at {l : List Tm} {i : Nat} {x : Tm} {u : ByteArray} (hi : l[i]? = some x) (hx : x.user = u) (hp : ∀ t ∈ l.take i, t.user ≠ u) : l.find? (fun t => decide (t.user = u)) = some x := by
  obtain ⟨h3, rfl⟩ := List.getElem?_eq_some_iff.1 hi
  rw [List.find?_eq_some_iff_getElem]
  refine ⟨decide_eq_true hx, i, h3, rfl, fun j hj => ?_⟩
  have := hp l[j] (List.mem_take_iff_getElem.2 ⟨j, by omega, rfl⟩)
  simpa using this
theorem find_no {l : List Tm} {u : ByteArray} (hp : ∀ t ∈ l, t.user ≠ u) : l.find? (fun t => decide (t.user = u)) = none := by
  rw [List.find?_eq_none]; intro t ht; simpa using hp t ht
theorem take_succ_mem {α : Type} {l : List α} {i : Nat} {x : α} (hi : l[i]? = some x) {p : α → Prop} (hp : ∀ t ∈ l.take i, p t) (hx : p x) : ∀ t ∈ l.take (i + 1), p t := by
  obtain ⟨h3, rfl⟩ := List.getElem?_eq_some_iff.1 hi
  intro t ht
  rw [← List.take_append_getElem h3] at ht
  rcases List.mem_append.1 ht with ht | ht
  · exact hp t ht
  · simp only [List.mem_singleton] at ht; subst ht; exact hx
def flC (f : Fl) : List Value := [.bool f.r, .bool f.w, .bool f.e]
set_option maxHeartbeats 2000000 in
theorem aFind_spec {h : Hp} {v : Value} {l : List Tm} (s : TmSl h v l) (hl : l.length ≤ 1000000000) (u : ByteArray) :
    Meets kon 90 [v, .string u] h fun w h' => w = flV (findF l u) ∧ Keep h h' := by
  refine Meets.mk rfl (by kernel_rfl) Tryz.func90 rfl (congrArg Array.toList Tryz.results90) ?_
  repeat' (first | simp only [evr, nextP_norm, evd, evq, beq_self_eq_true, cond_true, cond_false, reduceIte, Nat.reduceEqDiff, Nat.reduceAdd, Int.reduceBNe, Int.reduceBEq, Int.reduceLT, Int.reduceLE, Int.reduceEq, evh, evp, Nat.reduceLeDiff, Nat.reduceSub, Nat.reduceBEq, typs] | refine kCond2_by (fun hc => ?_) (fun hc => ?_) <;> try simp only [hc] | refine kPick_by (fun hc => ?_) (fun hc => ?_) <;> try simp only [hc] | refine kWant_by (fun hc => ?_) (fun hc => ?_) <;> try simp only [hc])
  generalize hh : h.push _ = h1
  have z1 : h1.get h.next = some (.row [.bool false, .bool false, .bool false] 62 (.rw 0 [])) := by rw [← hh]; exact Hp.get_push_self _ _
  have k1 : Keep h h1 := by rw [← hh]; exact Keep.push _ _
  have n1 : h1.next = h.next + 1 := by rw [← hh]; rfl
  clear hh
  refine callP_meets (aMay_spec (SlAt.keep s k1) hl) ?_
  rintro _ h2 ⟨rfl, k2⟩
  have z2 := (k2.2 h.next (by omega)).trans z1
  have y2 := rowOf_rw z2
  have hn2 := k2.1
  cases hm : listMay l with
  | false =>
    repeat' (first | simp only [evr, nextP_norm, evd, evq, beq_self_eq_true, cond_true, cond_false, reduceIte, Nat.reduceEqDiff, Nat.reduceAdd, Int.reduceBNe, Int.reduceBEq, Int.reduceLT, Int.reduceLE, Int.reduceEq, evh, evp, Nat.reduceLeDiff, Nat.reduceSub, Nat.reduceBEq, typs, z2, y2] | refine kCond2_by (fun hc => ?_) (fun hc => ?_) <;> try simp only [hc] | refine kPick_by (fun hc => ?_) (fun hc => ?_) <;> try simp only [hc] | refine kWant_by (fun hc => ?_) (fun hc => ?_) <;> try simp only [hc])
    refine ⟨?_, (k1.trans k2).set (Nat.le_refl _)⟩
    unfold findF; rw [hm]; rfl
  | true =>
    repeat' (first | simp only [evr, nextP_norm, evd, evq, beq_self_eq_true, cond_true, cond_false, reduceIte, Nat.reduceEqDiff, Nat.reduceAdd, Int.reduceBNe, Int.reduceBEq, Int.reduceLT, Int.reduceLE, Int.reduceEq, evh, evp, Nat.reduceLeDiff, Nat.reduceSub, Nat.reduceBEq, typs] | refine kCond2_by (fun hc => ?_) (fun hc => ?_) <;> try simp only [hc] | refine kPick_by (fun hc => ?_) (fun hc => ?_) <;> try simp only [hc] | refine kWant_by (fun hc => ?_) (fun hc => ?_) <;> try simp only [hc])
    generalize hh : h2.push _ = h3
    have k3 : Keep h h3 := by rw [← hh]; exact (k1.trans k2).pushed
    have z3 : h3.get h.next = some (.row [.bool false, .bool false, .bool false] 62 (.rw 0 [])) := by rw [← hh, Hp.get_push_lt (by omega)]; exact z2
    have x3 : h3.get h2.next = some (.row [.string u, .string (ByteArray.mk #[42])] 9 (.rw 0 [])) := by rw [← hh]; exact Hp.get_push_self _ _
    have n3 : h3.next = h2.next + 1 := by rw [← hh]; rfl
    clear hh
    have s3 : TmSl h3 v l := SlAt.keep s k3
    have la := s3.len
    have y3 := rowOf_rw x3
    refine Wp_loop (fun k fr h' => Keep h3 h' ∧ ∃ i : Nat, k = 2 - i ∧ i ≤ 2 ∧ fr.get 0 = some v ∧ fr.get 4 = some (.pointer (some ⟨h.next, 0, none⟩)) ∧ fr.get 14 = some (.slice (some ⟨h2.next, 0, none⟩) 2 4) ∧ fr.get 15 = some (.int .i64 2) ∧ fr.get 16 = some (.int .i64 i) ∧
      (0 < i → ∀ t ∈ l, t.user ≠ u) ∧ (1 < i → ∀ t ∈ l, t.user ≠ star)) 2 ⟨Keep.refl _, 0, rfl, Nat.zero_le _, ?_, ?_, ?_, ?_, ?_, fun h => absurd h (by omega), fun h => absurd h (by omega)⟩ ?_
    · repeat' (first | simp only [evr, nextP_norm, evd, evq, beq_self_eq_true, cond_true, cond_false, reduceIte, Nat.reduceEqDiff, Nat.reduceAdd, Int.reduceBNe, Int.reduceBEq, Int.reduceLT, Int.reduceLE, Int.reduceEq, evh, evp, Nat.reduceLeDiff, Nat.reduceSub, Nat.reduceBEq, typs] | refine kCond2_by (fun hc => ?_) (fun hc => ?_) <;> try simp only [hc] | refine kPick_by (fun hc => ?_) (fun hc => ?_) <;> try simp only [hc] | refine kWant_by (fun hc => ?_) (fun hc => ?_) <;> try simp only [hc])
    · repeat' (first | simp only [evr, nextP_norm, evd, evq, beq_self_eq_true, cond_true, cond_false, reduceIte, Nat.reduceEqDiff, Nat.reduceAdd, Int.reduceBNe, Int.reduceBEq, Int.reduceLT, Int.reduceLE, Int.reduceEq, evh, evp, Nat.reduceLeDiff, Nat.reduceSub, Nat.reduceBEq, typs] | refine kCond2_by (fun hc => ?_) (fun hc => ?_) <;> try simp only [hc] | refine kPick_by (fun hc => ?_) (fun hc => ?_) <;> try simp only [hc] | refine kWant_by (fun hc => ?_) (fun hc => ?_) <;> try simp only [hc])
    · repeat' (first | simp only [evr, nextP_norm, evd, evq, beq_self_eq_true, cond_true, cond_false, reduceIte, Nat.reduceEqDiff, Nat.reduceAdd, Int.reduceBNe, Int.reduceBEq, Int.reduceLT, Int.reduceLE, Int.reduceEq, evh, evp, Nat.reduceLeDiff, Nat.reduceSub, Nat.reduceBEq, typs] | refine kCond2_by (fun hc => ?_) (fun hc => ?_) <;> try simp only [hc] | refine kPick_by (fun hc => ?_) (fun hc => ?_) <;> try simp only [hc] | refine kWant_by (fun hc => ?_) (fun hc => ?_) <;> try simp only [hc])
    · repeat' (first | simp only [evr, nextP_norm, evd, evq, beq_self_eq_true, cond_true, cond_false, reduceIte, Nat.reduceEqDiff, Nat.reduceAdd, Int.reduceBNe, Int.reduceBEq, Int.reduceLT, Int.reduceLE, Int.reduceEq, evh, evp, Nat.reduceLeDiff, Nat.reduceSub, Nat.reduceBEq, typs] | refine kCond2_by (fun hc => ?_) (fun hc => ?_) <;> try simp only [hc] | refine kPick_by (fun hc => ?_) (fun hc => ?_) <;> try simp only [hc] | refine kWant_by (fun hc => ?_) (fun hc => ?_) <;> try simp only [hc])
      rfl
    · repeat' (first | simp only [evr, nextP_norm, evd, evq, beq_self_eq_true, cond_true, cond_false, reduceIte, Nat.reduceEqDiff, Nat.reduceAdd, Int.reduceBNe, Int.reduceBEq, Int.reduceLT, Int.reduceLE, Int.reduceEq, evh, evp, Nat.reduceLeDiff, Nat.reduceSub, Nat.reduceBEq, typs] | refine kCond2_by (fun hc => ?_) (fun hc => ?_) <;> try simp only [hc] | refine kPick_by (fun hc => ?_) (fun hc => ?_) <;> try simp only [hc] | refine kWant_by (fun hc => ?_) (fun hc => ?_) <;> try simp only [hc])
      rfl
    rintro k fr h' ⟨hk, i, rfl, hi, g0, g4, g14, g15, g16, p0, p1⟩
    have hkn := hk.1
    have z4 := (hk.2 h.next (by omega)).trans z3
    have y4 := (hk.row (show h2.next < h3.next by omega)).trans y3
    by_cases h2i : i = 2
    · subst h2i
      have e1 : decide (((2 : Nat) : Int) < 2) = false := rfl
      repeat' (first | simp only [evr, nextP_norm, evd, evq, beq_self_eq_true, cond_true, cond_false, reduceIte, Nat.reduceEqDiff, Nat.reduceAdd, Int.reduceBNe, Int.reduceBEq, Int.reduceLT, Int.reduceLE, Int.reduceEq, evh, evp, Nat.reduceLeDiff, Nat.reduceSub, Nat.reduceBEq, typs, e1, g0, g4, g14, g15, g16, z4, rowOf_rw z4] | refine kCond2_by (fun hc => ?_) (fun hc => ?_) <;> try simp only [hc] | refine kPick_by (fun hc => ?_) (fun hc => ?_) <;> try simp only [hc] | refine kWant_by (fun hc => ?_) (fun hc => ?_) <;> try simp only [hc])
      refine ⟨?_, (k3.trans hk).set (Nat.le_refl _)⟩
      unfold findF
      rw [hm, find_no (p0 (by omega)), find_no (p1 (by omega))]; rfl
    · have hlt : i < 2 := by omega
      have e1 : decide ((i : Int) < 2) = true := decide_eq_true (by omega)
      obtain ⟨nm, hnm, hrow⟩ : ∃ nm, nm = (if i = 0 then u else star) ∧ [Value.string u, Value.string (ByteArray.mk #[42])][i]? = some (.string nm) := by
        rcases (show i = 0 ∨ i = 1 by omega) with rfl | rfl
        · exact ⟨_, rfl, rfl⟩
        · exact ⟨_, rfl, rfl⟩
      have w2 := wrap64 (x := (i : Int) + 1) (by omega) (by omega)
      have hia : evIndexAddr kon.P 46 (.slice (some ⟨h2.next, 0, none⟩) 2 4) (.int .i64 i) = some (.pointer (some ⟨h2.next, i, none⟩)) := by
        have := L_indexAddr (C := kon) (t := 46) (e := 9) (n := 1) (by kernel_rfl) (by kernel_rfl) h2.next 0 2 4 .i64 i (by omega) (by omega)
        simpa using this
      repeat' (first | simp only [evr, nextP_norm, evd, evq, beq_self_eq_true, cond_true, cond_false, reduceIte, Nat.reduceEqDiff, Nat.reduceAdd, Int.reduceBNe, Int.reduceBEq, Int.reduceLT, Int.reduceLE, Int.reduceEq, evh, evp, Nat.reduceLeDiff, Nat.reduceSub, Nat.reduceBEq, typs, g0, g4, g14, g15, g16, e1, y4, hrow, la, hia] | refine kCond2_by (fun hc => ?_) (fun hc => ?_) <;> try simp only [hc] | refine kPick_by (fun hc => ?_) (fun hc => ?_) <;> try simp only [hc] | refine kWant_by (fun hc => ?_) (fun hc => ?_) <;> try simp only [hc])
      refine Wp_loop (fun k fr h'' => Keep h3 h'' ∧ ∃ j : Nat, k = l.length - j ∧ j ≤ l.length ∧ fr.get 0 = some v ∧ fr.get 4 = some (.pointer (some ⟨h.next, 0, none⟩)) ∧ fr.get 14 = some (.slice (some ⟨h2.next, 0, none⟩) 2 4) ∧ fr.get 15 = some (.int .i64 2) ∧ fr.get 16 = some (.int .i64 i) ∧
        fr.get 6 = some (.string nm) ∧ fr.get 20 = some v ∧ fr.get 21 = some (.int .i64 l.length) ∧ fr.get 22 = some (.int .i64 j) ∧ ∀ t ∈ l.take j, t.user ≠ nm) l.length ⟨hk, 0, rfl, Nat.zero_le _, ?_, ?_, ?_, ?_, ?_, ?_, ?_, ?_, ?_, by simp⟩ ?_
      · repeat' (first | simp only [evr, nextP_norm, evd, evq, beq_self_eq_true, cond_true, cond_false, reduceIte, Nat.reduceEqDiff, Nat.reduceAdd, Int.reduceBNe, Int.reduceBEq, Int.reduceLT, Int.reduceLE, Int.reduceEq, evh, evp, Nat.reduceLeDiff, Nat.reduceSub, Nat.reduceBEq, typs, g0] | refine kCond2_by (fun hc => ?_) (fun hc => ?_) <;> try simp only [hc] | refine kPick_by (fun hc => ?_) (fun hc => ?_) <;> try simp only [hc] | refine kWant_by (fun hc => ?_) (fun hc => ?_) <;> try simp only [hc])
      · repeat' (first | simp only [evr, nextP_norm, evd, evq, beq_self_eq_true, cond_true, cond_false, reduceIte, Nat.reduceEqDiff, Nat.reduceAdd, Int.reduceBNe, Int.reduceBEq, Int.reduceLT, Int.reduceLE, Int.reduceEq, evh, evp, Nat.reduceLeDiff, Nat.reduceSub, Nat.reduceBEq, typs, g4] | refine kCond2_by (fun hc => ?_) (fun hc => ?_) <;> try simp only [hc] | refine kPick_by (fun hc => ?_) (fun hc => ?_) <;> try simp only [hc] | refine kWant_by (fun hc => ?_) (fun hc => ?_) <;> try simp only [hc])
      · repeat' (first | simp only [evr, nextP_norm, evd, evq, beq_self_eq_true, cond_true, cond_false, reduceIte, Nat.reduceEqDiff, Nat.reduceAdd, Int.reduceBNe, Int.reduceBEq, Int.reduceLT, Int.reduceLE, Int.reduceEq, evh, evp, Nat.reduceLeDiff, Nat.reduceSub, Nat.reduceBEq, typs, g14] | refine kCond2_by (fun hc => ?_) (fun hc => ?_) <;> try simp only [hc] | refine kPick_by (fun hc => ?_) (fun hc => ?_) <;> try simp only [hc] | refine kWant_by (fun hc => ?_) (fun hc => ?_) <;> try simp only [hc])
      · repeat' (first | simp only [evr, nextP_norm, evd, evq, beq_self_eq_true, cond_true, cond_false, reduceIte, Nat.reduceEqDiff, Nat.reduceAdd, Int.reduceBNe, Int.reduceBEq, Int.reduceLT, Int.reduceLE, Int.reduceEq, evh, evp, Nat.reduceLeDiff, Nat.reduceSub, Nat.reduceBEq, typs, g15] | refine kCond2_by (fun hc => ?_) (fun hc => ?_) <;> try simp only [hc] | refine kPick_by (fun hc => ?_) (fun hc => ?_) <;> try simp only [hc] | refine kWant_by (fun hc => ?_) (fun hc => ?_) <;> try simp only [hc])
      · repeat' (first | simp only [evr, nextP_norm, evd, evq, beq_self_eq_true, cond_true, cond_false, reduceIte, Nat.reduceEqDiff, Nat.reduceAdd, Int.reduceBNe, Int.reduceBEq, Int.reduceLT, Int.reduceLE, Int.reduceEq, evh, evp, Nat.reduceLeDiff, Nat.reduceSub, Nat.reduceBEq, typs, g16] | refine kCond2_by (fun hc => ?_) (fun hc => ?_) <;> try simp only [hc] | refine kPick_by (fun hc => ?_) (fun hc => ?_) <;> try simp only [hc] | refine kWant_by (fun hc => ?_) (fun hc => ?_) <;> try simp only [hc])
      · repeat' (first | simp only [evr, nextP_norm, evd, evq, beq_self_eq_true, cond_true, cond_false, reduceIte, Nat.reduceEqDiff, Nat.reduceAdd, Int.reduceBNe, Int.reduceBEq, Int.reduceLT, Int.reduceLE, Int.reduceEq, evh, evp, Nat.reduceLeDiff, Nat.reduceSub, Nat.reduceBEq, typs] | refine kCond2_by (fun hc => ?_) (fun hc => ?_) <;> try simp only [hc] | refine kPick_by (fun hc => ?_) (fun hc => ?_) <;> try simp only [hc] | refine kWant_by (fun hc => ?_) (fun hc => ?_) <;> try simp only [hc])
      · repeat' (first | simp only [evr, nextP_norm, evd, evq, beq_self_eq_true, cond_true, cond_false, reduceIte, Nat.reduceEqDiff, Nat.reduceAdd, Int.reduceBNe, Int.reduceBEq, Int.reduceLT, Int.reduceLE, Int.reduceEq, evh, evp, Nat.reduceLeDiff, Nat.reduceSub, Nat.reduceBEq, typs] | refine kCond2_by (fun hc => ?_) (fun hc => ?_) <;> try simp only [hc] | refine kPick_by (fun hc => ?_) (fun hc => ?_) <;> try simp only [hc] | refine kWant_by (fun hc => ?_) (fun hc => ?_) <;> try simp only [hc])
      · repeat' (first | simp only [evr, nextP_norm, evd, evq, beq_self_eq_true, cond_true, cond_false, reduceIte, Nat.reduceEqDiff, Nat.reduceAdd, Int.reduceBNe, Int.reduceBEq, Int.reduceLT, Int.reduceLE, Int.reduceEq, evh, evp, Nat.reduceLeDiff, Nat.reduceSub, Nat.reduceBEq, typs] | refine kCond2_by (fun hc => ?_) (fun hc => ?_) <;> try simp only [hc] | refine kPick_by (fun hc => ?_) (fun hc => ?_) <;> try simp only [hc] | refine kWant_by (fun hc => ?_) (fun hc => ?_) <;> try simp only [hc])
      · repeat' (first | simp only [evr, nextP_norm, evd, evq, beq_self_eq_true, cond_true, cond_false, reduceIte, Nat.reduceEqDiff, Nat.reduceAdd, Int.reduceBNe, Int.reduceBEq, Int.reduceLT, Int.reduceLE, Int.reduceEq, evh, evp, Nat.reduceLeDiff, Nat.reduceSub, Nat.reduceBEq, typs] | refine kCond2_by (fun hc => ?_) (fun hc => ?_) <;> try simp only [hc] | refine kPick_by (fun hc => ?_) (fun hc => ?_) <;> try simp only [hc] | refine kWant_by (fun hc => ?_) (fun hc => ?_) <;> try simp only [hc])
        rfl
      rintro k fr h'' ⟨hk', j, rfl, hj, g0, g4, g14, g15, g16, g6, g20, g21, g22, hp⟩
      have hkn' := hk'.1
      by_cases h3j : j < l.length
      · have e3 : decide ((j : Int) < l.length) = true := by simp; omega
        obtain ⟨x, hx⟩ : ∃ x, l[j]? = some x := ⟨_, List.getElem?_eq_getElem h3j⟩
        obtain ⟨p, ha, hld⟩ := TmSl.load (SlAt.keep s3 hk') hx
        unfold tmV at hld
        have w1 := wrap64 (x := (j : Int) + 1) (by omega) (by omega)
        have z5 := (hk'.2 h.next (by omega)).trans z3
        have y5 := rowOf_rw z5
        by_cases hxu : x.user = nm
        · have e4 : decide (x.user = nm) = true := decide_eq_true hxu
          have e5 : (h.next = h''.next) = False := eq_false (by omega)
          repeat' (first | simp only [evr, nextP_norm, evd, evq, beq_self_eq_true, cond_true, cond_false, reduceIte, Nat.reduceEqDiff, Nat.reduceAdd, Int.reduceBNe, Int.reduceBEq, Int.reduceLT, Int.reduceLE, Int.reduceEq, evh, evp, Nat.reduceLeDiff, Nat.reduceSub, Nat.reduceBEq, typs, g0, g4, g6, g20, g21, g22, e3, ha, hld, e4, z5, y5, e5, if_false] | refine kCond2_by (fun hc => ?_) (fun hc => ?_) <;> try simp only [hc] | refine kPick_by (fun hc => ?_) (fun hc => ?_) <;> try simp only [hc] | refine kWant_by (fun hc => ?_) (fun hc => ?_) <;> try simp only [hc])
          refine ⟨?_, ((((k3.trans hk').pushed).set (by omega)).set (Nat.le_refl _))⟩
          unfold findF
          rw [hm]
          have hf := find_at hx hxu hp
          by_cases hi0 : i = 0
          · have : nm = u := by rw [hnm, if_pos hi0]
            subst this
            rw [hf]; rfl
          · have : nm = star := by rw [hnm, if_neg hi0]
            subst this
            rw [find_no (p0 (by omega)), hf]; rfl
        · have e4 : decide (x.user = nm) = false := decide_eq_false hxu
          repeat' (first | simp only [evr, nextP_norm, evd, evq, beq_self_eq_true, cond_true, cond_false, reduceIte, Nat.reduceEqDiff, Nat.reduceAdd, Int.reduceBNe, Int.reduceBEq, Int.reduceLT, Int.reduceLE, Int.reduceEq, evh, evp, Nat.reduceLeDiff, Nat.reduceSub, Nat.reduceBEq, typs, g0, g4, g14, g15, g16, g6, g20, g21, g22, e3, ha, hld, e4, w1] | refine kCond2_by (fun hc => ?_) (fun hc => ?_) <;> try simp only [hc] | refine kPick_by (fun hc => ?_) (fun hc => ?_) <;> try simp only [hc] | refine kWant_by (fun hc => ?_) (fun hc => ?_) <;> try simp only [hc])
          exact ⟨l.length - (j + 1), by omega, (hk'.pushed).set (by omega), j + 1, rfl, by omega, rfl, take_succ_mem hx hp hxu⟩
      · have e3 : decide ((j : Int) < l.length) = false := by simp; omega
        have hj2 : j = l.length := by omega
        subst hj2
        rw [List.take_length] at hp
        repeat' (first | simp only [evr, nextP_norm, evd, evq, beq_self_eq_true, cond_true, cond_false, reduceIte, Nat.reduceEqDiff, Nat.reduceAdd, Int.reduceBNe, Int.reduceBEq, Int.reduceLT, Int.reduceLE, Int.reduceEq, evh, evp, Nat.reduceLeDiff, Nat.reduceSub, Nat.reduceBEq, typs, g0, g4, g14, g15, g16, g6, g20, g21, g22, e3, w2] | refine kCond2_by (fun hc => ?_) (fun hc => ?_) <;> try simp only [hc] | refine kPick_by (fun hc => ?_) (fun hc => ?_) <;> try simp only [hc] | refine kWant_by (fun hc => ?_) (fun hc => ?_) <;> try simp only [hc])
        refine ⟨2 - (i + 1), by omega, hk', i + 1, rfl, by omega, rfl, fun _ => ?_, fun _ => ?_⟩
        · by_cases hi0 : i = 0
          · have : nm = u := by rw [hnm, if_pos hi0]
            subst this; exact hp
          · exact p0 (by omega)
        · have : nm = star := by rw [hnm, if_neg (by omega)]
          subst this; exact hp
end Go.Proofs.YtncmgiddcefpcaaGreatDoor
