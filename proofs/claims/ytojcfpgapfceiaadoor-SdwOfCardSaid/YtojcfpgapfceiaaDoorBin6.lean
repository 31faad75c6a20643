/- Texts joined: what the claim needs of them. No condition. -/
import Derived.Test.YtojcfpgapfceiaaDoorBin5
import Derived.Test.YtojcfpgapfceiaaDoorBin4
namespace Go.Proofs.YtojcfpgapfceiaaDoor
open Go Go.Ev Go.Con
set_option linter.unusedSimpArgs false
set_option linter.unusedVariables false
set_option maxRecDepth 100000
theorem find_at {l : List Tm} {i : Nat} {x : Tm} {u : ByteArray} (hi : l[i]? = some x) (hx : x.user = u) (hp : ∀ t ∈ l.take i, t.user ≠ u) : l.find? (fun t => decide (t.user = u)) = some x := by
  obtain ⟨h3, rfl⟩ := List.getElem?_eq_some_iff.1 hi
  rw [List.find?_eq_some_iff_getElem]
  refine ⟨decide_eq_true hx, i, h3, rfl, fun j hj => ?_⟩
  have := hp l[j] (List.mem_take_iff_getElem.2 ⟨j, by omega, rfl⟩)
  simpa using this
theorem find_no {l : List Tm} {u : ByteArray} (hp : ∀ t ∈ l, t.user ≠ u) : l.find? (fun t => decide (t.user = u)) = none := by
  rw [List.find?_eq_none]; intro t ht; simpa using hp t ht
theorem take_succ_mem {α : Type} {l : List α} {i : Nat} {x : α} (hi : l[i]? = some x) {p : α → Prop} (hp : ∀ t ∈ l.take i, p t) (hx : p x) : ∀ t ∈ l.take (i + 1), p t := by
  obtain ⟨h3, rfl⟩ := List.getElem?_eq_some_iff.1 hi
  intro t ht
  rw [← List.take_append_getElem h3] at ht
  rcases List.mem_append.1 ht with ht | ht
  · exact hp t ht
  · simp only [List.mem_singleton] at ht; subst ht; exact hx
def flC (f : Fl) : List Value := [.bool f.r, .bool f.w, .bool f.e]
set_option maxHeartbeats 2000000 in
theorem aFind_spec {h : Hp} {v : Value} {l : List Tm} (s : TmSl h v l) (hl : l.length ≤ 1000000000) (u : ByteArray) :
    Meets kon 27 [v, .string u] h fun w h' => w = flV (findF l u) ∧ Keep h h' := by
  refine Meets.mk rfl (by kernel_rfl) Tryd.func27 rfl (congrArg Array.toList Tryd.results27) ?_
  repeat' (first | simp only [evr, nextP_norm, evd, evq, beq_self_eq_true, cond_true, cond_false, reduceIte, Nat.reduceEqDiff, Nat.reduceAdd, Int.reduceBNe, Int.reduceBEq, Int.reduceLT, Int.reduceLE, Int.reduceEq, evh, evp, Nat.reduceLeDiff, Nat.reduceSub, Nat.reduceBEq, typs] | refine kCond2_by (fun hc => ?_) (fun hc => ?_) <;> try simp only [hc] | refine kPick_by (fun hc => ?_) (fun hc => ?_) <;> try simp only [hc] | refine kWant_by (fun hc => ?_) (fun hc => ?_) <;> try simp only [hc])
  generalize hh : h.push _ = h1
  have z1 : h1.get h.next = some (.row [.bool false, .bool false, .bool false] 39 (.rw 0 [])) := by rw [← hh]; exact Hp.get_push_self _ _
  have k1 : Keep h h1 := by rw [← hh]; exact Keep.push _ _
  have n1 : h1.next = h.next + 1 := by rw [← hh]; rfl
  clear hh
  refine callP_meets (aMay_spec (SlAt.keep s k1) hl) ?_
  rintro _ h2 ⟨rfl, k2⟩
  have z2 := (k2.2 h.next (by omega)).trans z1
  have y2 := rowOf_rw z2
  have hn2 := k2.1
  cases hm : listMay l with
  | false =>
    repeat' (first | simp only [evr, nextP_norm, evd, evq, beq_self_eq_true, cond_true, cond_false, reduceIte, Nat.reduceEqDiff, Nat.reduceAdd, Int.reduceBNe, Int.reduceBEq, Int.reduceLT, Int.reduceLE, Int.reduceEq, evh, evp, Nat.reduceLeDiff, Nat.reduceSub, Nat.reduceBEq, typs, z2, y2] | refine kCond2_by (fun hc => ?_) (fun hc => ?_) <;> try simp only [hc] | refine kPick_by (fun hc => ?_) (fun hc => ?_) <;> try simp only [hc] | refine kWant_by (fun hc => ?_) (fun hc => ?_) <;> try simp only [hc])
    refine ⟨?_, (k1.trans k2).set (Nat.le_refl _)⟩
    unfold findF; rw [hm]; rfl
  | true =>
    repeat' (first | simp only [evr, nextP_norm, evd, evq, beq_self_eq_true, cond_true, cond_false, reduceIte, Nat.reduceEqDiff, Nat.reduceAdd, Int.reduceBNe, Int.reduceBEq, Int.reduceLT, Int.reduceLE, Int.reduceEq, evh, evp, Nat.reduceLeDiff, Nat.reduceSub, Nat.reduceBEq, typs] | refine kCond2_by (fun hc => ?_) (fun hc => ?_) <;> try simp only [hc] | refine kPick_by (fun hc => ?_) (fun hc => ?_) <;> try simp only [hc] | refine kWant_by (fun hc => ?_) (fun hc => ?_) <;> try simp only [hc])
    generalize hh : h2.push _ = h3
    have k3 : Keep h h3 := by rw [← hh]; exact (k1.trans k2).pushed
    have z3 : h3.get h.next = some (.row [.bool false, .bool false, .bool false] 39 (.rw 0 [])) := by rw [← hh, Hp.get_push_lt (by omega)]; exact z2
    have x3 : h3.get h2.next = some (.row [.string u, .string (ByteArray.mk #[42])] 9 (.rw 0 [])) := by rw [← hh]; exact Hp.get_push_self _ _
    have n3 : h3.next = h2.next + 1 := by rw [← hh]; rfl
    clear hh
    have s3 : TmSl h3 v l := SlAt.keep s k3
    have la := s3.len
    have y3 := rowOf_rw x3
    refine Wp_loop (fun k fr h' => Keep h3 h' ∧ ∃ i : Nat, k = 2 - i ∧ i ≤ 2 ∧ fr.get 0 = some v ∧ fr.get 4 = some (.pointer (some ⟨h.next, 0, none⟩)) ∧ fr.get 14 = some (.slice (some ⟨h2.next, 0, none⟩) 2 4) ∧ fr.get 15 = some (.int .i64 2) ∧ fr.get 16 = some (.int .i64 i) ∧
      (0 < i → ∀ t ∈ l, t.user ≠ u) ∧ (1 < i → ∀ t ∈ l, t.user ≠ star)) 2 ⟨Keep.refl _, 0, rfl, Nat.zero_le _, ?_, ?_, ?_, ?_, ?_, fun h => absurd h (by omega), fun h => absurd h (by omega)⟩ ?_
    · repeat' (first | simp only [evr, nextP_norm, evd, evq, beq_self_eq_true, cond_true, cond_false, reduceIte, Nat.reduceEqDiff, Nat.reduceAdd, Int.reduceBNe, Int.reduceBEq, Int.reduceLT, Int.reduceLE, Int.reduceEq, evh, evp, Nat.reduceLeDiff, Nat.reduceSub, Nat.reduceBEq, typs] | refine kCond2_by (fun hc => ?_) (fun hc => ?_) <;> try simp only [hc] | refine kPick_by (fun hc => ?_) (fun hc => ?_) <;> try simp only [hc] | refine kWant_by (fun hc => ?_) (fun hc => ?_) <;> try simp only [hc])
    · repeat' (first | simp only [evr, nextP_norm, evd, evq, beq_self_eq_true, cond_true, cond_false, reduceIte, Nat.reduceEqDiff, Nat.reduceAdd, Int.reduceBNe, Int.reduceBEq, Int.reduceLT, Int.reduceLE, Int.reduceEq, evh, evp, Nat.reduceLeDiff, Nat.reduceSub, Nat.reduceBEq, typs] | refine kCond2_by (fun hc => ?_) (fun hc => ?_) <;> try simp only [hc] | refine kPick_by (fun hc => ?_) (fun hc => ?_) <;> try simp only [hc] | refine kWant_by (fun hc => ?_) (fun hc => ?_) <;> try simp only [hc])
    · repeat' (first | simp only [evr, nextP_norm, evd, evq, beq_self_eq_true, cond_true, cond_false, reduceIte, Nat.reduceEqDiff, Nat.reduceAdd, Int.reduceBNe, Int.reduceBEq, Int.reduceLT, Int.reduceLE, Int.reduceEq, evh, evp, Nat.reduceLeDiff, Nat.reduceSub, Nat.reduceBEq, typs] | refine kCond2_by (fun hc => ?_) (fun hc => ?_) <;> try simp only [hc] | refine kPick_by (fun hc => ?_) (fun hc => ?_) <;> try simp only [hc] | refine kWant_by (fun hc => ?_) (fun hc => ?_) <;> try simp only [hc])
    · repeat' (first | simp only [evr, nextP_norm, evd, evq, beq_self_eq_true, cond_true, cond_false, reduceIte, Nat.reduceEqDiff, Nat.reduceAdd, Int.reduceBNe, Int.reduceBEq, Int.reduceLT, Int.reduceLE, Int.reduceEq, evh, evp, Nat.reduceLeDiff, Nat.reduceSub, Nat.reduceBEq, typs] | refine kCond2_by (fun hc => ?_) (fun hc => ?_) <;> try simp only [hc] | refine kPick_by (fun hc => ?_) (fun hc => ?_) <;> try simp only [hc] | refine kWant_by (fun hc => ?_) (fun hc => ?_) <;> try simp only [hc])
      rfl
    · repeat' (first | simp only [evr, nextP_norm, evd, evq, beq_self_eq_true, cond_true, cond_false, reduceIte, Nat.reduceEqDiff, Nat.reduceAdd, Int.reduceBNe, Int.reduceBEq, Int.reduceLT, Int.reduceLE, Int.reduceEq, evh, evp, Nat.reduceLeDiff, Nat.reduceSub, Nat.reduceBEq, typs] | refine kCond2_by (fun hc => ?_) (fun hc => ?_) <;> try simp only [hc] | refine kPick_by (fun hc => ?_) (fun hc => ?_) <;> try simp only [hc] | refine kWant_by (fun hc => ?_) (fun hc => ?_) <;> try simp only [hc])
      rfl
    rintro k fr h' ⟨hk, i, rfl, hi, g0, g4, g14, g15, g16, p0, p1⟩
    have hkn := hk.1
    have z4 := (hk.2 h.next (by omega)).trans z3
    have y4 := (hk.row (show h2.next < h3.next by omega)).trans y3
    by_cases h2i : i = 2
    · subst h2i
      have e1 : decide (((2 : Nat) : Int) < 2) = false := rfl
      repeat' (first | simp only [evr, nextP_norm, evd, evq, beq_self_eq_true, cond_true, cond_false, reduceIte, Nat.reduceEqDiff, Nat.reduceAdd, Int.reduceBNe, Int.reduceBEq, Int.reduceLT, Int.reduceLE, Int.reduceEq, evh, evp, Nat.reduceLeDiff, Nat.reduceSub, Nat.reduceBEq, typs, e1, g0, g4, g14, g15, g16, z4, rowOf_rw z4] | refine kCond2_by (fun hc => ?_) (fun hc => ?_) <;> try simp only [hc] | refine kPick_by (fun hc => ?_) (fun hc => ?_) <;> try simp only [hc] | refine kWant_by (fun hc => ?_) (fun hc => ?_) <;> try simp only [hc])
      refine ⟨?_, (k3.trans hk).set (Nat.le_refl _)⟩
      unfold findF
      rw [hm, find_no (p0 (by omega)), find_no (p1 (by omega))]; rfl
    · have hlt : i < 2 := by omega
      have e1 : decide ((i : Int) < 2) = true := decide_eq_true (by omega)
      obtain ⟨nm, hnm, hrow⟩ : ∃ nm, nm = (if i = 0 then u else star) ∧ [Value.string u, Value.string (ByteArray.mk #[42])][i]? = some (.string nm) := by
        rcases (show i = 0 ∨ i = 1 by omega) with rfl | rfl
        · exact ⟨_, rfl, rfl⟩
        · exact ⟨_, rfl, rfl⟩
      have w2 := wrap64 (x := (i : Int) + 1) (by omega) (by omega)
      have hia : evIndexAddr kon.P 44 (.slice (some ⟨h2.next, 0, none⟩) 2 4) (.int .i64 i) = some (.pointer (some ⟨h2.next, i, none⟩)) := by
        have := L_indexAddr (C := kon) (t := 44) (e := 9) (n := 1) (by kernel_rfl) (by kernel_rfl) h2.next 0 2 4 .i64 i (by omega) (by omega)
        simpa using this
      repeat' (first | simp only [evr, nextP_norm, evd, evq, beq_self_eq_true, cond_true, cond_false, reduceIte, Nat.reduceEqDiff, Nat.reduceAdd, Int.reduceBNe, Int.reduceBEq, Int.reduceLT, Int.reduceLE, Int.reduceEq, evh, evp, Nat.reduceLeDiff, Nat.reduceSub, Nat.reduceBEq, typs, g0, g4, g14, g15, g16, e1, y4, hrow, la, hia] | refine kCond2_by (fun hc => ?_) (fun hc => ?_) <;> try simp only [hc] | refine kPick_by (fun hc => ?_) (fun hc => ?_) <;> try simp only [hc] | refine kWant_by (fun hc => ?_) (fun hc => ?_) <;> try simp only [hc])
      refine Wp_loop (fun k fr h'' => Keep h3 h'' ∧ ∃ j : Nat, k = l.length - j ∧ j ≤ l.length ∧ fr.get 0 = some v ∧ fr.get 4 = some (.pointer (some ⟨h.next, 0, none⟩)) ∧ fr.get 14 = some (.slice (some ⟨h2.next, 0, none⟩) 2 4) ∧ fr.get 15 = some (.int .i64 2) ∧ fr.get 16 = some (.int .i64 i) ∧
        fr.get 6 = some (.string nm) ∧ fr.get 20 = some v ∧ fr.get 21 = some (.int .i64 l.length) ∧ fr.get 22 = some (.int .i64 j) ∧ ∀ t ∈ l.take j, t.user ≠ nm) l.length ⟨hk, 0, rfl, Nat.zero_le _, ?_, ?_, ?_, ?_, ?_, ?_, ?_, ?_, ?_, by simp⟩ ?_
      · repeat' (first | simp only [evr, nextP_norm, evd, evq, beq_self_eq_true, cond_true, cond_false, reduceIte, Nat.reduceEqDiff, Nat.reduceAdd, Int.reduceBNe, Int.reduceBEq, Int.reduceLT, Int.reduceLE, Int.reduceEq, evh, evp, Nat.reduceLeDiff, Nat.reduceSub, Nat.reduceBEq, typs, g0] | refine kCond2_by (fun hc => ?_) (fun hc => ?_) <;> try simp only [hc] | refine kPick_by (fun hc => ?_) (fun hc => ?_) <;> try simp only [hc] | refine kWant_by (fun hc => ?_) (fun hc => ?_) <;> try simp only [hc])
      · repeat' (first | simp only [evr, nextP_norm, evd, evq, beq_self_eq_true, cond_true, cond_false, reduceIte, Nat.reduceEqDiff, Nat.reduceAdd, Int.reduceBNe, Int.reduceBEq, Int.reduceLT, Int.reduceLE, Int.reduceEq, evh, evp, Nat.reduceLeDiff, Nat.reduceSub, Nat.reduceBEq, typs, g4] | refine kCond2_by (fun hc => ?_) (fun hc => ?_) <;> try simp only [hc] | refine kPick_by (fun hc => ?_) (fun hc => ?_) <;> try simp only [hc] | refine kWant_by (fun hc => ?_) (fun hc => ?_) <;> try simp only [hc])
      · repeat' (first | simp only [evr, nextP_norm, evd, evq, beq_self_eq_true, cond_true, cond_false, reduceIte, Nat.reduceEqDiff, Nat.reduceAdd, Int.reduceBNe, Int.reduceBEq, Int.reduceLT, Int.reduceLE, Int.reduceEq, evh, evp, Nat.reduceLeDiff, Nat.reduceSub, Nat.reduceBEq, typs, g14] | refine kCond2_by (fun hc => ?_) (fun hc => ?_) <;> try simp only [hc] | refine kPick_by (fun hc => ?_) (fun hc => ?_) <;> try simp only [hc] | refine kWant_by (fun hc => ?_) (fun hc => ?_) <;> try simp only [hc])
      · repeat' (first | simp only [evr, nextP_norm, evd, evq, beq_self_eq_true, cond_true, cond_false, reduceIte, Nat.reduceEqDiff, Nat.reduceAdd, Int.reduceBNe, Int.reduceBEq, Int.reduceLT, Int.reduceLE, Int.reduceEq, evh, evp, Nat.reduceLeDiff, Nat.reduceSub, Nat.reduceBEq, typs, g15] | refine kCond2_by (fun hc => ?_) (fun hc => ?_) <;> try simp only [hc] | refine kPick_by (fun hc => ?_) (fun hc => ?_) <;> try simp only [hc] | refine kWant_by (fun hc => ?_) (fun hc => ?_) <;> try simp only [hc])
      · repeat' (first | simp only [evr, nextP_norm, evd, evq, beq_self_eq_true, cond_true, cond_false, reduceIte, Nat.reduceEqDiff, Nat.reduceAdd, Int.reduceBNe, Int.reduceBEq, Int.reduceLT, Int.reduceLE, Int.reduceEq, evh, evp, Nat.reduceLeDiff, Nat.reduceSub, Nat.reduceBEq, typs, g16] | refine kCond2_by (fun hc => ?_) (fun hc => ?_) <;> try simp only [hc] | refine kPick_by (fun hc => ?_) (fun hc => ?_) <;> try simp only [hc] | refine kWant_by (fun hc => ?_) (fun hc => ?_) <;> try simp only [hc])
      · repeat' (first | simp only [evr, nextP_norm, evd, evq, beq_self_eq_true, cond_true, cond_false, reduceIte, Nat.reduceEqDiff, Nat.reduceAdd, Int.reduceBNe, Int.reduceBEq, Int.reduceLT, Int.reduceLE, Int.reduceEq, evh, evp, Nat.reduceLeDiff, Nat.reduceSub, Nat.reduceBEq, typs] | refine kCond2_by (fun hc => ?_) (fun hc => ?_) <;> try simp only [hc] | refine kPick_by (fun hc => ?_) (fun hc => ?_) <;> try simp only [hc] | refine kWant_by (fun hc => ?_) (fun hc => ?_) <;> try simp only [hc])
      · repeat' (first | simp only [evr, nextP_norm, evd, evq, beq_self_eq_true, cond_true, cond_false, reduceIte, Nat.reduceEqDiff, Nat.reduceAdd, Int.reduceBNe, Int.reduceBEq, Int.reduceLT, Int.reduceLE, Int.reduceEq, evh, evp, Nat.reduceLeDiff, Nat.reduceSub, Nat.reduceBEq, typs] | refine kCond2_by (fun hc => ?_) (fun hc => ?_) <;> try simp only [hc] | refine kPick_by (fun hc => ?_) (fun hc => ?_) <;> try simp only [hc] | refine kWant_by (fun hc => ?_) (fun hc => ?_) <;> try simp only [hc])
      · repeat' (first | simp only [evr, nextP_norm, evd, evq, beq_self_eq_true, cond_true, cond_false, reduceIte, Nat.reduceEqDiff, Nat.reduceAdd, Int.reduceBNe, Int.reduceBEq, Int.reduceLT, Int.reduceLE, Int.reduceEq, evh, evp, Nat.reduceLeDiff, Nat.reduceSub, Nat.reduceBEq, typs] | refine kCond2_by (fun hc => ?_) (fun hc => ?_) <;> try simp only [hc] | refine kPick_by (fun hc => ?_) (fun hc => ?_) <;> try simp only [hc] | refine kWant_by (fun hc => ?_) (fun hc => ?_) <;> try simp only [hc])
      · repeat' (first | simp only [evr, nextP_norm, evd, evq, beq_self_eq_true, cond_true, cond_false, reduceIte, Nat.reduceEqDiff, Nat.reduceAdd, Int.reduceBNe, Int.reduceBEq, Int.reduceLT, Int.reduceLE, Int.reduceEq, evh, evp, Nat.reduceLeDiff, Nat.reduceSub, Nat.reduceBEq, typs] | refine kCond2_by (fun hc => ?_) (fun hc => ?_) <;> try simp only [hc] | refine kPick_by (fun hc => ?_) (fun hc => ?_) <;> try simp only [hc] | refine kWant_by (fun hc => ?_) (fun hc => ?_) <;> try simp only [hc])
        rfl
      rintro k fr h'' ⟨hk', j, rfl, hj, g0, g4, g14, g15, g16, g6, g20, g21, g22, hp⟩
      have hkn' := hk'.1
      by_cases h3j : j < l.length
      · have e3 : decide ((j : Int) < l.length) = true := by simp; omega
        obtain ⟨x, hx⟩ : ∃ x, l[j]? = some x := ⟨_, List.getElem?_eq_getElem h3j⟩
        obtain ⟨p, ha, hld⟩ := TmSl.load (SlAt.keep s3 hk') hx
        unfold tmV at hld
        have w1 := wrap64 (x := (j : Int) + 1) (by omega) (by omega)
        have z5 := (hk'.2 h.next (by omega)).trans z3
        have y5 := rowOf_rw z5
        by_cases hxu : x.user = nm
        · have e4 : decide (x.user = nm) = true := decide_eq_true hxu
          have e5 : (h.next = h''.next) = False := eq_false (by omega)
          repeat' (first | simp only [evr, nextP_norm, evd, evq, beq_self_eq_true, cond_true, cond_false, reduceIte, Nat.reduceEqDiff, Nat.reduceAdd, Int.reduceBNe, Int.reduceBEq, Int.reduceLT, Int.reduceLE, Int.reduceEq, evh, evp, Nat.reduceLeDiff, Nat.reduceSub, Nat.reduceBEq, typs, g0, g4, g6, g20, g21, g22, e3, ha, hld, e4, z5, y5, e5, if_false] | refine kCond2_by (fun hc => ?_) (fun hc => ?_) <;> try simp only [hc] | refine kPick_by (fun hc => ?_) (fun hc => ?_) <;> try simp only [hc] | refine kWant_by (fun hc => ?_) (fun hc => ?_) <;> try simp only [hc])
          refine ⟨?_, ((((k3.trans hk').pushed).set (by omega)).set (Nat.le_refl _))⟩
          unfold findF
          rw [hm]
          have hf := find_at hx hxu hp
          by_cases hi0 : i = 0
          · have : nm = u := by rw [hnm, if_pos hi0]
            subst this
            rw [hf]; rfl
          · have : nm = star := by rw [hnm, if_neg hi0]
            subst this
            rw [find_no (p0 (by omega)), hf]; rfl
        · have e4 : decide (x.user = nm) = false := decide_eq_false hxu
          repeat' (first | simp only [evr, nextP_norm, evd, evq, beq_self_eq_true, cond_true, cond_false, reduceIte, Nat.reduceEqDiff, Nat.reduceAdd, Int.reduceBNe, Int.reduceBEq, Int.reduceLT, Int.reduceLE, Int.reduceEq, evh, evp, Nat.reduceLeDiff, Nat.reduceSub, Nat.reduceBEq, typs, g0, g4, g14, g15, g16, g6, g20, g21, g22, e3, ha, hld, e4, w1] | refine kCond2_by (fun hc => ?_) (fun hc => ?_) <;> try simp only [hc] | refine kPick_by (fun hc => ?_) (fun hc => ?_) <;> try simp only [hc] | refine kWant_by (fun hc => ?_) (fun hc => ?_) <;> try simp only [hc])
          exact ⟨l.length - (j + 1), by omega, (hk'.pushed).set (by omega), j + 1, rfl, by omega, rfl, take_succ_mem hx hp hxu⟩
      · have e3 : decide ((j : Int) < l.length) = false := by simp; omega
        have hj2 : j = l.length := by omega
        subst hj2
        rw [List.take_length] at hp
        repeat' (first | simp only [evr, nextP_norm, evd, evq, beq_self_eq_true, cond_true, cond_false, reduceIte, Nat.reduceEqDiff, Nat.reduceAdd, Int.reduceBNe, Int.reduceBEq, Int.reduceLT, Int.reduceLE, Int.reduceEq, evh, evp, Nat.reduceLeDiff, Nat.reduceSub, Nat.reduceBEq, typs, g0, g4, g14, g15, g16, g6, g20, g21, g22, e3, w2] | refine kCond2_by (fun hc => ?_) (fun hc => ?_) <;> try simp only [hc] | refine kPick_by (fun hc => ?_) (fun hc => ?_) <;> try simp only [hc] | refine kWant_by (fun hc => ?_) (fun hc => ?_) <;> try simp only [hc])
        refine ⟨2 - (i + 1), by omega, hk', i + 1, rfl, by omega, rfl, fun _ => ?_, fun _ => ?_⟩
        · by_cases hi0 : i = 0
          · have : nm = u := by rw [hnm, if_pos hi0]
            subst this; exact hp
          · exact p0 (by omega)
        · have : nm = star := by rw [hnm, if_neg (by omega)]
          subst this; exact hp
end Go.Proofs.YtojcfpgapfceiaaDoor
namespace Go.Proofs.YtojcfpgapfceiaaDoor
open Go Go.Ev Go.Con
set_option linter.unusedSimpArgs false
set_option linter.unusedVariables false
set_option maxRecDepth 100000
def ptrV (b : Nat) : Value := .pointer (some ⟨b, 0, none⟩)
def optP : Option Nat → Value
  | none => .pointer none
  | some b => ptrV b
def intV (n : Int) : Value := .int .i64 n
def bnC (b : Bn) (sl : Value) : List Value := [.int .i64 b.kind, .int .i64 b.uid, .int .i64 b.dir, .string b.link, .bool b.object, sl, .int .i64 b.b.r1, .int .i64 b.b.r2, .int .i64 b.b.r3, .int .i64 b.b.g]
structure Nd where
  b : Bn
  home : Int
  many : Int
def ndC (x : Nd) (sl : Value) : List Value := [.int .i64 x.b.kind, .int .i64 x.b.uid, .int .i64 x.b.dir, .string x.b.link, .bool x.b.object, sl, .int .i64 x.b.b.r1, .int .i64 x.b.b.r2, .int .i64 x.b.b.r3, .int .i64 x.b.b.g, .int .i64 x.home, .int .i64 x.many]
structure CoreAt (h : Hp) (bt bl bd bu : Nat) (fL : Int × ByteArray → Option Nat) (fD : Int → Option Int) (fU : Int → Option Nat) (nx : Int) : Prop where
  row : h.get bt = some (.row [.map (some bl), .map (some bd), .map (some bu), .int .i64 nx] 59 (.rw 0 []))
  l : MapIs keyK ptrV h bl fL
  d : MapIs keyI intV h bd fD
  u : MapIs keyI ptrV h bu fU
  ld : bl ≠ bd
  lu : bl ≠ bu
  du : bd ≠ bu
def NodeAt (h : Hp) (F : Nat → Prop) (b : Nat) (x : Nd) : Prop := ∃ sl, b < h.next ∧ h.get b = some (.row (ndC x sl) 72 (.rw 0 [])) ∧ TmTy h F sl x.b.acl
section
variable {h : Hp} {bt bl bd bu : Nat} {fL : Int × ByteArray → Option Nat} {fD : Int → Option Int} {fU : Int → Option Nat} {nx : Int}
theorem CoreAt.lookD (c : CoreAt h bt bl bd bu fL fD fU nx) (d : Int) (f : Bool) : evLookup kon.P 56 (.map (some bd)) (.int .i64 d) f h = some (match fD d with
    | some n => bif f then .tuple #[.int .i64 n, .bool true] else .int .i64 n
    | none => bif f then .tuple #[.int .i64 0, .bool false] else .int .i64 0) := by
  have := c.d.look (kt := 3) (et := 3) (t := 56) (P := kon.P) (by kernel_rfl) (keyI_ok Tryd.underlying3) (z := .int .i64 0) (by kernel_rfl) rfl d f
  unfold keyI at this
  rw [this]
  cases fD d <;> rfl
theorem CoreAt.lookL (c : CoreAt h bt bl bd bu fL fD fU nx) (d : Int) (s : ByteArray) : evLookup kon.P 55 (.map (some bl)) (.agg #[.int .i64 d, .string s]) false h = some (optP (fL (d, s))) := by
  have := c.l.look (kt := 84) (et := 67) (t := 55) (P := kon.P) (by kernel_rfl) keyK_ok (z := .pointer none) (by kernel_rfl) rfl (d, s) false
  unfold keyK at this
  rw [this]
  cases fL (d, s) <;> rfl
theorem CoreAt.lookU (c : CoreAt h bt bl bd bu fL fD fU nx) (u : Int) : evLookup kon.P 57 (.map (some bu)) (.int .i64 u) false h = some (optP (fU u)) := by
  have := c.u.look (kt := 3) (et := 67) (t := 57) (P := kon.P) (by kernel_rfl) (keyI_ok Tryd.underlying3) (z := .pointer none) (by kernel_rfl) rfl u false
  unfold keyI at this
  rw [this]
  cases fU u <;> rfl
theorem is_spec (c : CoreAt h bt bl bd bu fL fD fU nx) (d : Int) : Meets kon 19 [ptrV bt, .int .i64 d] h fun v h' => v = .bool (fD d).isSome ∧ h' = h := by
  unfold ptrV
  refine Meets.mk rfl (by kernel_rfl) Tryd.func19 rfl (congrArg Array.toList Tryd.results19) ?_
  have hr := rowOf_rw c.row
  have e1 := c.lookD d true
  cases hd : fD d with
  | none =>
    rw [hd] at e1
    simp only [cond_true] at e1
    simp only [evr, nextP_norm, evd, evq, beq_self_eq_true, cond_true, cond_false, reduceIte, Nat.reduceEqDiff, Nat.reduceAdd, Int.reduceBNe, Int.reduceBEq, Int.reduceLT, Int.reduceLE, Int.reduceEq, evh, evp, Nat.reduceLeDiff, Nat.reduceSub, Nat.reduceBEq, typs, hr, e1]
    rfl
  | some n =>
    rw [hd] at e1
    simp only [cond_true] at e1
    simp only [evr, nextP_norm, evd, evq, beq_self_eq_true, cond_true, cond_false, reduceIte, Nat.reduceEqDiff, Nat.reduceAdd, Int.reduceBNe, Int.reduceBEq, Int.reduceLT, Int.reduceLE, Int.reduceEq, evh, evp, Nat.reduceLeDiff, Nat.reduceSub, Nat.reduceBEq, typs, hr, e1]
    rfl
theorem none_spec (b : Nat) (h : Hp) : Meets kon 20 [ptrV b] h fun v h' => v = .int .i64 4 ∧ h' = h := by
  unfold ptrV
  refine Meets.mk rfl (by kernel_rfl) Tryd.func20 rfl (congrArg Array.toList Tryd.results20) ?_
  simp only [evr, nextP_norm, evd, evq, beq_self_eq_true, cond_true, cond_false, reduceIte, Nat.reduceEqDiff, Nat.reduceAdd, Int.reduceBNe, Int.reduceBEq, Int.reduceLT, Int.reduceLE, Int.reduceEq, evh, evp, Nat.reduceLeDiff, Nat.reduceSub, Nat.reduceBEq, typs]
theorem get_spec (c : CoreAt h bt bl bd bu fL fD fU nx) (d : Int) (s : ByteArray) : Meets kon 22 [ptrV bt, .int .i64 d, .string s] h fun v h' => v = optP (fL (d, s)) ∧ h' = h := by
  unfold ptrV
  refine Meets.mk rfl (by kernel_rfl) Tryd.func22 rfl (congrArg Array.toList Tryd.results22) ?_
  have hr := rowOf_rw c.row
  have e1 := c.lookL d s
  simp only [evr, nextP_norm, evd, evq, beq_self_eq_true, cond_true, cond_false, reduceIte, Nat.reduceEqDiff, Nat.reduceAdd, Int.reduceBNe, Int.reduceBEq, Int.reduceLT, Int.reduceLE, Int.reduceEq, evh, evp, Nat.reduceLeDiff, Nat.reduceSub, Nat.reduceBEq, typs, hr, e1]
theorem get_ne {h : Hp} {a b : Nat} {x y : Ob} (ha : h.get a = some x) (hb : h.get b = some y) (hn : x ≠ y) : a ≠ b := by
  rintro rfl; rw [ha] at hb; exact hn (Option.some.inj hb)
theorem CoreAt.bt_bl (c : CoreAt h bt bl bd bu fL fD fU nx) : bt ≠ bl := by obtain ⟨es, ck, hg⟩ := c.l.get; exact get_ne c.row hg (by simp)
theorem CoreAt.bt_bd (c : CoreAt h bt bl bd bu fL fD fU nx) : bt ≠ bd := by obtain ⟨es, ck, hg⟩ := c.d.get; exact get_ne c.row hg (by simp)
theorem CoreAt.bt_bu (c : CoreAt h bt bl bd bu fL fD fU nx) : bt ≠ bu := by obtain ⟨es, ck, hg⟩ := c.u.get; exact get_ne c.row hg (by simp)
theorem CoreAt.row_ne (c : CoreAt h bt bl bd bu fL fD fU nx) {n : Nat} {cs : List Value} {e : TypeId} {st : St} (hn : h.get n = some (.row cs e st)) : n ≠ bl ∧ n ≠ bd ∧ n ≠ bu := by
  obtain ⟨es, ck, h1⟩ := c.l.get
  obtain ⟨es2, ck2, h2⟩ := c.d.get
  obtain ⟨es3, ck3, h3⟩ := c.u.get
  exact ⟨get_ne hn h1 (by simp), get_ne hn h2 (by simp), get_ne hn h3 (by simp)⟩
theorem CoreAt.node_ne (c : CoreAt h bt bl bd bu fL fD fU nx) {n : Nat} {cs : List Value} {st : St} (hn : h.get n = some (.row cs 72 st)) : n ≠ bt :=
  get_ne hn c.row (fun e => by simp at e)
theorem put_spec (c : CoreAt h bt bl bd bu fL fD fU nx) {n : Nat} {x : Nd} {sl : Value} (hn : h.get n = some (.row (ndC x sl) 72 (.rw 0 []))) (d : Int) (s : ByteArray)
    (b1 : -4000000000000000000 ≤ (fD d).getD 0) (b2 : (fD d).getD 0 ≤ 4000000000000000000) (b3 : -4000000000000000000 ≤ x.many) (b4 : x.many ≤ 4000000000000000000) :
    Meets kon 24 [ptrV bt, .int .i64 d, .string s, ptrV n] h fun v h' => v = .tuple #[] ∧ CoreAt h' bt bl bd bu (upd fL (d, s) (some n)) (upd fD d (some ((fD d).getD 0 + 1))) fU nx ∧
      h'.get n = some (.row (ndC { x with many := x.many + 1 } sl) 72 (.rw 0 [])) ∧ h'.next = h.next ∧ ∀ k, k ≠ bl → k ≠ bd → k ≠ n → h'.get k = h.get k := by
  obtain ⟨nl, nd, nu⟩ := c.row_ne hn
  have nt := c.node_ne hn
  obtain ⟨h1, e1, m1, n1, s1⟩ := c.l.put (t := 55) (kt := 84) (et := 67) (P := kon.P) (by kernel_rfl) keyK_ok (d, s) n
  have md1 : MapIs keyI intV h1 bd fD := c.d.eq (s1 bd (Ne.symm c.ld))
  obtain ⟨h2, e2, m2, n2, s2⟩ := md1.put (t := 56) (kt := 3) (et := 3) (P := kon.P) (by kernel_rfl) (keyI_ok Tryd.underlying3) d ((fD d).getD 0 + 1)
  have c1 : CoreAt h1 bt bl bd bu (upd fL (d, s) (some n)) fD fU nx := ⟨by rw [s1 bt c.bt_bl]; exact c.row, m1, md1, c.u.eq (s1 bu (Ne.symm c.lu)), c.ld, c.lu, c.du⟩
  have c2 : CoreAt h2 bt bl bd bu (upd fL (d, s) (some n)) (upd fD d (some ((fD d).getD 0 + 1))) fU nx := ⟨by rw [s2 bt c1.bt_bd]; exact c1.row, c1.l.eq (s2 bl c.ld), m2, c1.u.eq (s2 bu (Ne.symm c.du)), c.ld, c.lu, c.du⟩
  have hn2 : h2.get n = some (.row (ndC x sl) 72 (.rw 0 [])) := by rw [s2 n nd, s1 n nl]; exact hn
  have r0 := rowOf_rw c.row
  have r1 := rowOf_rw c1.row
  have r2 := rowOf_rw hn2
  have l1 : evLookup kon.P 56 (.map (some bd)) (.int .i64 d) false h1 = some (.int .i64 ((fD d).getD 0)) := by
    rw [c1.lookD d false]; cases fD d <;> rfl
  have w1 := wrap64 (x := (fD d).getD 0 + 1) (by omega) (by omega)
  have w2 := wrap64 (x := x.many + 1) (by omega) (by omega)
  unfold keyK ptrV at e1
  unfold keyI intV at e2
  unfold ptrV
  unfold ndC at hn2 r2
  refine Meets.mk rfl (by kernel_rfl) Tryd.func24 rfl (congrArg Array.toList Tryd.results24) ?_
  simp only [evr, nextP_norm, evd, evq, beq_self_eq_true, cond_true, cond_false, reduceIte, Nat.reduceEqDiff, Nat.reduceAdd, Int.reduceBNe, Int.reduceBEq, Int.reduceLT, Int.reduceLE, Int.reduceEq, evh, evp, Nat.reduceLeDiff, Nat.reduceSub, Nat.reduceBEq, typs, r0, e1, r1, l1, w1, e2, r2, w2, hn2]
  refine ⟨⟨by rw [Hp.get_set_ne (Ne.symm nt)]; exact c2.row, c2.l.eq (Hp.get_set_ne (Ne.symm nl)), c2.d.eq (Hp.get_set_ne (Ne.symm nd)), c2.u.eq (Hp.get_set_ne (Ne.symm nu)), c.ld, c.lu, c.du⟩, ?_, ?_, fun k k1 k2 k3 => ?_⟩
  · rfl
  · rw [n2, n1]
  · rw [if_neg k3, s2 k k2, s1 k k1]
def outV (b : Bn) (sl : Value) : Value := .tuple #[.agg (bnC b sl).toArray, .bool true]
def noneV : Value := .tuple #[.agg #[.int .i64 0, .int .i64 0, .int .i64 0, .string ByteArray.empty, .bool false, .slice none 0 0, .int .i64 0, .int .i64 0, .int .i64 0, .int .i64 0], .bool false]
def OutP (o : Option Bn) (h : Hp) (v : Value) (h' : Hp) : Prop := Keep h h' ∧ match o with
  | none => v = noneV
  | some b => ∃ sl, v = outV b sl ∧ TmTy h' (fun k => h.next ≤ k) sl b.acl
theorem out_nil (h : Hp) : Meets kon 40 [.pointer none] h (OutP none h) := by
  refine Meets.mk rfl (by kernel_rfl) Tryd.func40 rfl (congrArg Array.toList Tryd.results40) ?_
  repeat' (first | simp only [evr, nextP_norm, evd, evq, beq_self_eq_true, cond_true, cond_false, reduceIte, Nat.reduceEqDiff, Nat.reduceAdd, Int.reduceBNe, Int.reduceBEq, Int.reduceLT, Int.reduceLE, Int.reduceEq, evh, evp, Nat.reduceLeDiff, Nat.reduceSub, Nat.reduceBEq, typs] | refine kCond2_by (fun hc => ?_) (fun hc => ?_) <;> try simp only [hc] | refine kPick_by (fun hc => ?_) (fun hc => ?_) <;> try simp only [hc] | refine kWant_by (fun hc => ?_) (fun hc => ?_) <;> try simp only [hc])
  exact ⟨(Keep.push _ _).set (Nat.le_refl _), rfl⟩
theorem out_spec {F : Nat → Prop} {n : Nat} {x : Nd} (hN : NodeAt h F n x) (hl : x.b.acl.length ≤ 1000000000) : Meets kon 40 [ptrV n] h (OutP (some x.b) h) := by
  obtain ⟨sl, hlt, hn, hs⟩ := hN
  have r1 := rowOf_rw hn
  have e0 : (n = h.next) = False := eq_false (by omega)
  have e1 : (n = h.next + 1) = False := eq_false (by omega)
  unfold ndC at r1
  unfold ptrV
  refine Meets.mk rfl (by kernel_rfl) Tryd.func40 rfl (congrArg Array.toList Tryd.results40) ?_
  have hsc := hs.isCell
  repeat' (first | simp only [evr, nextP_norm, evd, evq, beq_self_eq_true, cond_true, cond_false, reduceIte, Nat.reduceEqDiff, Nat.reduceAdd, Int.reduceBNe, Int.reduceBEq, Int.reduceLT, Int.reduceLE, Int.reduceEq, evh, evp, Nat.reduceLeDiff, Nat.reduceSub, Nat.reduceBEq, typs, r1, e0, e1, if_false, hsc] | refine kCond2_by (fun hc => ?_) (fun hc => ?_) <;> try simp only [hc] | refine kPick_by (fun hc => ?_) (fun hc => ?_) <;> try simp only [hc] | refine kWant_by (fun hc => ?_) (fun hc => ?_) <;> try simp only [hc])
  generalize hh : Hp.set _ (h.next + 1) _ = H
  have g1 : H.get (h.next + 1) = some (.row (bnC x.b sl) 37 (.rw 0 [])) := by rw [← hh]; exact Hp.get_set_self _ _ _
  have hk : Keep h H := by rw [← hh]; exact ((Keep.push _ _).pushed).set (Nat.le_succ _)
  have g0 : ∃ zs, H.get h.next = some (.row zs 37 (.rw 0 [])) ∧ zs.length = 10 := by
    refine ⟨_, by rw [← hh, Hp.get_set_ne (by omega), Hp.get_push_lt (Nat.lt_succ_self _)]; exact Hp.get_push_self _ _, rfl⟩
  have hx : H.next = h.next + 2 := by rw [← hh]; rfl
  obtain ⟨zs, g0, hz⟩ := g0
  clear hh
  refine callP_meets (clone_spec (SlAt.keep hs.slAt hk) hl) ?_
  rintro sl' h3 ⟨hk3, hs3⟩
  have g1' := (hk3.2 _ (by omega)).trans g1
  have g0' := (hk3.2 _ (by omega)).trans g0
  have q1 := rowOf_rw g1'
  have q0 := rowOf_rw g0'
  unfold bnC at g1' q1
  have hsc3 := hs3.isCell
  have hcv := hs3.cellsV
  have hd : List.drop 10 zs = [] := List.drop_eq_nil_of_le (by omega)
  repeat' (first | simp only [evr, nextP_norm, evd, evq, beq_self_eq_true, cond_true, cond_false, reduceIte, Nat.reduceEqDiff, Nat.reduceAdd, Int.reduceBNe, Int.reduceBEq, Int.reduceLT, Int.reduceLE, Int.reduceEq, evh, evp, Nat.reduceLeDiff, Nat.reduceSub, Nat.reduceBEq, typs, q1, g1', q0, g0', hz, hsc3, hcv, hd] | refine kCond2_by (fun hc => ?_) (fun hc => ?_) <;> try simp only [hc] | refine kPick_by (fun hc => ?_) (fun hc => ?_) <;> try simp only [hc] | refine kWant_by (fun hc => ?_) (fun hc => ?_) <;> try simp only [hc])
  refine ⟨((hk.trans hk3).set (Nat.le_succ _)).set (Nat.le_refl _), sl', rfl, ?_⟩
  refine hs3.same (Same.trans (Same.set (b := h.next + 1) ?_) (Same.set (b := h.next) ?_)) (fun k hk => by omega)
  · rw [g1']; exact (by decide : 37 ≠ 54)
  · rw [Hp.get_set_ne (by omega), g0']; exact (by decide : 37 ≠ 54)
def OutOf (h : Hp) (F : Nat → Prop) (o : Option Nat) (r : Option Bn) : Prop := match o, r with
  | none, none => True
  | some n, some b => ∃ x, NodeAt h F n x ∧ x.b = b ∧ b.acl.length ≤ 1000000000
  | _, _ => False
theorem out_any {F : Nat → Prop} {o : Option Nat} {r : Option Bn} (hO : OutOf h F o r) : Meets kon 40 [optP o] h (OutP r h) := by
  cases o with
  | none => cases r with
    | none => exact out_nil h
    | some b => exact hO.elim
  | some n => cases r with
    | none => exact hO.elim
    | some b =>
      obtain ⟨x, hN, rfl, hl⟩ := hO
      exact out_spec hN hl
theorem CoreAt.keep (c : CoreAt h bt bl bd bu fL fD fU nx) {h' : Hp} (k : Keep h h') (lt : bt < h.next ∧ bl < h.next ∧ bd < h.next ∧ bu < h.next) : CoreAt h' bt bl bd bu fL fD fU nx :=
  ⟨by rw [k.2 bt lt.1]; exact c.row, c.l.eq (k.2 bl lt.2.1), c.d.eq (k.2 bd lt.2.2.1), c.u.eq (k.2 bu lt.2.2.2), c.ld, c.lu, c.du⟩
theorem NodeAt.keep {F : Nat → Prop} {n : Nat} {x : Nd} (hN : NodeAt h F n x) {h' : Hp} (k : Keep h h') : NodeAt h' F n x := by
  obtain ⟨sl, h1, h2, h3⟩ := hN
  refine ⟨sl, Nat.lt_of_lt_of_le h1 k.1, by rw [k.2 n h1]; exact h2, ?_⟩
  exact h3.same (Same.keep k) fun _ hk => hk
theorem OutOf.keep {F : Nat → Prop} {o : Option Nat} {r : Option Bn} (hO : OutOf h F o r) {h' : Hp} (k : Keep h h') : OutOf h' F o r := by
  cases o with
  | none => cases r with
    | none => trivial
    | some b => exact hO.elim
  | some n => cases r with
    | none => exact hO.elim
    | some b => obtain ⟨x, h1, h2⟩ := hO; exact ⟨x, h1.keep k, h2⟩
theorem OutP.cells {r : Option Bn} {h h' : Hp} {v : Value} (o : OutP r h v h') : ∃ cs b, v = .tuple #[.agg cs, .bool b] ∧ b = r.isSome ∧ cs.toList.length = 10 ∧ cs.toList.all isCell = true := by
  obtain ⟨_, o⟩ := o
  cases r with
  | none => subst o; exact ⟨_, _, rfl, rfl, rfl, rfl⟩
  | some b =>
    obtain ⟨sl, rfl, hs⟩ := o
    refine ⟨_, _, rfl, rfl, rfl, ?_⟩
    simp [bnC, isCell_int, isCell_string, isCell_bool, hs.isCell]
theorem OutP.set {r : Option Bn} {h0 h h' : Hp} {v : Value} (o : OutP r h v h') (k : Keep h0 h) {b : Nat} (hb : h0.next ≤ b) {cs cs' : List Value} (hg : h'.get b = some (.row cs 37 (.rw 0 []))) : OutP r h0 v (h'.set b (.row cs' 37 (.rw 0 []))) := by
  obtain ⟨k1, o⟩ := o
  refine ⟨(k.trans k1).set hb, ?_⟩
  cases r with
  | none => exact o
  | some x =>
    obtain ⟨sl, hv, hs⟩ := o
    refine ⟨sl, hv, hs.same (Same.set ?_) fun j hj => Nat.le_trans k.1 hj⟩
    rw [hg]; exact (by decide : 37 ≠ 54)
theorem byUID_spec (c : CoreAt h bt bl bd bu fL fD fU nx) (lt : bt < h.next ∧ bl < h.next ∧ bd < h.next ∧ bu < h.next) {F : Nat → Prop} (u : Int) {r : Option Bn} (hO : OutOf h F (fU u) r) : Meets kon 25 [ptrV bt, .int .i64 u] h (OutP r h) := by
  unfold ptrV
  refine Meets.mk rfl (by kernel_rfl) Tryd.func25 rfl (congrArg Array.toList Tryd.results25) ?_
  have hne : (bt = h.next) = False := eq_false (by omega)
  have r0 := rowOf_rw c.row
  repeat' (first | simp only [evr, nextP_norm, evd, evq, beq_self_eq_true, cond_true, cond_false, reduceIte, Nat.reduceEqDiff, Nat.reduceAdd, Int.reduceBNe, Int.reduceBEq, Int.reduceLT, Int.reduceLE, Int.reduceEq, evh, evp, Nat.reduceLeDiff, Nat.reduceSub, Nat.reduceBEq, typs, r0, hne, if_false] | refine kCond2_by (fun hc => ?_) (fun hc => ?_) <;> try simp only [hc] | refine kPick_by (fun hc => ?_) (fun hc => ?_) <;> try simp only [hc] | refine kWant_by (fun hc => ?_) (fun hc => ?_) <;> try simp only [hc])
  generalize hh : Hp.push h _ = H
  have hk : Keep h H := by rw [← hh]; exact Keep.push _ _
  have g0 : H.get h.next = some (.row [.int .i64 0, .int .i64 0, .int .i64 0, .string ByteArray.empty, .bool false, .slice none 0 0, .int .i64 0, .int .i64 0, .int .i64 0, .int .i64 0] 37 (.rw 0 [])) := by rw [← hh]; exact Hp.get_push_self _ _
  have hx : H.next = h.next + 1 := by rw [← hh]; rfl
  clear hh
  have cH := c.keep hk lt
  have lu := cH.lookU u
  repeat' (first | simp only [evr, nextP_norm, evd, evq, beq_self_eq_true, cond_true, cond_false, reduceIte, Nat.reduceEqDiff, Nat.reduceAdd, Int.reduceBNe, Int.reduceBEq, Int.reduceLT, Int.reduceLE, Int.reduceEq, evh, evp, Nat.reduceLeDiff, Nat.reduceSub, Nat.reduceBEq, typs, lu] | refine kCond2_by (fun hc => ?_) (fun hc => ?_) <;> try simp only [hc] | refine kPick_by (fun hc => ?_) (fun hc => ?_) <;> try simp only [hc] | refine kWant_by (fun hc => ?_) (fun hc => ?_) <;> try simp only [hc])
  refine callP_meets (out_any (hO.keep hk)) ?_
  rintro v h3 ho
  obtain ⟨cs, b, rfl, rfl, hc, hcc⟩ := ho.cells
  have g1 := (ho.1.2 h.next (by omega)).trans g0
  have q1 := rowOf_rw g1
  have hsz : cs.size = 10 := by rw [← Array.length_toList]; exact hc
  repeat' (first | simp only [evr, nextP_norm, evd, evq, beq_self_eq_true, cond_true, cond_false, reduceIte, Nat.reduceEqDiff, Nat.reduceAdd, Int.reduceBNe, Int.reduceBEq, Int.reduceLT, Int.reduceLE, Int.reduceEq, evh, evp, Nat.reduceLeDiff, Nat.reduceSub, Nat.reduceBEq, typs, q1, g1, hc, hcc, hsz] | refine kCond2_by (fun hc => ?_) (fun hc => ?_) <;> try simp only [hc] | refine kPick_by (fun hc => ?_) (fun hc => ?_) <;> try simp only [hc] | refine kWant_by (fun hc => ?_) (fun hc => ?_) <;> try simp only [hc])
  rw [List.take_of_length_le (by omega), Array.toArray_toList]
  exact ho.set hk (Nat.le_refl _) g1
def Chd (h : Hp) (o : Option Nat) (b b' : Bn) (h' : Hp) : Prop := ∃ n x sl sl', o = some n ∧ h.get n = some (.row (ndC x sl) 72 (.rw 0 [])) ∧ n < h.next ∧ x.b = b ∧
  h'.get n = some (.row (ndC ⟨b', x.home, x.many⟩ sl') 72 (.rw 0 [])) ∧ (sl' = sl ∧ b'.acl = b.acl ∨ TmTy h' (fun k => h.next ≤ k) sl' b'.acl) ∧ h.next ≤ h'.next ∧ ∀ k, k < h.next → k ≠ n → h'.get k = h.get k
end
end Go.Proofs.YtojcfpgapfceiaaDoor
namespace Go.Proofs.YtojcfpgapfceiaaDoor
open Go Go.Ev Go.Con
set_option linter.unusedSimpArgs false
set_option linter.unusedVariables false
set_option maxRecDepth 100000
theorem new_spec (h : Hp) : Meets kon 5 [] h fun v h' => v = ptrV (h.next + 3) ∧ Keep h h' ∧ h'.next = h.next + 4 ∧ CoreAt h' (h.next + 3) h.next (h.next + 1) (h.next + 2) (fun _ => none) (upd (fun _ => none) 0 (some 0)) (fun _ => none) 0 := by
  have m0 : MapIs keyK ptrV (h.push (.map [] 0)) h.next (fun _ => none) := MapIs.new h keyK ptrV
  have m1 : MapIs keyI intV ((h.push (.map [] 0)).push (.map [] 0)) (h.next + 1) (fun _ => none) := MapIs.new (h.push (.map [] 0)) keyI intV
  obtain ⟨h2, e1, m2, n2, s2⟩ := m1.put (t := 56) (kt := 3) (et := 3) (P := kon.P) (by kernel_rfl) (keyI_ok Tryd.underlying3) 0 0
  have n2' : h2.next = h.next + 2 := n2
  have g0 : MapIs keyK ptrV h2 h.next (fun _ => none) := (m0.eq (Hp.get_push_lt (Nat.lt_succ_self _))).eq (s2 h.next (by omega))
  have k2 : Keep h h2 := ⟨by omega, fun k hk => by rw [s2 k (by omega), Hp.get_push_lt (show k < h.next + 1 by omega), Hp.get_push_lt hk]⟩
  unfold keyI intV at e1
  refine Meets.mk rfl (by kernel_rfl) Tryd.func5 rfl (congrArg Array.toList Tryd.results5) ?_
  repeat' (first | simp only [evr, nextP_norm, evd, evq, beq_self_eq_true, cond_true, cond_false, reduceIte, Nat.reduceEqDiff, Nat.reduceAdd, Int.reduceBNe, Int.reduceBEq, Int.reduceLT, Int.reduceLE, Int.reduceEq, evh, evp, Nat.reduceLeDiff, Nat.reduceSub, Nat.reduceBEq, typs, P_insert, e1, n2'] | refine kCond2_by (fun hc => ?_) (fun hc => ?_) <;> try simp only [hc] | refine kPick_by (fun hc => ?_) (fun hc => ?_) <;> try simp only [hc] | refine kWant_by (fun hc => ?_) (fun hc => ?_) <;> try simp only [hc])
  have x1 : (h2.push (.map [] 0)).next = h.next + 3 := by rw [Hp.next_push, n2']
  have z : ∀ k, k < h.next + 2 → ∀ o, ((h2.push (.map [] 0)).push o).get k = h2.get k := fun k hk o => by rw [Hp.get_push_lt (by omega), Hp.get_push_lt (by omega)]
  refine ⟨rfl, (k2.pushed).pushed, ⟨?_, g0.eq (z _ (by omega) _), ?_, ?_, by omega, by omega, by omega⟩⟩
  · have := Hp.get_push_self (h2.push (.map [] 0)) (.row [.map (some h.next), .map (some (h.next + 1)), .map (some (h.next + 2)), .int .i64 0] 59 (.rw 0 []))
    rw [x1] at this; exact this
  · exact m2.eq (z _ (by omega) _)
  · have h3 := MapIs.new h2 keyI ptrV
    rw [n2'] at h3
    exact h3.eq (Hp.get_push_lt (by omega))
section
variable {h : Hp} {bt bl bd bu : Nat} {fL : Int × ByteArray → Option Nat} {fD : Int → Option Int} {fU : Int → Option Nat} {nx : Int}
def cleanR (fU : Int → Option Nat) (nx : Int) (b : Bn) : Bn × Int :=
  if b.kind = 1 then (if b.uid < 1 ∨ listMay b.acl = false ∨ bkMay b.b = false then (noBn, 1) else if (fU b.uid).isSome then (noBn, 5) else (⟨1, b.uid, 0, ByteArray.empty, b.object, b.acl, b.b⟩, 0))
  else if b.kind = 2 then (⟨2, 0, nx + 1, ByteArray.empty, false, [], noBk⟩, 0)
  else if b.kind = 3 then (if (split b.link).isSome then (⟨3, 0, 0, b.link, false, [], noBk⟩, 0) else (noBn, 3))
  else (noBn, 15)
theorem build_seg {h : Hp} {F : Nat → Prop} {sl : Value} {l : List Tm} (s : TmTy h F sl l) (u : Int) (o : Bool) (x1 x2 x3 g : Int) :
    evBuild kon.P 37 [(0, .int .i64 1), (1, .int .i64 u), (4, .bool o), (5, sl), (6, .agg #[.int .i64 x1, .int .i64 x2, .int .i64 x3, .int .i64 g])] =
      some (.agg #[.int .i64 1, .int .i64 u, .int .i64 0, .string ByteArray.empty, .bool o, sl, .int .i64 x1, .int .i64 x2, .int .i64 x3, .int .i64 g]) := by
  rcases id s with ⟨rfl, _⟩ | ⟨b, o, k, c, all, st, rfl, _⟩ <;> kernel_rfl
theorem clean_spec (c : CoreAt h bt bl bd bu fL fD fU nx) (lt : bt < h.next ∧ bl < h.next ∧ bd < h.next ∧ bu < h.next) (n1 : -4000000000000000000 ≤ nx) (n2 : nx ≤ 4000000000000000000) {b : Bn} {sl : Value} (hs : TmSl h sl b.acl) (hl : b.acl.length ≤ 1000000000) :
    Meets kon 23 [ptrV bt, .agg (bnC b sl).toArray] h fun v h' => Keep h h' ∧ ∃ sl', v = .tuple #[.agg (bnC (cleanR fU nx b).1 sl').toArray, .int .i64 (cleanR fU nx b).2] ∧ TmTy h' (fun k => h.next ≤ k) sl' (cleanR fU nx b).1.acl := by
  have hsc : isCell sl = true := by rcases hs with ⟨rfl, _⟩ | ⟨b, o, k, c, all, rfl, _⟩ <;> rfl
  have hcv : sl.cells = #[sl] := by rcases hs with ⟨rfl, _⟩ | ⟨b, o, k, c, all, rfl, _⟩ <;> rfl
  unfold bnC
  refine Meets.mk rfl (by kernel_rfl) Tryd.func23 rfl (congrArg Array.toList Tryd.results23) ?_
  by_cases k1 : b.kind = 1
  · have f1 : (b.kind == 1) = true := by simp [k1]
    by_cases hu : b.uid < 1
    · have f2 : decide (b.uid < 1) = true := decide_eq_true hu
      have cl : cleanR fU nx b = (noBn, 1) := by unfold cleanR; rw [if_pos k1, if_pos (.inl hu)]
      repeat' (first | simp only [evr, nextP_norm, evd, evq, beq_self_eq_true, cond_true, cond_false, reduceIte, Nat.reduceEqDiff, Nat.reduceAdd, Int.reduceBNe, Int.reduceBEq, Int.reduceLT, Int.reduceLE, Int.reduceEq, evh, evp, Nat.reduceLeDiff, Nat.reduceSub, Nat.reduceBEq, typs, hsc, hcv, f1, f2] | refine kCond2_by (fun hc => ?_) (fun hc => ?_) <;> try simp only [hc] | refine kPick_by (fun hc => ?_) (fun hc => ?_) <;> try simp only [hc] | refine kWant_by (fun hc => ?_) (fun hc => ?_) <;> try simp only [hc])
      rw [cl]
      exact ⟨((Keep.push _ _).pushed).set (Nat.le_succ _), _, rfl, .inl ⟨rfl, rfl⟩⟩
    · have f2 : decide (b.uid < 1) = false := decide_eq_false hu
      repeat' (first | simp only [evr, nextP_norm, evd, evq, beq_self_eq_true, cond_true, cond_false, reduceIte, Nat.reduceEqDiff, Nat.reduceAdd, Int.reduceBNe, Int.reduceBEq, Int.reduceLT, Int.reduceLE, Int.reduceEq, evh, evp, Nat.reduceLeDiff, Nat.reduceSub, Nat.reduceBEq, typs, hsc, hcv, f1, f2] | refine kCond2_by (fun hc => ?_) (fun hc => ?_) <;> try simp only [hc] | refine kPick_by (fun hc => ?_) (fun hc => ?_) <;> try simp only [hc] | refine kWant_by (fun hc => ?_) (fun hc => ?_) <;> try simp only [hc])
      generalize hh : Hp.push (Hp.push h _) _ = H
      have g3 : H.get h.next = some (.row [.int .i64 b.kind, .int .i64 b.uid, .int .i64 b.dir, .string b.link, .bool b.object, sl, .int .i64 b.b.r1, .int .i64 b.b.r2, .int .i64 b.b.r3, .int .i64 b.b.g] 37 (.rw 0 [])) := by rw [← hh, Hp.get_push_lt (Nat.lt_succ_self _)]; exact Hp.get_push_self _ _
      have g4 : H.get (h.next + 1) = some (.row [.int .i64 0, .int .i64 0, .int .i64 0, .string ByteArray.empty, .bool false, .slice none 0 0, .int .i64 0, .int .i64 0, .int .i64 0, .int .i64 0] 37 (.rw 0 [])) := by rw [← hh]; exact Hp.get_push_self _ _
      have hk : Keep h H := by rw [← hh]; exact (Keep.push _ _).pushed
      have hx : H.next = h.next + 2 := by rw [← hh]; rfl
      clear hh
      refine callP_meets (aMay_spec (SlAt.keep hs hk) hl) ?_
      rintro _ h1 ⟨rfl, k1'⟩
      have g3' := (k1'.2 _ (by omega)).trans g3
      have g4' := (k1'.2 _ (by omega)).trans g4
      have q3 := rowOf_rw g3'
      have q4 := rowOf_rw g4'
      cases hm : listMay b.acl with
      | false =>
        have cl : cleanR fU nx b = (noBn, 1) := by unfold cleanR; rw [if_pos k1, if_pos (.inr (.inl hm))]
        repeat' (first | simp only [evr, nextP_norm, evd, evq, beq_self_eq_true, cond_true, cond_false, reduceIte, Nat.reduceEqDiff, Nat.reduceAdd, Int.reduceBNe, Int.reduceBEq, Int.reduceLT, Int.reduceLE, Int.reduceEq, evh, evp, Nat.reduceLeDiff, Nat.reduceSub, Nat.reduceBEq, typs, q3, q4, g3', g4'] | refine kCond2_by (fun hc => ?_) (fun hc => ?_) <;> try simp only [hc] | refine kPick_by (fun hc => ?_) (fun hc => ?_) <;> try simp only [hc] | refine kWant_by (fun hc => ?_) (fun hc => ?_) <;> try simp only [hc])
        rw [cl]
        exact ⟨(hk.trans k1').set (Nat.le_succ _), _, rfl, .inl ⟨rfl, rfl⟩⟩
      | true =>
        repeat' (first | simp only [evr, nextP_norm, evd, evq, beq_self_eq_true, cond_true, cond_false, reduceIte, Nat.reduceEqDiff, Nat.reduceAdd, Int.reduceBNe, Int.reduceBEq, Int.reduceLT, Int.reduceLE, Int.reduceEq, evh, evp, Nat.reduceLeDiff, Nat.reduceSub, Nat.reduceBEq, typs, q3, q4, g3', g4'] | refine kCond2_by (fun hc => ?_) (fun hc => ?_) <;> try simp only [hc] | refine kPick_by (fun hc => ?_) (fun hc => ?_) <;> try simp only [hc] | refine kWant_by (fun hc => ?_) (fun hc => ?_) <;> try simp only [hc])
        refine callP_meets (ringMay_spec b.b _) ?_
        rintro _ h2 ⟨rfl, k2'⟩
        have hx1 := k1'.1
        have hx2 := k2'.1
        have g3'' := (k2'.2 _ (by omega)).trans g3'
        have g4'' := (k2'.2 _ (by omega)).trans g4'
        have q3 := rowOf_rw g3''
        have q4 := rowOf_rw g4''
        cases hb : bkMay b.b with
        | false =>
          have cl : cleanR fU nx b = (noBn, 1) := by unfold cleanR; rw [if_pos k1, if_pos (.inr (.inr hb))]
          repeat' (first | simp only [evr, nextP_norm, evd, evq, beq_self_eq_true, cond_true, cond_false, reduceIte, Nat.reduceEqDiff, Nat.reduceAdd, Int.reduceBNe, Int.reduceBEq, Int.reduceLT, Int.reduceLE, Int.reduceEq, evh, evp, Nat.reduceLeDiff, Nat.reduceSub, Nat.reduceBEq, typs, q3, q4, g3'', g4''] | refine kCond2_by (fun hc => ?_) (fun hc => ?_) <;> try simp only [hc] | refine kPick_by (fun hc => ?_) (fun hc => ?_) <;> try simp only [hc] | refine kWant_by (fun hc => ?_) (fun hc => ?_) <;> try simp only [hc])
          rw [cl]
          exact ⟨((hk.trans k1').trans k2').set (Nat.le_succ _), _, rfl, .inl ⟨rfl, rfl⟩⟩
        | true =>
          have K2 := (hk.trans k1').trans k2'
          have c2 := c.keep K2 lt
          have r0 := rowOf_rw c2.row
          have lu := c2.lookU b.uid
          repeat' (first | simp only [evr, nextP_norm, evd, evq, beq_self_eq_true, cond_true, cond_false, reduceIte, Nat.reduceEqDiff, Nat.reduceAdd, Int.reduceBNe, Int.reduceBEq, Int.reduceLT, Int.reduceLE, Int.reduceEq, evh, evp, Nat.reduceLeDiff, Nat.reduceSub, Nat.reduceBEq, typs, q3, q4, g3'', g4''] | refine kCond2_by (fun hc => ?_) (fun hc => ?_) <;> try simp only [hc] | refine kPick_by (fun hc => ?_) (fun hc => ?_) <;> try simp only [hc] | refine kWant_by (fun hc => ?_) (fun hc => ?_) <;> try simp only [hc])
          unfold ptrV
          refine Eq.mpr (Wp_drawOrd (KR.mk (by kernel_rfl))) ?_
          cases hf : fU b.uid with
          | some n =>
            have cl : cleanR fU nx b = (noBn, 5) := by unfold cleanR; rw [if_pos k1, if_neg (by rw [hm, hb]; simp; omega), hf]; rfl
            rw [hf] at lu
            unfold optP ptrV at lu
            repeat' (first | simp only [evr, nextP_norm, evd, evq, beq_self_eq_true, cond_true, cond_false, reduceIte, Nat.reduceEqDiff, Nat.reduceAdd, Int.reduceBNe, Int.reduceBEq, Int.reduceLT, Int.reduceLE, Int.reduceEq, evh, evp, Nat.reduceLeDiff, Nat.reduceSub, Nat.reduceBEq, typs, q3, q4, g3'', g4'', r0, lu] | refine kCond2_by (fun hc => ?_) (fun hc => ?_) <;> try simp only [hc] | refine kPick_by (fun hc => ?_) (fun hc => ?_) <;> try simp only [hc] | refine kWant_by (fun hc => ?_) (fun hc => ?_) <;> try simp only [hc])
            rw [cl]
            exact ⟨K2.set (Nat.le_succ _), _, rfl, .inl ⟨rfl, rfl⟩⟩
          | none =>
            have cl : cleanR fU nx b = (⟨1, b.uid, 0, ByteArray.empty, b.object, b.acl, b.b⟩, 0) := by unfold cleanR; rw [if_pos k1, if_neg (by rw [hm, hb]; simp; omega), hf]; rfl
            rw [hf] at lu
            unfold optP at lu
            repeat' (first | simp only [evr, nextP_norm, evd, evq, beq_self_eq_true, cond_true, cond_false, reduceIte, Nat.reduceEqDiff, Nat.reduceAdd, Int.reduceBNe, Int.reduceBEq, Int.reduceLT, Int.reduceLE, Int.reduceEq, evh, evp, Nat.reduceLeDiff, Nat.reduceSub, Nat.reduceBEq, typs, q3, q4, g3'', g4'', r0, lu] | refine kCond2_by (fun hc => ?_) (fun hc => ?_) <;> try simp only [hc] | refine kPick_by (fun hc => ?_) (fun hc => ?_) <;> try simp only [hc] | refine kWant_by (fun hc => ?_) (fun hc => ?_) <;> try simp only [hc])
            refine Wp_drawE [0, 1, 0, 1, 0, 1, 3, 0, 1, 0, 4, 0] (KR.mk (by kernel_rfl)) ?_
            repeat' (first | simp only [evr, nextP_norm, evd, evq, beq_self_eq_true, cond_true, cond_false, reduceIte, Nat.reduceEqDiff, Nat.reduceAdd, Int.reduceBNe, Int.reduceBEq, Int.reduceLT, Int.reduceLE, Int.reduceEq, evh, evp, Nat.reduceLeDiff, Nat.reduceSub, Nat.reduceBEq, typs, q3, q4, g3'', g4'', hcv, hsc] | refine kCond2_by (fun hc => ?_) (fun hc => ?_) <;> try simp only [hc] | refine kPick_by (fun hc => ?_) (fun hc => ?_) <;> try simp only [hc] | refine kWant_by (fun hc => ?_) (fun hc => ?_) <;> try simp only [hc])
            refine callP_meets (clone_spec (SlAt.keep hs K2) hl) ?_
            rintro sl' h3 ⟨k3', hs3⟩
            have g3x := (k3'.2 _ (by omega)).trans g3''
            have g4x := (k3'.2 _ (by omega)).trans g4''
            have p3 := rowOf_rw g3x
            have p4 := rowOf_rw g4x
            have hsc3 := hs3.isCell
            have hcv3 := hs3.cellsV
            repeat' (first | simp only [evr, nextP_norm, evd, evq, beq_self_eq_true, cond_true, cond_false, reduceIte, Nat.reduceEqDiff, Nat.reduceAdd, Int.reduceBNe, Int.reduceBEq, Int.reduceLT, Int.reduceLE, Int.reduceEq, evh, evp, Nat.reduceLeDiff, Nat.reduceSub, Nat.reduceBEq, typs, q3, q4, g3'', g4'', p3, p4, g3x, g4x, hsc3, hcv3, build_seg hs3] | refine kCond2_by (fun hc => ?_) (fun hc => ?_) <;> try simp only [hc] | refine kPick_by (fun hc => ?_) (fun hc => ?_) <;> try simp only [hc] | refine kWant_by (fun hc => ?_) (fun hc => ?_) <;> try simp only [hc])
            rw [cl]
            refine ⟨(K2.trans k3').set (Nat.le_succ _), sl', rfl, ?_⟩
            refine hs3.same (Same.set ?_) (fun k hk => Nat.le_trans K2.1 hk)
            rw [g4x]; exact (by decide : 37 ≠ 54)
  · have f1 : (b.kind == 1) = false := by simp [k1]
    by_cases k2 : b.kind = 2
    · have f2 : (b.kind == 2) = true := by simp [k2]
      have r0 := rowOf_rw c.row
      have e0 : (bt = h.next) = False := eq_false (by omega)
      have e1 : (bt = h.next + 1) = False := eq_false (by omega)
      have cl : cleanR fU nx b = (⟨2, 0, nx + 1, ByteArray.empty, false, [], noBk⟩, 0) := by unfold cleanR; rw [if_neg k1, if_pos k2]
      unfold ptrV
      repeat' (first | simp only [evr, nextP_norm, evd, evq, beq_self_eq_true, cond_true, cond_false, reduceIte, Nat.reduceEqDiff, Nat.reduceAdd, Int.reduceBNe, Int.reduceBEq, Int.reduceLT, Int.reduceLE, Int.reduceEq, evh, evp, Nat.reduceLeDiff, Nat.reduceSub, Nat.reduceBEq, typs, hsc, hcv, f1, f2, r0, e0, e1, if_false, wrap64 (x := nx + 1) (by omega) (by omega)] | refine kCond2_by (fun hc => ?_) (fun hc => ?_) <;> try simp only [hc] | refine kPick_by (fun hc => ?_) (fun hc => ?_) <;> try simp only [hc] | refine kWant_by (fun hc => ?_) (fun hc => ?_) <;> try simp only [hc])
      rw [cl]
      exact ⟨((Keep.push _ _).pushed).set (Nat.le_succ _), _, rfl, .inl ⟨rfl, rfl⟩⟩
    · have f2 : (b.kind == 2) = false := by simp [k2]
      by_cases k3 : b.kind = 3
      · have f3 : (b.kind == 3) = true := by simp [k3]
        repeat' (first | simp only [evr, nextP_norm, evd, evq, beq_self_eq_true, cond_true, cond_false, reduceIte, Nat.reduceEqDiff, Nat.reduceAdd, Int.reduceBNe, Int.reduceBEq, Int.reduceLT, Int.reduceLE, Int.reduceEq, evh, evp, Nat.reduceLeDiff, Nat.reduceSub, Nat.reduceBEq, typs, hsc, hcv, f1, f2, f3] | refine kCond2_by (fun hc => ?_) (fun hc => ?_) <;> try simp only [hc] | refine kPick_by (fun hc => ?_) (fun hc => ?_) <;> try simp only [hc] | refine kWant_by (fun hc => ?_) (fun hc => ?_) <;> try simp only [hc])
        generalize hh : Hp.push (Hp.push h _) _ = H
        have g3 : H.get h.next = some (.row [.int .i64 b.kind, .int .i64 b.uid, .int .i64 b.dir, .string b.link, .bool b.object, sl, .int .i64 b.b.r1, .int .i64 b.b.r2, .int .i64 b.b.r3, .int .i64 b.b.g] 37 (.rw 0 [])) := by rw [← hh, Hp.get_push_lt (Nat.lt_succ_self _)]; exact Hp.get_push_self _ _
        have g4 : H.get (h.next + 1) = some (.row [.int .i64 0, .int .i64 0, .int .i64 0, .string ByteArray.empty, .bool false, .slice none 0 0, .int .i64 0, .int .i64 0, .int .i64 0, .int .i64 0] 37 (.rw 0 [])) := by rw [← hh]; exact Hp.get_push_self _ _
        have hk : Keep h H := by rw [← hh]; exact (Keep.push _ _).pushed
        have hx : H.next = h.next + 2 := by rw [← hh]; rfl
        clear hh
        refine callP_meets (split_spec b.link H) ?_
        rintro v h1 hv
        obtain ⟨k1', hv⟩ := hv
        have g3' := (k1'.2 _ (by omega)).trans g3
        have g4' := (k1'.2 _ (by omega)).trans g4
        have q3 := rowOf_rw g3'
        have q4 := rowOf_rw g4'
        cases hsp : split b.link with
        | none =>
          have cl : cleanR fU nx b = (noBn, 3) := by unfold cleanR; rw [if_neg k1, if_neg k2, if_pos k3, hsp]; rfl
          rw [hsp] at hv
          have hv : v = .tuple #[.slice none 0 0, .int .i64 3] := hv
          subst hv
          repeat' (first | simp only [evr, nextP_norm, evd, evq, beq_self_eq_true, cond_true, cond_false, reduceIte, Nat.reduceEqDiff, Nat.reduceAdd, Int.reduceBNe, Int.reduceBEq, Int.reduceLT, Int.reduceLE, Int.reduceEq, evh, evp, Nat.reduceLeDiff, Nat.reduceSub, Nat.reduceBEq, typs, q3, q4, g3', g4'] | refine kCond2_by (fun hc => ?_) (fun hc => ?_) <;> try simp only [hc] | refine kPick_by (fun hc => ?_) (fun hc => ?_) <;> try simp only [hc] | refine kWant_by (fun hc => ?_) (fun hc => ?_) <;> try simp only [hc])
          rw [cl]
          exact ⟨(hk.trans k1').set (Nat.le_succ _), _, rfl, .inl ⟨rfl, rfl⟩⟩
        | some ps =>
          have cl : cleanR fU nx b = (⟨3, 0, 0, b.link, false, [], noBk⟩, 0) := by unfold cleanR; rw [if_neg k1, if_neg k2, if_pos k3, hsp]; rfl
          rw [hsp] at hv
          obtain ⟨sl1, rfl, -⟩ := hv
          repeat' (first | simp only [evr, nextP_norm, evd, evq, beq_self_eq_true, cond_true, cond_false, reduceIte, Nat.reduceEqDiff, Nat.reduceAdd, Int.reduceBNe, Int.reduceBEq, Int.reduceLT, Int.reduceLE, Int.reduceEq, evh, evp, Nat.reduceLeDiff, Nat.reduceSub, Nat.reduceBEq, typs, q3, q4, g3', g4'] | refine kCond2_by (fun hc => ?_) (fun hc => ?_) <;> try simp only [hc] | refine kPick_by (fun hc => ?_) (fun hc => ?_) <;> try simp only [hc] | refine kWant_by (fun hc => ?_) (fun hc => ?_) <;> try simp only [hc])
          rw [cl]
          exact ⟨(hk.trans k1').set (Nat.le_succ _), _, rfl, .inl ⟨rfl, rfl⟩⟩
      · have f3 : (b.kind == 3) = false := by simp [k3]
        have cl : cleanR fU nx b = (noBn, 15) := by unfold cleanR; rw [if_neg k1, if_neg k2, if_neg k3]
        repeat' (first | simp only [evr, nextP_norm, evd, evq, beq_self_eq_true, cond_true, cond_false, reduceIte, Nat.reduceEqDiff, Nat.reduceAdd, Int.reduceBNe, Int.reduceBEq, Int.reduceLT, Int.reduceLE, Int.reduceEq, evh, evp, Nat.reduceLeDiff, Nat.reduceSub, Nat.reduceBEq, typs, hsc, hcv, f1, f2, f3] | refine kCond2_by (fun hc => ?_) (fun hc => ?_) <;> try simp only [hc] | refine kPick_by (fun hc => ?_) (fun hc => ?_) <;> try simp only [hc] | refine kWant_by (fun hc => ?_) (fun hc => ?_) <;> try simp only [hc])
        rw [cl]
        exact ⟨((Keep.push _ _).pushed).set (Nat.le_succ _), _, rfl, .inl ⟨rfl, rfl⟩⟩
def addE (fL : Int × ByteArray → Option Nat) (fD : Int → Option Int) (fU : Int → Option Nat) (nx : Int) (d : Int) (s : ByteArray) (b : Bn) : Int :=
  if (fD d).isNone then 4 else if mayN s = false then 3 else if (fL (d, s)).isSome then 5 else (cleanR fU nx b).2
structure AddQ (h : Hp) (bt bl bd bu : Nat) (fL : Int × ByteArray → Option Nat) (fD : Int → Option Int) (fU : Int → Option Nat) (nx : Int) (d : Int) (s : ByteArray) (b : Bn) (h' : Hp) (n : Nat) : Prop where
  new : h.next ≤ n
  core : CoreAt h' bt bl bd bu (upd fL (d, s) (some n)) (if b.kind = 2 then upd (upd fD d (some ((fD d).getD 0 + 1))) (nx + 1) (some 0) else upd fD d (some ((fD d).getD 0 + 1)))
    (if b.kind = 1 then upd fU b.uid (some n) else fU) (if b.kind = 2 then nx + 1 else nx)
  node : NodeAt h' (fun k => h.next ≤ k) n ⟨b, d, 1⟩
  next : h.next ≤ h'.next
  same : ∀ k, k < h.next → k ≠ bt → k ≠ bl → k ≠ bd → k ≠ bu → h'.get k = h.get k
def AddP (h : Hp) (bt bl bd bu : Nat) (fL : Int × ByteArray → Option Nat) (fD : Int → Option Int) (fU : Int → Option Nat) (nx : Int) (d : Int) (s : ByteArray) (b : Bn) (v : Value) (h' : Hp) : Prop :=
  (addE fL fD fU nx d s b ≠ 0 ∧ v = .tuple #[.int .i64 0, .int .i64 (addE fL fD fU nx d s b)] ∧ Keep h h') ∨
  (addE fL fD fU nx d s b = 0 ∧ v = .tuple #[.int .i64 (cleanR fU nx b).1.dir, .int .i64 0] ∧ ∃ n, AddQ h bt bl bd bu fL fD fU nx d s (cleanR fU nx b).1 h' n)
theorem build_node {h : Hp} {F : Nat → Prop} {sl : Value} {l : List Tm} (s : TmTy h F sl l) (b : Bn) (d : Int) :
    evBuild kon.P 72 [(0, .agg #[.int .i64 b.kind, .int .i64 b.uid, .int .i64 b.dir, .string b.link, .bool b.object, sl, .int .i64 b.b.r1, .int .i64 b.b.r2, .int .i64 b.b.r3, .int .i64 b.b.g]), (1, .int .i64 d)] =
      some (.agg #[.int .i64 b.kind, .int .i64 b.uid, .int .i64 b.dir, .string b.link, .bool b.object, sl, .int .i64 b.b.r1, .int .i64 b.b.r2, .int .i64 b.b.r3, .int .i64 b.b.g, .int .i64 d, .int .i64 0]) := by
  rcases id s with ⟨rfl, _⟩ | ⟨b, o, k, c, all, st, rfl, _⟩ <;> kernel_rfl
theorem add_spec (c : CoreAt h bt bl bd bu fL fD fU nx) (lt : bt < h.next ∧ bl < h.next ∧ bd < h.next ∧ bu < h.next) (n1 : -4000000000000000000 ≤ nx) (n2 : nx ≤ 4000000000000000000) {b : Bn} {sl : Value} (hs : TmSl h sl b.acl) (hl : b.acl.length ≤ 1000000000)
    (d : Int) (s : ByteArray) (d1 : -4000000000000000000 ≤ (fD d).getD 0) (d2 : (fD d).getD 0 ≤ 4000000000000000000) :
    Meets kon 8 [ptrV bt, .int .i64 d, .string s, .agg (bnC b sl).toArray] h (AddP h bt bl bd bu fL fD fU nx d s b) := by
  have hsc : isCell sl = true := by rcases hs with ⟨rfl, _⟩ | ⟨b, o, k, c, all, rfl, _⟩ <;> rfl
  have hcv : sl.cells = #[sl] := by rcases hs with ⟨rfl, _⟩ | ⟨b, o, k, c, all, rfl, _⟩ <;> rfl
  unfold bnC
  refine Meets.mk rfl (by kernel_rfl) Tryd.func8 rfl (congrArg Array.toList Tryd.results8) ?_
  repeat' (first | simp only [evr, nextP_norm, evd, evq, beq_self_eq_true, cond_true, cond_false, reduceIte, Nat.reduceEqDiff, Nat.reduceAdd, Int.reduceBNe, Int.reduceBEq, Int.reduceLT, Int.reduceLE, Int.reduceEq, evh, evp, Nat.reduceLeDiff, Nat.reduceSub, Nat.reduceBEq, typs, hsc, hcv] | refine kCond2_by (fun hc => ?_) (fun hc => ?_) <;> try simp only [hc] | refine kPick_by (fun hc => ?_) (fun hc => ?_) <;> try simp only [hc] | refine kWant_by (fun hc => ?_) (fun hc => ?_) <;> try simp only [hc])
  generalize hh : Hp.push h _ = H
  have g3 : H.get h.next = some (.row [.int .i64 b.kind, .int .i64 b.uid, .int .i64 b.dir, .string b.link, .bool b.object, sl, .int .i64 b.b.r1, .int .i64 b.b.r2, .int .i64 b.b.r3, .int .i64 b.b.g] 37 (.rw 0 [])) := by rw [← hh]; exact Hp.get_push_self _ _
  have hk : Keep h H := by rw [← hh]; exact Keep.push _ _
  have hx : H.next = h.next + 1 := by rw [← hh]; rfl
  clear hh
  have cH := c.keep hk lt
  have ltH : bt < H.next ∧ bl < H.next ∧ bd < H.next ∧ bu < H.next := ⟨by omega, by omega, by omega, by omega⟩
  refine callP_meets (is_spec cH d) ?_
  rintro v0 H0 ⟨ev, eh⟩
  rw [ev, eh]
  clear ev eh v0 H0
  cases hd : fD d with
  | none =>
    repeat' (first | simp only [evr, nextP_norm, evd, evq, beq_self_eq_true, cond_true, cond_false, reduceIte, Nat.reduceEqDiff, Nat.reduceAdd, Int.reduceBNe, Int.reduceBEq, Int.reduceLT, Int.reduceLE, Int.reduceEq, evh, evp, Nat.reduceLeDiff, Nat.reduceSub, Nat.reduceBEq, typs, (none_spec bt H).call, Option.isSome_none] | refine kCond2_by (fun hc => ?_) (fun hc => ?_) <;> try simp only [hc] | refine kPick_by (fun hc => ?_) (fun hc => ?_) <;> try simp only [hc] | refine kWant_by (fun hc => ?_) (fun hc => ?_) <;> try simp only [hc])
    exact .inl ⟨by simp [addE, hd], by simp [addE, hd], hk⟩
  | some nd =>
    have hmc := (may_spec s H).call
    cases hm : mayN s with
    | false =>
      rw [hm] at hmc
      repeat' (first | simp only [evr, nextP_norm, evd, evq, beq_self_eq_true, cond_true, cond_false, reduceIte, Nat.reduceEqDiff, Nat.reduceAdd, Int.reduceBNe, Int.reduceBEq, Int.reduceLT, Int.reduceLE, Int.reduceEq, evh, evp, Nat.reduceLeDiff, Nat.reduceSub, Nat.reduceBEq, typs, hmc, Option.isSome_some] | refine kCond2_by (fun hc => ?_) (fun hc => ?_) <;> try simp only [hc] | refine kPick_by (fun hc => ?_) (fun hc => ?_) <;> try simp only [hc] | refine kWant_by (fun hc => ?_) (fun hc => ?_) <;> try simp only [hc])
      exact .inl ⟨by simp [addE, hd, hm], by simp [addE, hd, hm], hk⟩
    | true =>
      rw [hm] at hmc
      repeat' (first | simp only [evr, nextP_norm, evd, evq, beq_self_eq_true, cond_true, cond_false, reduceIte, Nat.reduceEqDiff, Nat.reduceAdd, Int.reduceBNe, Int.reduceBEq, Int.reduceLT, Int.reduceLE, Int.reduceEq, evh, evp, Nat.reduceLeDiff, Nat.reduceSub, Nat.reduceBEq, typs, hmc, Option.isSome_some] | refine kCond2_by (fun hc => ?_) (fun hc => ?_) <;> try simp only [hc] | refine kPick_by (fun hc => ?_) (fun hc => ?_) <;> try simp only [hc] | refine kWant_by (fun hc => ?_) (fun hc => ?_) <;> try simp only [hc])
      refine callP_meets (get_spec cH d s) ?_
      rintro v0 H0 ⟨ev, eh⟩
      rw [ev, eh]
      clear ev eh v0 H0
      cases hf : fL (d, s) with
      | some n =>
        unfold optP ptrV
        repeat' (first | simp only [evr, nextP_norm, evd, evq, beq_self_eq_true, cond_true, cond_false, reduceIte, Nat.reduceEqDiff, Nat.reduceAdd, Int.reduceBNe, Int.reduceBEq, Int.reduceLT, Int.reduceLE, Int.reduceEq, evh, evp, Nat.reduceLeDiff, Nat.reduceSub, Nat.reduceBEq, typs] | refine kCond2_by (fun hc => ?_) (fun hc => ?_) <;> try simp only [hc] | refine kPick_by (fun hc => ?_) (fun hc => ?_) <;> try simp only [hc] | refine kWant_by (fun hc => ?_) (fun hc => ?_) <;> try simp only [hc])
        exact .inl ⟨by simp [addE, hd, hm, hf], by simp [addE, hd, hm, hf], hk⟩
      | none =>
        unfold optP
        have q3 := rowOf_rw g3
        repeat' (first | simp only [evr, nextP_norm, evd, evq, beq_self_eq_true, cond_true, cond_false, reduceIte, Nat.reduceEqDiff, Nat.reduceAdd, Int.reduceBNe, Int.reduceBEq, Int.reduceLT, Int.reduceLE, Int.reduceEq, evh, evp, Nat.reduceLeDiff, Nat.reduceSub, Nat.reduceBEq, typs, q3] | refine kCond2_by (fun hc => ?_) (fun hc => ?_) <;> try simp only [hc] | refine kPick_by (fun hc => ?_) (fun hc => ?_) <;> try simp only [hc] | refine kWant_by (fun hc => ?_) (fun hc => ?_) <;> try simp only [hc])
        refine callP_meets (clean_spec cH ltH n1 n2 (SlAt.keep hs hk) hl) ?_
        rintro _ h1 ⟨k1, sl1, rfl, hs1⟩
        have g3' := (k1.2 _ (by omega)).trans g3
        have hx1 := k1.1
        have hsc1 := hs1.isCell
        have hcv1 := hs1.cellsV
        generalize hR : cleanR fU nx b = R at *
        obtain ⟨bb, e⟩ := R
        have hs1 : TmTy h1 (fun k => H.next ≤ k) sl1 bb.acl := hs1
        unfold bnC
        by_cases he : e = 0
        · subst he
          repeat' (first | simp only [evr, nextP_norm, evd, evq, beq_self_eq_true, cond_true, cond_false, reduceIte, Nat.reduceEqDiff, Nat.reduceAdd, Int.reduceBNe, Int.reduceBEq, Int.reduceLT, Int.reduceLE, Int.reduceEq, evh, evp, Nat.reduceLeDiff, Nat.reduceSub, Nat.reduceBEq, typs, hsc1, hcv1] | refine kCond2_by (fun hc => ?_) (fun hc => ?_) <;> try simp only [hc] | refine kPick_by (fun hc => ?_) (fun hc => ?_) <;> try simp only [hc] | refine kWant_by (fun hc => ?_) (fun hc => ?_) <;> try simp only [hc])
          generalize hh : Hp.set _ _ _ = H2
          have g10 : H2.get h1.next = some (.row [.int .i64 bb.kind, .int .i64 bb.uid, .int .i64 bb.dir, .string bb.link, .bool bb.object, sl1, .int .i64 bb.b.r1, .int .i64 bb.b.r2, .int .i64 bb.b.r3, .int .i64 bb.b.g] 37 (.rw 0 [])) := by rw [← hh]; exact Hp.get_set_self _ _ _
          have K2 : Keep h1 H2 := by rw [← hh]; exact (Keep.push _ _).set (Nat.le_refl _)
          have hx2 : H2.next = h1.next + 1 := by rw [← hh]; rfl
          clear hh
          repeat' (first | simp only [evr, nextP_norm, evd, evq, beq_self_eq_true, cond_true, cond_false, reduceIte, Nat.reduceEqDiff, Nat.reduceAdd, Int.reduceBNe, Int.reduceBEq, Int.reduceLT, Int.reduceLE, Int.reduceEq, evh, evp, Nat.reduceLeDiff, Nat.reduceSub, Nat.reduceBEq, typs, build_node hs1, hsc1, hcv1] | refine kCond2_by (fun hc => ?_) (fun hc => ?_) <;> try simp only [hc] | refine kPick_by (fun hc => ?_) (fun hc => ?_) <;> try simp only [hc] | refine kWant_by (fun hc => ?_) (fun hc => ?_) <;> try simp only [hc])
          generalize hh : Hp.push H2 _ = H3
          have gn : H3.get H2.next = some (.row (ndC ⟨bb, d, 0⟩ sl1) 72 (.rw 0 [])) := by rw [← hh]; exact Hp.get_push_self _ _
          have K3 : Keep h1 H3 := by rw [← hh]; exact K2.pushed
          have g10 : H3.get h1.next = _ := (by rw [← hh]; exact Hp.get_push_lt (by omega) : H3.get h1.next = H2.get h1.next).trans g10
          have hx3 : H3.next = H2.next + 1 := by rw [← hh]; rfl
          clear hh
          have Kh : Keep h H3 := (hk.trans k1).trans K3
          have c3 := c.keep Kh lt
          refine callP_meets (put_spec c3 (n := H2.next) (x := ⟨bb, d, 0⟩) (sl := sl1) gn d s d1 d2 (show -4000000000000000000 ≤ (0 : Int) by decide) (show (0 : Int) ≤ 4000000000000000000 by decide)) ?_
          rintro _ h4 ⟨rfl, c4, gn4, nx4, s4⟩
          have g10 := (s4 h1.next (by omega) (by omega) (by omega)).trans g10
          have q10 := rowOf_rw g10
          have hnode : NodeAt h4 (fun k => h.next ≤ k) H2.next ⟨bb, d, 1⟩ := by
            refine ⟨sl1, by omega, gn4, (hs1.same (Same.keep K3) fun k hk' => Nat.le_trans hk.1 hk').same ⟨Nat.le_of_eq nx4.symm, fun j all st hj hg => ?_⟩ fun _ hk' => hk'⟩
            have hj1 := c3.row_ne hg
            rw [s4 j hj1.1 hj1.2.1 (get_ne hg gn (fun e => by simp at e))]
            exact hg
          have hsame : ∀ k, k < h.next → k ≠ bl → k ≠ bd → h4.get k = h.get k := fun k h1k h2k h3k => (s4 k h2k h3k (by omega)).trans (Kh.2 k h1k)
          have hz : addE fL fD fU nx d s b = 0 := by simp [addE, hd, hm, hf, hR]
          by_cases hk1 : bb.kind = 1
          · have f1 : (bb.kind == 1) = true := by simp [hk1]
            obtain ⟨h5, e5, m5, n5, s5⟩ := c4.u.put (t := 57) (kt := 3) (et := 67) (P := kon.P) (by kernel_rfl) (keyI_ok Tryd.underlying3) bb.uid H2.next
            have r0 := rowOf_rw c4.row
            have q5 := rowOf_rw ((s5 h1.next (by omega)).trans g10)
            unfold keyI ptrV at e5
            unfold ptrV
            repeat' (first | simp only [evr, nextP_norm, evd, evq, beq_self_eq_true, cond_true, cond_false, reduceIte, Nat.reduceEqDiff, Nat.reduceAdd, Int.reduceBNe, Int.reduceBEq, Int.reduceLT, Int.reduceLE, Int.reduceEq, evh, evp, Nat.reduceLeDiff, Nat.reduceSub, Nat.reduceBEq, typs, q10, f1] | refine kCond2_by (fun hc => ?_) (fun hc => ?_) <;> try simp only [hc] | refine kPick_by (fun hc => ?_) (fun hc => ?_) <;> try simp only [hc] | refine kWant_by (fun hc => ?_) (fun hc => ?_) <;> try simp only [hc])
            refine Eq.mpr (Wp_drawOrd (KR.mk (by kernel_rfl))) ?_
            repeat' (first | simp only [evr, nextP_norm, evd, evq, beq_self_eq_true, cond_true, cond_false, reduceIte, Nat.reduceEqDiff, Nat.reduceAdd, Int.reduceBNe, Int.reduceBEq, Int.reduceLT, Int.reduceLE, Int.reduceEq, evh, evp, Nat.reduceLeDiff, Nat.reduceSub, Nat.reduceBEq, typs, q10, r0, P_insert, e5, q5] | refine kCond2_by (fun hc => ?_) (fun hc => ?_) <;> try simp only [hc] | refine kPick_by (fun hc => ?_) (fun hc => ?_) <;> try simp only [hc] | refine kWant_by (fun hc => ?_) (fun hc => ?_) <;> try simp only [hc])
            have hlt : ∀ k, k < h.next → k ≠ H2.next := fun k hk' => by omega
            refine .inr ⟨hz, by rw [hR], H2.next, ?_⟩
            rw [hR]
            have hb2 : ¬ bb.kind = 2 := by omega
            obtain ⟨sln, z1, z2, z3⟩ := hnode
            refine ⟨by omega, ?_, ⟨sln, by omega, by rw [s5 _ (by omega)]; exact z2, z3.same (Same.one (b := bu) ?_ (by omega) fun j _ hj => s5 j hj) fun _ hk' => hk'⟩, by omega, fun k e1 e2 e3 e4 e5 => (s5 k e5).trans (hsame k e1 e3 e4)⟩
            · rw [if_neg hb2, if_pos hk1, if_neg hb2]
              exact ⟨by rw [s5 bt c4.bt_bu]; exact c4.row, c4.l.eq (s5 bl c.lu), c4.d.eq (s5 bd c.du), m5, c.ld, c.lu, c.du⟩
            · obtain ⟨es, ck, hg⟩ := c4.u.get
              rw [hg]; trivial
          · have f1 : (bb.kind == 1) = false := by simp [hk1]
            by_cases hk2 : bb.kind = 2
            · have f2 : (bb.kind == 2) = true := by simp [hk2]
              have r0 := rowOf_rw c4.row
              have grow := c4.row
              unfold ptrV
              repeat' (first | simp only [evr, nextP_norm, evd, evq, beq_self_eq_true, cond_true, cond_false, reduceIte, Nat.reduceEqDiff, Nat.reduceAdd, Int.reduceBNe, Int.reduceBEq, Int.reduceLT, Int.reduceLE, Int.reduceEq, evh, evp, Nat.reduceLeDiff, Nat.reduceSub, Nat.reduceBEq, typs, q10, f1, f2, r0, grow, wrap64 (x := nx + 1) (by omega) (by omega)] | refine kCond2_by (fun hc => ?_) (fun hc => ?_) <;> try simp only [hc] | refine kPick_by (fun hc => ?_) (fun hc => ?_) <;> try simp only [hc] | refine kWant_by (fun hc => ?_) (fun hc => ?_) <;> try simp only [hc])
              generalize hh : Hp.set h4 bt _ = H5
              have g5 : H5.get bt = some (.row [.map (some bl), .map (some bd), .map (some bu), .int .i64 (nx + 1)] 59 (.rw 0 [])) := by rw [← hh]; exact Hp.get_set_self _ _ _
              have s5 : ∀ k, k ≠ bt → H5.get k = h4.get k := fun k hk' => by rw [← hh]; exact Hp.get_set_ne hk'
              have x5 : H5.next = h4.next := by rw [← hh]; rfl
              clear hh
              have c5 : CoreAt H5 bt bl bd bu (upd fL (d, s) (some H2.next)) (upd fD d (some ((fD d).getD 0 + 1))) fU (nx + 1) :=
                ⟨g5, c4.l.eq (s5 bl (Ne.symm c4.bt_bl)), c4.d.eq (s5 bd (Ne.symm c4.bt_bd)), c4.u.eq (s5 bu (Ne.symm c4.bt_bu)), c.ld, c.lu, c.du⟩
              obtain ⟨h6, e6, m6, n6, s6⟩ := c5.d.put (t := 56) (kt := 3) (et := 3) (P := kon.P) (by kernel_rfl) (keyI_ok Tryd.underlying3) (nx + 1) 0
              have r5 := rowOf_rw g5
              have q6 := rowOf_rw ((s6 h1.next (by omega)).trans ((s5 h1.next (by omega)).trans g10))
              unfold keyI intV at e6
              refine Eq.mpr (Wp_drawOrd (KR.mk (by kernel_rfl))) ?_
              repeat' (first | simp only [evr, nextP_norm, evd, evq, beq_self_eq_true, cond_true, cond_false, reduceIte, Nat.reduceEqDiff, Nat.reduceAdd, Int.reduceBNe, Int.reduceBEq, Int.reduceLT, Int.reduceLE, Int.reduceEq, evh, evp, Nat.reduceLeDiff, Nat.reduceSub, Nat.reduceBEq, typs, r5, P_insert, e6, q6] | refine kCond2_by (fun hc => ?_) (fun hc => ?_) <;> try simp only [hc] | refine kPick_by (fun hc => ?_) (fun hc => ?_) <;> try simp only [hc] | refine kWant_by (fun hc => ?_) (fun hc => ?_) <;> try simp only [hc])
              refine .inr ⟨hz, by rw [hR], H2.next, ?_⟩
              rw [hR]
              obtain ⟨sln, z1, z2, z3⟩ := hnode
              have st : ∀ k, k ≠ bt → k ≠ bd → h6.get k = h4.get k := fun k e1 e2 => (s6 k e2).trans (s5 k e1)
              refine ⟨by omega, ?_, ⟨sln, by omega, by rw [st _ (by omega) (by omega)]; exact z2, (z3.same (Same.one (b := bt) ?_ (by omega) fun j _ hj => s5 j hj) fun _ hk' => hk').same (Same.one (b := bd) ?_ (by omega) fun j _ hj => s6 j hj) fun _ hk' => hk'⟩, by omega,
                fun k e1 e2 e3 e4 e5 => (st k e2 e4).trans (hsame k e1 e3 e4)⟩
              · rw [if_pos hk2, if_neg hk1, if_pos hk2]
                exact ⟨by rw [s6 bt c5.bt_bd]; exact g5, c5.l.eq (s6 bl c.ld), m6, c5.u.eq (s6 bu (Ne.symm c.du)), c.ld, c.lu, c.du⟩
              · rw [c4.row]; exact (by decide : 59 ≠ 54)
              · obtain ⟨es, ck, hg⟩ := c5.d.get
                rw [hg]; trivial
            · have f2 : (bb.kind == 2) = false := by simp [hk2]
              repeat' (first | simp only [evr, nextP_norm, evd, evq, beq_self_eq_true, cond_true, cond_false, reduceIte, Nat.reduceEqDiff, Nat.reduceAdd, Int.reduceBNe, Int.reduceBEq, Int.reduceLT, Int.reduceLE, Int.reduceEq, evh, evp, Nat.reduceLeDiff, Nat.reduceSub, Nat.reduceBEq, typs, q10, f1, f2] | refine kCond2_by (fun hc => ?_) (fun hc => ?_) <;> try simp only [hc] | refine kPick_by (fun hc => ?_) (fun hc => ?_) <;> try simp only [hc] | refine kWant_by (fun hc => ?_) (fun hc => ?_) <;> try simp only [hc])
              refine .inr ⟨hz, by rw [hR], H2.next, ?_⟩
              rw [hR]
              exact ⟨by omega, by rw [if_neg hk2, if_neg hk1, if_neg hk2]; exact c4, hnode, by omega, fun k e1 e2 e3 e4 e5 => hsame k e1 e3 e4⟩
        · have fe : (e != 0) = true := by simp [he]
          repeat' (first | simp only [evr, nextP_norm, evd, evq, beq_self_eq_true, cond_true, cond_false, reduceIte, Nat.reduceEqDiff, Nat.reduceAdd, Int.reduceBNe, Int.reduceBEq, Int.reduceLT, Int.reduceLE, Int.reduceEq, evh, evp, Nat.reduceLeDiff, Nat.reduceSub, Nat.reduceBEq, typs, hsc1, hcv1, fe] | refine kCond2_by (fun hc => ?_) (fun hc => ?_) <;> try simp only [hc] | refine kPick_by (fun hc => ?_) (fun hc => ?_) <;> try simp only [hc] | refine kWant_by (fun hc => ?_) (fun hc => ?_) <;> try simp only [hc])
          refine .inl ⟨by simp [addE, hd, hm, hf, hR, he], by simp [addE, hd, hm, hf, hR], ?_⟩
          exact ((hk.trans k1).pushed).set (by omega)
end
end Go.Proofs.YtojcfpgapfceiaaDoor
namespace Go.Proofs.YtojcfpgapfceiaaDoor
open Go Go.Ev Go.Con
set_option linter.unusedSimpArgs false
set_option linter.unusedVariables false
set_option maxRecDepth 100000
def nodeF (nb : List Nat) (o : Option Nat) : Option Nat := o.bind fun i => nb[i]?
theorem nodeF_isSome {nb : List Nat} {o : Option Nat} (h : ∀ i, o = some i → i < nb.length) : (nodeF nb o).isSome = o.isSome := by
  cases o with
  | none => rfl
  | some i => simp [nodeF, List.getElem?_eq_getElem (h i rfl)]
theorem nodeF_snoc {nb : List Nat} {n : Nat} {o : Option Nat} (h : ∀ i, o = some i → i < nb.length) : nodeF (nb ++ [n]) o = nodeF nb o := by
  cases o with
  | none => rfl
  | some i => simp [nodeF, List.getElem?_append_left (h i rfl)]
theorem nodeF_new {nb : List Nat} {n i : Nat} (h : i = nb.length) : nodeF (nb ++ [n]) (some i) = some n := by subst h; simp [nodeF]
structure TreeB (h : Hp) (F : Nat → Prop) (T : Hi) (bt bl bd bu : Nat) (nb : List Nat) : Prop where
  len : nb.length = T.B.length
  core : CoreAt h bt bl bd bu (fun k => nodeF nb (T.getF k)) T.dirF (fun u => nodeF nb (T.seg u)) ((T.D.length : Int) - 1)
  node : ∀ e ∈ T.L, ∃ n, nb[e.id]? = some n ∧ F n ∧ NodeAt h F n ⟨T.br e.id, e.dir, T.many e.id⟩
  nd : nb.Nodup
  nF : ∀ n ∈ nb, F n
  own : F bt ∧ F bl ∧ F bd ∧ F bu
  lt : ∀ k, F k → k < h.next
  ok : T.Ok
  acl : ∀ i, (T.br i).acl.length ≤ 1000000000
def TreeAt (h : Hp) (F : Nat → Prop) (T : Hi) (bt : Nat) : Prop := ∃ bl bd bu nb, TreeB h F T bt bl bd bu nb
structure Upd (h : Hp) (F : Nat → Prop) (h' : Hp) (F' : Nat → Prop) : Prop where
  next : h.next ≤ h'.next
  same : ∀ k, k < h.next → ¬ F k → h'.get k = h.get k
  own : ∀ k, F' k → F k ∨ h.next ≤ k
section
variable {h : Hp} {F : Nat → Prop} {T : Hi} {bt bl bd bu : Nat} {nb : List Nat}
theorem TreeB.ltb (t : TreeB h F T bt bl bd bu nb) : bt < h.next ∧ bl < h.next ∧ bd < h.next ∧ bu < h.next := ⟨t.lt _ t.own.1, t.lt _ t.own.2.1, t.lt _ t.own.2.2.1, t.lt _ t.own.2.2.2⟩
theorem TreeB.getlt (t : TreeB h F T bt bl bd bu nb) (k : Int × ByteArray) : ∀ i, T.getF k = some i → i < nb.length := fun i e => by rw [t.len]; exact t.ok.get_lt e
theorem TreeB.seglt (t : TreeB h F T bt bl bd bu nb) (u : Int) : ∀ i, T.seg u = some i → i < nb.length := fun i e => by rw [t.len]; exact t.ok.seg_lt e
theorem TreeB.out_id (t : TreeB h F T bt bl bd bu nb) {e : En} (he : e ∈ T.L) : OutOf h F (nodeF nb (some e.id)) (some (T.br e.id)) := by
  obtain ⟨n, h1, _, h2⟩ := t.node e he
  have : nodeF nb (some e.id) = some n := h1
  rw [this]
  exact ⟨_, h2, rfl, t.acl _⟩
theorem TreeB.out_seg (t : TreeB h F T bt bl bd bu nb) (u : Int) : OutOf h F (nodeF nb (T.seg u)) (T.byUID u) := by
  unfold Hi.byUID
  cases hg : T.seg u with
  | none => trivial
  | some i =>
    obtain ⟨e, he, _, rfl⟩ := Hi.seg_some hg
    exact t.out_id he
theorem TreeB.keep (t : TreeB h F T bt bl bd bu nb) {h' : Hp} (hn : h.next ≤ h'.next) (hs : ∀ k, F k → h'.get k = h.get k) : TreeB h' F T bt bl bd bu nb := by
  have c := t.core
  have o := t.own
  refine ⟨t.len, ⟨by rw [hs bt o.1]; exact c.row, c.l.eq (hs bl o.2.1), c.d.eq (hs bd o.2.2.1), c.u.eq (hs bu o.2.2.2), c.ld, c.lu, c.du⟩, fun e he => ?_, t.nd, t.nF, o, fun k hk => Nat.lt_of_lt_of_le (t.lt k hk) hn, t.ok, t.acl⟩
  obtain ⟨n, h1, h2, sl, h3, h4, h5⟩ := t.node e he
  refine ⟨n, h1, h2, sl, Nat.lt_of_lt_of_le h3 hn, by rw [hs n h2]; exact h4, ?_⟩
  rcases h5 with h5 | ⟨b, o, k, c, all, st, e1, e2, e3, e4, e5, e6⟩
  · exact .inl h5
  · exact .inr ⟨b, o, k, c, all, st, e1, e2, e3, Nat.lt_of_lt_of_le e4 hn, by rw [hs b e3]; exact e5, e6⟩
theorem TreeAt.keep {bt : Nat} (t : TreeAt h F T bt) {h' : Hp} (hn : h.next ≤ h'.next) (hs : ∀ k, F k → h'.get k = h.get k) : TreeAt h' F T bt := by
  obtain ⟨bl, bd, bu, nb, t⟩ := t; exact ⟨bl, bd, bu, nb, t.keep hn hs⟩
theorem TreeAt.keeps {bt : Nat} (t : TreeAt h F T bt) {h' : Hp} (k : Keep h h') : TreeAt h' F T bt := by
  obtain ⟨bl, bd, bu, nb, t⟩ := t; exact ⟨bl, bd, bu, nb, t.keep k.1 fun j hj => k.2 j (t.lt j hj)⟩
theorem tByUID_spec (t : TreeAt h F T bt) (u : Int) : Meets kon 25 [ptrV bt, .int .i64 u] h (OutP (T.byUID u) h) := by
  obtain ⟨bl, bd, bu, nb, t⟩ := t
  exact byUID_spec t.core t.ltb u (t.out_seg u)
theorem tNew_spec (h : Hp) : Meets kon 5 [] h fun v h' => ∃ F bt, v = ptrV bt ∧ Keep h h' ∧ TreeAt h' F newHi bt ∧ ∀ k, F k → h.next ≤ k := by
  refine (new_spec h).mono ?_
  rintro v h' ⟨rfl, hk, hx, c⟩
  refine ⟨fun k => h.next ≤ k ∧ k < h.next + 4, _, rfl, hk, ⟨h.next, h.next + 1, h.next + 2, [], ⟨rfl, ?_, by simp [newHi], .nil, by simp, ⟨⟨by omega, by omega⟩, ⟨by omega, by omega⟩, ⟨by omega, by omega⟩, ⟨by omega, by omega⟩⟩, fun k hk' => by omega, Hi.newHi_ok, fun i => by simp [newHi, Hi.br, noBn]⟩⟩, fun k hk' => hk'.1⟩
  have e2 : newHi.dirF = upd (fun _ => none) 0 (some 0) := by
    funext d
    unfold Hi.dirF Hi.is upd newHi Hi.count
    by_cases hd : d = 0
    · subst hd; simp
    · rw [if_neg hd, if_neg]
      simp only [Bool.and_eq_true, decide_eq_true_eq, beq_iff_eq]
      rintro ⟨h1, h2⟩
      have : d.toNat < 1 := by
        have := (List.getElem?_eq_some_iff.1 h2).1; simpa using this
      omega
  rw [e2]
  exact c
theorem TreeB.clean_eq (t : TreeB h F T bt bl bd bu nb) (b : Bn) : cleanR (fun u => nodeF nb (T.seg u)) ((T.D.length : Int) - 1) b = if T.cleanE b = 0 then (T.clean b, 0) else (noBn, T.cleanE b) := by
  unfold cleanR Hi.cleanE Hi.clean
  rw [nodeF_isSome (t.seglt b.uid)]
  by_cases k1 : b.kind = 1
  · simp only [if_pos k1]
    split
    · rfl
    · split <;> rfl
  · simp only [if_neg k1]
    by_cases k2 : b.kind = 2
    · simp only [if_pos k2]
      rw [show (T.D.length : Int) - 1 + 1 = T.D.length by omega]; rfl
    · simp only [if_neg k2]
      by_cases k3 : b.kind = 3
      · simp only [if_pos k3]
        split <;> rfl
      · simp only [if_neg k3]; rfl
theorem TreeB.addE_eq (t : TreeB h F T bt bl bd bu nb) (d : Int) (s : ByteArray) (b : Bn) : addE (fun k => nodeF nb (T.getF k)) T.dirF (fun u => nodeF nb (T.seg u)) ((T.D.length : Int) - 1) d s b = T.why d s b := by
  unfold addE Hi.why Hi.get
  rw [t.clean_eq, nodeF_isSome (t.getlt (d, s))]
  have e1 : (T.dirF d).isNone = !T.is d := by unfold Hi.dirF; cases T.is d <;> rfl
  rw [e1]
  cases T.is d with
  | false => rfl
  | true =>
    simp only [Bool.not_true, Bool.false_eq_true, Bool.true_eq_false, if_false]
    cases mayN s with
    | false => rfl
    | true =>
      simp only [Bool.true_eq_false, if_false]
      cases T.getF (d, s) with
      | some i => rfl
      | none =>
        simp only [Option.isSome_none, Bool.false_eq_true, if_false]
        split
        · rename_i hz; exact hz.symm
        · rfl
theorem CoreAt.sameTm {fL : Int × ByteArray → Option Nat} {fD : Int → Option Int} {fU : Int → Option Nat} {nx : Int} (c : CoreAt h bt bl bd bu fL fD fU nx) {h' : Hp} (hn : h.next ≤ h'.next)
    (hs : ∀ k, k < h.next → k ≠ bt → k ≠ bl → k ≠ bd → k ≠ bu → h'.get k = h.get k) : Same 54 h h' := ⟨hn, fun b all st hb hg => by
  obtain ⟨e1, e2, e3⟩ := c.row_ne hg
  rw [hs b hb (get_ne hg c.row (fun e => by simp at e)) e1 e2 e3]
  exact hg⟩
theorem br_out (T : Hi) {i : Nat} (h : ¬ i < T.B.length) : T.br i = noBn := by
  unfold Hi.br; rw [List.getElem?_eq_none (by omega)]; rfl
theorem TreeB.added (t : TreeB h F T bt bl bd bu nb) {d : Int} {s : ByteArray} {b : Bn} (hw : T.why d s b = 0) (hl : b.acl.length ≤ 1000000000) {h' : Hp} {n : Nat}
    (q : AddQ h bt bl bd bu (fun k => nodeF nb (T.getF k)) T.dirF (fun u => nodeF nb (T.seg u)) ((T.D.length : Int) - 1) d s (T.clean b) h' n) :
    TreeB h' (fun k => F k ∨ h.next ≤ k ∧ k < h'.next) (T.added d s b) bt bl bd bu (nb ++ [n]) := by
  have hnlt : n < h'.next := by obtain ⟨sl, h1, _⟩ := q.node; exact h1
  have hnn : ∀ k, F k → k ≠ n := fun k hk e => by have := t.lt k hk; have := q.new; omega
  have hd : T.is d = true := by
    unfold Hi.why at hw; cases hi : T.is d with
    | true => rfl
    | false => rw [hi, if_pos rfl] at hw; cases hw
  have hg : T.getF (d, s) = none := by
    unfold Hi.why Hi.get at hw; cases hi : T.getF (d, s) with
    | none => rfl
    | some i => rw [hi, hd] at hw; simp only [Bool.true_eq_false, if_false, Option.isSome_some, if_true] at hw; split at hw <;> cases hw
  have hnd : ¬ d = (T.D.length : Int) := fun e => by
    unfold Hi.is at hd
    rw [e] at hd
    simp at hd
  have hkind : ((T.clean b).kind = 2 ↔ b.kind = 2) := by
    unfold Hi.clean; split
    · rename_i hk; simp [hk]
    · split
      · rename_i hk; simp [hk]
      · rename_i hk; simp [hk]
  have hseg : (T.clean b).kind = 1 → T.seg (T.clean b).uid = none := fun hk => by
    have hb1 : b.kind = 1 := by
      unfold Hi.clean at hk; split at hk
      · assumption
      · split at hk <;> simp at hk
    have hu : (T.clean b).uid = b.uid := by unfold Hi.clean; rw [if_pos hb1]
    rw [hu]
    unfold Hi.why Hi.cleanE at hw
    rw [hd] at hw
    simp only [Bool.true_eq_false, if_false, if_pos hb1] at hw
    cases hi : T.seg b.uid with
    | none => rfl
    | some i =>
      rw [hi] at hw
      simp only [Option.isSome_some, if_true] at hw
      split at hw
      · cases hw
      · split at hw
        · cases hw
        · split at hw <;> cases hw
  have sm := t.core.sameTm q.next q.same
  have ok' := t.ok.added hw
  refine ⟨by simp [Hi.added, t.len], ?_, fun e he => ?_, ?_, fun k hk => ?_, ⟨.inl t.own.1, .inl t.own.2.1, .inl t.own.2.2.1, .inl t.own.2.2.2⟩, fun k hk => ?_, ok', fun i => ?_⟩
  · have c := q.core
    have eL : (fun k => nodeF (nb ++ [n]) ((T.added d s b).getF k)) = upd (fun k => nodeF nb (T.getF k)) (d, s) (some n) := by
      have := Hi.getF_snoc (B := T.B) (L := T.L) (D := T.D) (e := ⟨d, T.B.length, s⟩) (T.B ++ [T.clean b]) (if b.kind = 2 then T.D ++ [true] else T.D) hg
      have e1 : (T.added d s b).getF = _ := this
      rw [e1]
      funext k
      by_cases hk : k = (d, s)
      · subst hk
        show nodeF (nb ++ [n]) (upd _ (d, s) _ (d, s)) = _
        rw [upd_self, upd_self, nodeF_new t.len.symm]
      · show nodeF (nb ++ [n]) (upd _ (d, s) _ k) = _
        rw [upd_ne _ _ hk, upd_ne _ _ hk]
        exact nodeF_snoc (t.getlt k)
    have cnt : ∀ d', (T.added d s b).count d' = T.count d' + if d = d' then 1 else 0 := fun d' => Hi.count_snoc (e := ⟨d, T.B.length, s⟩) _ _ d'
    have c0 : (T.dirF d).getD 0 = T.count d := by unfold Hi.dirF; rw [if_pos hd]; rfl
    have noD : T.count (T.D.length : Int) = 0 := by
      refine Nat.eq_zero_of_not_pos fun hp => ?_
      obtain ⟨e, he, h1⟩ := Hi.count_pos.1 hp
      have h2 := t.ok.dirs e he
      rw [h1] at h2
      unfold Hi.is at h2
      simp at h2
    have eD : (T.added d s b).dirF = (if (T.clean b).kind = 2 then upd (upd T.dirF d (some ((T.dirF d).getD 0 + 1))) ((T.D.length : Int) - 1 + 1) (some 0) else upd T.dirF d (some ((T.dirF d).getD 0 + 1))) := by
      rw [c0, show (T.D.length : Int) - 1 + 1 = T.D.length by omega]
      by_cases hk : b.kind = 2
      · have his : ∀ d', (T.added d s b).is d' = if d' = (T.D.length : Int) then true else T.is d' := fun d' => by
          have := Hi.is_snoc (L := T.L) (B := T.B) (D := T.D) (T.added d s b).B (T.added d s b).L d'
          have e : (T.added d s b) = ⟨(T.added d s b).B, (T.added d s b).L, T.D ++ [true]⟩ := by unfold Hi.added; simp [hk]
          rw [e]; exact this
        rw [if_pos (hkind.2 hk)]
        funext d'
        show (if (T.added d s b).is d' = true then some ((T.added d s b).count d' : Int) else none) = _
        rw [his, cnt]
        by_cases e1 : d' = (T.D.length : Int)
        · subst e1
          rw [upd_self, if_pos rfl, if_pos rfl, noD, if_neg hnd]; rfl
        · rw [upd_ne _ _ e1, if_neg e1]
          by_cases e2 : d' = d
          · subst e2
            rw [upd_self, if_pos hd, if_pos rfl]; simp
          · rw [upd_ne _ _ e2, if_neg (Ne.symm e2), Nat.add_zero]; rfl
      · have his : ∀ d', (T.added d s b).is d' = T.is d' := fun d' => by unfold Hi.added Hi.is; simp [hk]
        rw [if_neg (fun h => hk (hkind.1 h))]
        funext d'
        show (if (T.added d s b).is d' = true then some ((T.added d s b).count d' : Int) else none) = _
        rw [his, cnt]
        by_cases e2 : d' = d
        · subst e2
          rw [upd_self, if_pos hd, if_pos rfl]; simp
        · rw [upd_ne _ _ e2, if_neg (Ne.symm e2), Nat.add_zero]; rfl
    have eS : (fun u => nodeF (nb ++ [n]) ((T.added d s b).seg u)) = if (T.clean b).kind = 1 then upd (fun u => nodeF nb (T.seg u)) (T.clean b).uid (some n) else fun u => nodeF nb (T.seg u) := by
      have e1 : (T.added d s b).seg = _ := Hi.seg_added (B := T.B) (L := T.L) (D := T.D) (e := ⟨d, T.B.length, s⟩) (c := T.clean b) t.ok.ids rfl (if b.kind = 2 then T.D ++ [true] else T.D) hseg
      rw [e1]
      by_cases hk : (T.clean b).kind = 1
      · rw [if_pos hk, if_pos hk]
        funext u
        by_cases hu : u = (T.clean b).uid
        · subst hu
          rw [upd_self, upd_self, nodeF_new t.len.symm]
        · rw [upd_ne _ _ hu, upd_ne _ _ hu]
          exact nodeF_snoc (t.seglt u)
      · rw [if_neg hk, if_neg hk]
        funext u
        exact nodeF_snoc (t.seglt u)
    have eN : (((T.added d s b).D.length : Nat) : Int) - 1 = if (T.clean b).kind = 2 then (T.D.length : Int) - 1 + 1 else (T.D.length : Int) - 1 := by
      by_cases hk : b.kind = 2
      · rw [if_pos (hkind.2 hk)]; simp [Hi.added, hk]
      · rw [if_neg (fun h => hk (hkind.1 h))]; simp [Hi.added, hk]
    rw [eL, eD, eS, eN]
    exact c
  · have hmany : ∀ i, (T.added d s b).many i = T.many i + if T.B.length = i then 1 else 0 := fun i => Hi.many_snoc (e := ⟨d, T.B.length, s⟩) _ _ i
    have he' : e ∈ T.L ∨ e = ⟨d, T.B.length, s⟩ := by simpa [Hi.added] using he
    rcases he' with he | rfl
    · have hid := t.ok.ids e he
      obtain ⟨m, h1, h2, sl, h3, h4, h5⟩ := t.node e he
      have hbr : (T.added d s b).br e.id = T.br e.id := Hi.br_snoc hid
      have hne := t.core.row_ne h4
      refine ⟨m, by rw [List.getElem?_append_left (by rw [t.len]; exact hid)]; exact h1, .inl h2, sl, Nat.lt_of_lt_of_le h3 q.next, ?_, ?_⟩
      · rw [q.same m h3 (t.core.node_ne h4) hne.1 hne.2.1 hne.2.2, hbr, hmany, if_neg (by omega)]
        exact h4
      · rw [hbr]; exact h5.same sm fun k hk => .inl hk
    · obtain ⟨sl, h3, h4, h5⟩ := q.node
      have hbr : (T.added d s b).br T.B.length = T.clean b := Hi.br_new
      have h0 : T.many T.B.length = 0 := by
        refine Nat.eq_zero_of_not_pos fun hp => ?_
        obtain ⟨e, he, h1⟩ := Hi.many_pos.1 hp
        have := t.ok.ids e he
        omega
      refine ⟨n, by rw [← t.len]; simp, .inr ⟨q.new, h3⟩, sl, h3, ?_, ?_⟩
      · rw [hbr, hmany, h0, if_pos rfl]
        exact h4
      · rw [hbr]
        rcases h5 with h5 | ⟨b, o, k, c, all, st, e1, e2, e3, e4, e5⟩
        · exact .inl h5
        · exact .inr ⟨b, o, k, c, all, st, e1, e2, .inr ⟨e3, e4⟩, e4, e5⟩
  · rw [List.nodup_append]
    refine ⟨t.nd, by simp, fun a ha b hb => ?_⟩
    simp only [List.mem_singleton] at hb
    subst hb
    exact hnn a (t.nF a ha)
  · rcases List.mem_append.1 hk with hk | hk
    · exact .inl (t.nF k hk)
    · simp only [List.mem_singleton] at hk; subst hk; exact .inr ⟨q.new, hnlt⟩
  · rcases hk with hk | hk
    · exact Nat.lt_of_lt_of_le (t.lt k hk) q.next
    · exact hk.2
  · by_cases hi : i < T.B.length
    · have : (T.added d s b).br i = T.br i := Hi.br_snoc hi
      rw [this]; exact t.acl i
    · by_cases hi2 : i = T.B.length
      · subst hi2
        have : (T.added d s b).br T.B.length = T.clean b := Hi.br_new
        rw [this]
        unfold Hi.clean; split
        · exact hl
        · split <;> simp
      · rw [br_out _ (by simp [Hi.added]; omega)]; simp [noBn]
theorem tAdd_spec (t : TreeAt h F T bt) (hL : T.L.length ≤ 1000000000000) (hB : T.B.length ≤ 1000000000000) {b : Bn} {sl : Value} (hs : TmSl h sl b.acl) (hl : b.acl.length ≤ 1000000000) (d : Int) (s : ByteArray) :
    Meets kon 8 [ptrV bt, .int .i64 d, .string s, .agg (bnC b sl).toArray] h fun v h' => v = .tuple #[.int .i64 (T.add d s b).2.1, .int .i64 (T.add d s b).2.2] ∧ ∃ F', TreeAt h' F' (T.add d s b).1 bt ∧ Upd h F h' F' := by
  obtain ⟨bl, bd, bu, nb, t⟩ := t
  have hfew := t.ok.few
  have hcnt : ∀ d, 0 ≤ (T.dirF d).getD 0 ∧ (T.dirF d).getD 0 ≤ 1000000000000 := fun d => by
    have := Hi.count_le T d
    unfold Hi.dirF
    split
    · simp; omega
    · simp
  refine (add_spec t.core t.ltb (by omega) (by omega) hs hl d s (by have := (hcnt d).1; omega) (by have := (hcnt d).2; omega)).mono ?_
  intro v h' hv
  unfold AddP at hv
  rw [t.addE_eq, t.clean_eq] at hv
  unfold Hi.add
  rcases hv with ⟨h1, rfl, hk⟩ | ⟨h1, h2, n, h3⟩
  · rw [if_neg h1]
    exact ⟨rfl, F, ⟨bl, bd, bu, nb, t.keep hk.1 fun j hj => hk.2 j (t.lt j hj)⟩, hk.1, fun k hk1 _ => hk.2 k hk1, fun k hk' => .inl hk'⟩
  · have hc : T.cleanE b = 0 := by
      unfold Hi.why at h1
      split at h1
      · cases h1
      · split at h1
        · cases h1
        · split at h1
          · cases h1
          · exact h1
    rw [if_pos hc] at h2 h3
    rw [if_pos h1]
    refine ⟨h2, _, ⟨bl, bd, bu, _, t.added h1 hl h3⟩, h3.next, fun k hk1 hk2 => ?_, fun k hk => ?_⟩
    · exact h3.same k hk1 (fun e => hk2 (e ▸ t.own.1)) (fun e => hk2 (e ▸ t.own.2.1)) (fun e => hk2 (e ▸ t.own.2.2.1)) (fun e => hk2 (e ▸ t.own.2.2.2))
    · rcases hk with hk | hk
      · exact .inl hk
      · exact .inr hk.1
end
end Go.Proofs.YtojcfpgapfceiaaDoor
namespace Go.Proofs.YtojcfpgapfceiaaDoor
open Go Go.Ev Go.Con
set_option linter.unusedSimpArgs false
set_option linter.unusedVariables false
set_option maxRecDepth 100000
section
variable {h : Hp} {F : Nat → Prop} {T : Hi} {bt bl bd bu : Nat} {nb : List Nat}
theorem nb_inj {nb : List Nat} (nd : nb.Nodup) {i j n : Nat} (h1 : nb[i]? = some n) (h2 : nb[j]? = some n) : i = j := by
  exact (List.getElem?_inj (List.getElem?_eq_some_iff.1 h1).1 nd).1 (h1.trans h2.symm)
theorem TreeB.named (t : TreeB h F T bt bl bd bu nb) {d : Int} {s m : ByteArray} {i n : Nat} (hg : T.getF (d, s) = some i) (hm : T.getF (d, m) = none) (hn : nb[i]? = some n) {h' : Hp} {x : Nd} {sl : Value}
    (hx : h.get n = some (.row (ndC x sl) 72 (.rw 0 []))) (hx2 : x = ⟨T.br i, d, T.many i⟩) (hsl : TmTy h F sl (T.br i).acl)
    (c : CoreAt h' bt bl bd bu (upd (fun k => nodeF nb (T.getF k)) (d, m) (some n)) (upd T.dirF d (some ((T.dirF d).getD 0 + 1))) (fun u => nodeF nb (T.seg u)) ((T.D.length : Int) - 1))
    (hy : h'.get n = some (.row (ndC { x with many := x.many + 1 } sl) 72 (.rw 0 []))) (hnx : h'.next = h.next) (hs : ∀ k, k ≠ bl → k ≠ bd → k ≠ n → h'.get k = h.get k) : TreeB h' F (T.named d m i) bt bl bd bu nb := by
  obtain ⟨ok', seg'⟩ := t.ok.named hg hm
  obtain ⟨e0, he0, hk0, hi0⟩ := Hi.get_some hg
  have hd0 : e0.dir = d := congrArg Prod.fst hk0
  have hd : T.is d = true := hd0 ▸ t.ok.dirs e0 he0
  have hFn : F n := t.nF n (List.mem_of_getElem? hn)
  have hnlt := t.lt n hFn
  have sm : Same 54 h h' := ⟨Nat.le_of_eq hnx.symm, fun b all st hb hgb => by
    obtain ⟨e1, e2, e3⟩ := t.core.row_ne hgb
    rw [hs b e1 e2 (get_ne hgb hx (fun e => by simp at e))]; exact hgb⟩
  have hmany : ∀ j, (T.named d m i).many j = T.many j + if i = j then 1 else 0 := fun j => Hi.many_snoc (e := ⟨d, i, m⟩) T.B T.D j
  refine ⟨t.len, ?_, fun e he => ?_, t.nd, t.nF, t.own, fun k hk => by rw [hnx]; exact t.lt k hk, ok', t.acl⟩
  · have eL : (fun k => nodeF nb ((T.named d m i).getF k)) = upd (fun k => nodeF nb (T.getF k)) (d, m) (some n) := by
      have e1 : (T.named d m i).getF = _ := Hi.getF_snoc (B := T.B) (L := T.L) (D := T.D) (e := ⟨d, i, m⟩) T.B T.D hm
      rw [e1]
      funext k
      by_cases hk : k = (d, m)
      · subst hk
        show nodeF nb (upd _ (d, m) _ (d, m)) = _
        rw [upd_self, upd_self]; exact hn
      · show nodeF nb (upd _ (d, m) _ k) = _
        rw [upd_ne _ _ hk, upd_ne _ _ hk]
    have cnt : ∀ d', (T.named d m i).count d' = T.count d' + if d = d' then 1 else 0 := fun d' => Hi.count_snoc (e := ⟨d, i, m⟩) T.B T.D d'
    have c0 : (T.dirF d).getD 0 = T.count d := by unfold Hi.dirF; rw [if_pos hd]; rfl
    have eD : (T.named d m i).dirF = upd T.dirF d (some ((T.dirF d).getD 0 + 1)) := by
      rw [c0]
      funext d'
      show (if T.is d' = true then some ((T.named d m i).count d' : Int) else none) = _
      rw [cnt]
      by_cases e2 : d' = d
      · subst e2
        rw [upd_self, if_pos hd, if_pos rfl]; simp
      · rw [upd_ne _ _ e2, if_neg (Ne.symm e2), Nat.add_zero]; rfl
    rw [eL, eD, seg']
    exact c
  · have he' : e ∈ T.L ∨ e = ⟨d, i, m⟩ := by simpa [Hi.named] using he
    have hat : ∃ e1 ∈ T.L, e1.id = e.id ∧ e1.dir = e.dir := by
      rcases he' with he | rfl
      · exact ⟨e, he, rfl, rfl⟩
      · exact ⟨e0, he0, hi0, hd0⟩
    obtain ⟨e1, he1, hid, hdir⟩ := hat
    obtain ⟨n', h1, h2, sl', h3, h4, h5⟩ := t.node e1 he1
    rw [hid, hdir] at h4
    rw [hid] at h1 h5
    refine ⟨n', h1, h2, ?_⟩
    by_cases hii : e.id = i
    · have hnn : n' = n := by rw [hii, hn] at h1; exact (Option.some.inj h1).symm
      subst hnn
      refine ⟨sl, by omega, ?_, ?_⟩
      · rw [hy, hx2, hmany, hii, if_pos rfl]
        have hdd : e.dir = d := by
          rw [← hdir, ← hd0]
          exact t.ok.homes e1 he1 e0 he0 (by rw [hid, hii, hi0])
        rw [hdd]; rfl
      · rw [hii]; exact hsl.same sm fun _ hk => hk
    · have hne : n' ≠ n := fun e' => hii (nb_inj t.nd (e' ▸ h1) hn)
      have hr := t.core.row_ne h4
      refine ⟨sl', by omega, ?_, h5.same sm fun _ hk => hk⟩
      rw [hs n' hr.1 hr.2.1 hne, hmany, if_neg (Ne.symm hii)]
      exact h4
theorem br_setB (T : Hi) (i : Nat) (b : Bn) (j : Nat) : (T.setB i b).br j = if j = i ∧ i < T.B.length then b else T.br j := by
  unfold Hi.setB Hi.br
  by_cases hj : j = i
  · subst hj
    by_cases hl : j < T.B.length
    · rw [if_pos ⟨rfl, hl⟩]; simp [hl]
    · rw [if_neg (fun h => hl h.2)]; simp [hl]
  · rw [if_neg (fun h => hj h.1)]
    simp only [List.getElem?_set_ne (Ne.symm hj)]
theorem TreeB.setB (t : TreeB h F T bt bl bd bu nb) {d : Int} {s : ByteArray} {i : Nat} (hg : T.getF (d, s) = some i) {b' : Bn} {h' : Hp} (ch : Chd h (nodeF nb (some i)) (T.br i) b' h')
    (hk : b'.kind = (T.br i).kind) (hu : b'.uid = (T.br i).uid) (hdr : b'.dir = (T.br i).dir) (hl : b'.acl.length ≤ 1000000000) :
    TreeB h' (fun k => F k ∨ h.next ≤ k ∧ k < h'.next) (T.setB i b') bt bl bd bu nb ∧ ∀ k, k < h.next → ¬ F k → h'.get k = h.get k := by
  obtain ⟨n, x, sl, sl', hn, hrow, hnlt, hxb, hrow', hsl', hnx, hs⟩ := ch
  obtain ⟨ok', seg'⟩ := t.ok.setB hk hu hdr
  obtain ⟨e0, he0, hk0, hi0⟩ := Hi.get_some hg
  have hid := t.ok.ids e0 he0
  obtain ⟨n0, hn0, hF0, sl0, hlt0, hr0, hs0⟩ := t.node e0 he0
  rw [hi0] at hn0 hr0 hs0 hid
  have hnn : n0 = n := by
    have h1 : nb[i]? = some n := hn
    rw [hn0] at h1; exact Option.some.inj h1
  subst hnn
  rw [hrow] at hr0
  simp only [ndC, Option.some.injEq, Ob.row.injEq, List.cons.injEq, Value.int.injEq, true_and, and_true] at hr0
  have ne := t.core.row_ne hrow
  have nt := t.core.node_ne hrow
  have c := t.core
  have o := t.own
  have sm : Same 54 h h' := Same.one (b := n0) (by rw [hrow]; exact (by decide : 72 ≠ 54)) hnx fun j hj hj2 => hs j hj hj2
  refine ⟨⟨by rw [t.len]; simp [Hi.setB], ?_, fun e he => ?_, t.nd, fun m hm => .inl (t.nF m hm), ⟨.inl o.1, .inl o.2.1, .inl o.2.2.1, .inl o.2.2.2⟩, fun k hk => ?_, ok', fun j => ?_⟩, fun k h1 h2 => hs k h1 fun e => h2 (e ▸ hF0)⟩
  · have lt := t.ltb
    show CoreAt h' bt bl bd bu (fun k => nodeF nb (T.getF k)) T.dirF (fun u => nodeF nb ((T.setB i b').seg u)) ((T.D.length : Int) - 1)
    rw [seg']
    exact ⟨by rw [hs bt lt.1 (Ne.symm nt)]; exact c.row, c.l.eq (hs bl lt.2.1 (Ne.symm ne.1)), c.d.eq (hs bd lt.2.2.1 (Ne.symm ne.2.1)), c.u.eq (hs bu lt.2.2.2 (Ne.symm ne.2.2)), c.ld, c.lu, c.du⟩
  · have he : e ∈ T.L := he
    obtain ⟨m, h1, h2, sl2, h3, h4, h5⟩ := t.node e he
    rw [br_setB]
    refine ⟨m, h1, .inl h2, ?_⟩
    by_cases hii : e.id = i
    · have hmn : m = n0 := by rw [hii, hn0] at h1; exact (Option.some.inj h1).symm
      subst hmn
      rw [if_pos ⟨hii, hid⟩]
      refine ⟨sl', Nat.lt_of_lt_of_le hlt0 hnx, ?_, ?_⟩
      · rw [hrow']
        have e1 : x.home = e.dir := by
          rw [t.ok.homes e he e0 he0 (hii.trans hi0.symm)]
          have := hr0; simp_all
        have e2 : x.many = (T.many e.id : Nat) := by rw [hii]; have := hr0; simp_all
        rw [e1, e2]; rfl
      · rcases hsl' with ⟨e1, e2⟩ | h6
        · have e3 : sl = sl0 := by have := hr0; simp_all
          rw [e1, e2, e3]
          exact hs0.same sm fun _ hk => .inl hk
        · rcases h6 with h6 | ⟨b, o, k, c, all, st, a1, a2, a3, a4, a5⟩
          · exact .inl h6
          · exact .inr ⟨b, o, k, c, all, st, a1, a2, .inr ⟨a3, a4⟩, a4, a5⟩
    · rw [if_neg (fun h => hii h.1)]
      have hmn : m ≠ n0 := fun e' => hii (nb_inj t.nd (e' ▸ h1) hn0)
      exact ⟨sl2, Nat.lt_of_lt_of_le h3 hnx, by rw [hs m h3 hmn]; exact h4, h5.same sm fun _ hk => .inl hk⟩
  · rcases hk with hk | hk
    · exact Nat.lt_of_lt_of_le (t.lt k hk) hnx
    · exact hk.2
  · rw [br_setB]
    split
    · exact hl
    · exact t.acl j
theorem Upd.of {h h' : Hp} {F : Nat → Prop} (hn : h.next ≤ h'.next) (hs : ∀ k, k < h.next → ¬ F k → h'.get k = h.get k) : Upd h F h' (fun k => F k ∨ h.next ≤ k ∧ k < h'.next) :=
  ⟨hn, hs, fun k hk => hk.imp id (·.1)⟩
theorem Upd.keep {h h' : Hp} {F : Nat → Prop} (k : Keep h h') : Upd h F h' F := ⟨k.1, fun j hj _ => k.2 j hj, fun _ hk => .inl hk⟩
end
end Go.Proofs.YtojcfpgapfceiaaDoor
namespace Go.Proofs.YtojcfpgapfceiaaDoor
open Go Go.Ev Go.Con
set_option linter.unusedSimpArgs false
set_option linter.unusedVariables false
set_option maxRecDepth 100000
theorem refUser_spec (s : ByteArray) (h : Hp) : Meets kon 42 [.string s] h fun v h' => v = .bool (mayU s) ∧ h' = h := by
  refine Meets.mk rfl (by kernel_rfl) Tryd.func42 rfl (congrArg Array.toList Tryd.results42) ?_
  simp only [evr, nextP_norm, evd, evq, beq_self_eq_true, cond_true, cond_false, reduceIte, Nat.reduceEqDiff, Nat.reduceAdd, Int.reduceBNe, Int.reduceBEq, Int.reduceLT, Int.reduceLE, Int.reduceEq, typs, (plain_spec s 16 16 rfl (by omega) h).call]
theorem TmSl.user {h : Hp} {v : Value} {l : List Tm} (s : TmSl h v l) {i : Nat} {x : Tm} (hi : l[i]? = some x) : ∃ b o all, evIndexAddr kon.P 22 v (.int .i64 i) = some (.pointer (some ⟨b, o, none⟩)) ∧ b < h.next ∧
    rowOf h b = some all ∧ all[o]? = some (.string x.user) := by
  obtain ⟨b, o, all, h1, h2, h3, h4, h5⟩ := s.at hi
  refine ⟨b, o, all, h1, h2, h3, ?_⟩
  have := congrArg (fun c : List Value => c[0]?) h5
  simpa [tmC] using this
theorem evBin_leqS {P : Program} {t : TypeId} {xo yo : Operand} {s u : ByteArray} : evBin P .leq t xo yo (.string s) (.string u) = some (.bool !ltS u s) := by
  show some (Value.bool (Op.bytesLess s.toList u.toList || s.toList == u.toList)) = _
  rw [toList_data, toList_data, bless_lt, leS_not]; rfl
set_option maxHeartbeats 8000000 in
theorem refListMay_spec {h : Hp} {v : Value} {l : List Tm} (s : TmSl h v l) (hl : l.length ≤ 1000000000) : Meets kon 28 [v] h fun u h' => u = .bool (listMay l) ∧ h' = h := by
  refine Meets.mk rfl (by kernel_rfl) Tryd.func28 rfl (congrArg Array.toList Tryd.results28) ?_
  have la := s.len
  rcases Bool.eq_false_or_eq_true (decide ((16 : Int) < l.length)) with e1 | e1
  · simp only [evr, nextP_norm, evd, evq, beq_self_eq_true, cond_true, cond_false, reduceIte, Nat.reduceEqDiff, Nat.reduceAdd, Int.reduceBNe, Int.reduceBEq, Int.reduceLT, Int.reduceLE, Int.reduceEq, typs, la, e1]
    have : ¬ l.length ≤ 16 := by simp at e1; omega
    simp [listMay, this]
  simp only [evr, nextP_norm, evd, evq, beq_self_eq_true, cond_true, cond_false, reduceIte, Nat.reduceEqDiff, Nat.reduceAdd, Int.reduceBNe, Int.reduceBEq, Int.reduceLT, Int.reduceLE, Int.reduceEq, typs, la, e1]
  have h16 : l.length ≤ 16 := by simp at e1; omega
  refine Wp_loop (fun k fr h' => h' = h ∧ ∃ i : Nat, k = l.length - i ∧ i ≤ l.length ∧ fr.get 0 = some v ∧ fr.get 3 = some (.int .i64 i) ∧ (List.range i).all (okAt l) = true) l.length ⟨rfl, 0, rfl, Nat.zero_le _, ?_, ?_, rfl⟩ ?_
  · simp only [evr, nextP_norm, evd, evq, beq_self_eq_true, cond_true, cond_false, reduceIte, Nat.reduceEqDiff, Nat.reduceAdd, Int.reduceBNe, Int.reduceBEq, Int.reduceLT, Int.reduceLE, Int.reduceEq, typs]
  · simp only [evr, nextP_norm, evd, evq, beq_self_eq_true, cond_true, cond_false, reduceIte, Nat.reduceEqDiff, Nat.reduceAdd, Int.reduceBNe, Int.reduceBEq, Int.reduceLT, Int.reduceLE, Int.reduceEq, typs]
    rfl
  rintro k fr h' ⟨rfl, i, rfl, hi, g0, g3, hp⟩
  by_cases h3 : i < l.length
  · have e3 : decide ((i : Int) < l.length) = true := by simp; omega
    obtain ⟨x, hx⟩ : ∃ x, l[i]? = some x := ⟨_, List.getElem?_eq_getElem h3⟩
    obtain ⟨b, o, all, ha, hb, hr, hu⟩ := TmSl.user s hx
    have hx' := tmAt_eq hx
    simp only [evr, nextP_norm, evd, evq, beq_self_eq_true, cond_true, cond_false, reduceIte, Nat.reduceEqDiff, Nat.reduceAdd, Int.reduceBNe, Int.reduceBEq, Int.reduceLT, Int.reduceLE, Int.reduceEq, evh, evp, Nat.reduceLeDiff, Nat.reduceSub, Nat.reduceBEq, typs, la, g0, g3, e3]
    refine Wp_drawE [0, 0, 0, 0, 1, 0, 0, 0, 0, 0, 0, 1, 4, 0, 0, 0, 0, 0, 0, 0, 0, 0, 0, 1, 0, 0, 0, 0, 0, 1, 0, 0, 0] (KR.mk (by kernel_rfl)) ?_
    have hus := (refUser_spec x.user h').call
    have bad : okAt l i = false → listMay l = false := fun hk => by unfold listMay; rw [all_no h3 hk]; rfl
    have go : okAt l i = true → ∃ j, j < l.length - i ∧ h' = h' ∧ ∃ i', j = l.length - i' ∧ i' ≤ l.length ∧ ((i : Int) + 1 = (i' : Int)) ∧ (List.range i').all (okAt l) = true := fun hk =>
      ⟨l.length - (i + 1), by omega, rfl, i + 1, rfl, by omega, by omega, all_succ hp hk⟩
    have ws := wrap64 (x := (i : Int) + 1) (by omega) (by omega)
    have huT : userT x.user = (decide (x.user = (ByteArray.mk #[42])) || mayU x.user) := rfl
    cases i with
    | zero =>
      have hok : okAt l 0 = userT x.user := by unfold okAt; rw [hx']; simp
      rw [hok, huT] at bad go
      have e4 : decide ((0 : Int) < ((0 : Nat) : Int)) = false := rfl
      cases e5 : decide (x.user = (ByteArray.mk #[42])) <;> cases e6 : mayU x.user
      all_goals
        rw [e5, e6] at bad go
        rw [e6] at hus
        repeat' (first | simp only [evr, nextP_norm, evd, evq, beq_self_eq_true, cond_true, cond_false, reduceIte, Nat.reduceEqDiff, Nat.reduceAdd, Int.reduceBNe, Int.reduceBEq, Int.reduceLT, Int.reduceLE, Int.reduceEq, evh, evp, Nat.reduceLeDiff, Nat.reduceSub, Nat.reduceBEq, typs, g0, g3, ha, hr, hu, hus, e4, e5, ws] | refine kCond2_by (fun hc => ?_) (fun hc => ?_) <;> try simp only [hc] | refine kPick_by (fun hc => ?_) (fun hc => ?_) <;> try simp only [hc] | refine kWant_by (fun hc => ?_) (fun hc => ?_) <;> try simp only [hc])
        first
        | (rw [bad rfl])
        | (obtain ⟨j, j1, _, i', j2, j3, j4, j5⟩ := go rfl
           first | exact ⟨j, j1, i', j2, j3, by rw [← j4], j5⟩ | exact ⟨j, j1, i', j2, j3, j4, j5⟩)
    | succ j =>
      obtain ⟨y, hy⟩ : ∃ y, l[j]? = some y := ⟨_, List.getElem?_eq_getElem (by omega)⟩
      obtain ⟨b2, o2, all2, ha2, hb2, hr2, hu2⟩ := TmSl.user s hy
      have hy' := tmAt_eq hy
      have e4 : decide ((0 : Int) < ((j + 1 : Nat) : Int)) = true := decide_eq_true (by omega)
      have w1 : IntKind.i64.wrap (((j + 1 : Nat) : Int) - 1) = (j : Int) := by rw [wrap64 (by omega) (by omega)]; omega
      have hok : okAt l (j + 1) = (userT x.user && ltS y.user x.user) := by unfold okAt; rw [hx', Nat.add_sub_cancel, hy']; simp
      rw [hok, huT] at bad go
      cases e5 : decide (x.user = (ByteArray.mk #[42])) <;> cases e6 : mayU x.user <;> cases e7 : ltS y.user x.user
      all_goals
        rw [e5, e6, e7] at bad go
        rw [e6] at hus
        repeat' (first | simp only [evr, nextP_norm, evd, evq, beq_self_eq_true, cond_true, cond_false, reduceIte, Nat.reduceEqDiff, Nat.reduceAdd, Int.reduceBNe, Int.reduceBEq, Int.reduceLT, Int.reduceLE, Int.reduceEq, evh, evp, Nat.reduceLeDiff, Nat.reduceSub, Nat.reduceBEq, typs, g0, g3, ha, hr, hu, hus, e4, ha2, hr2, hu2, w1, e5, ws, evBin_leqS, e7] | refine kCond2_by (fun hc => ?_) (fun hc => ?_) <;> try simp only [hc] | refine kPick_by (fun hc => ?_) (fun hc => ?_) <;> try simp only [hc] | refine kWant_by (fun hc => ?_) (fun hc => ?_) <;> try simp only [hc])
        first
        | (rw [bad rfl])
        | (obtain ⟨j, j1, _, i', j2, j3, j4, j5⟩ := go rfl
           first | exact ⟨j, j1, i', j2, j3, by rw [← j4], j5⟩ | exact ⟨j, j1, i', j2, j3, j4, j5⟩)
  · have e3 : decide ((i : Int) < l.length) = false := by simp; omega
    have hi2 : i = l.length := by omega
    subst hi2
    simp only [evr, nextP_norm, evd, evq, beq_self_eq_true, cond_true, cond_false, reduceIte, Nat.reduceEqDiff, Nat.reduceAdd, Int.reduceBNe, Int.reduceBEq, Int.reduceLT, Int.reduceLE, Int.reduceEq, evh, evp, Nat.reduceLeDiff, Nat.reduceSub, Nat.reduceBEq, typs, la, g0, g3, e3]
    unfold listMay
    rw [hp]
    simp [h16]
end Go.Proofs.YtojcfpgapfceiaaDoor
