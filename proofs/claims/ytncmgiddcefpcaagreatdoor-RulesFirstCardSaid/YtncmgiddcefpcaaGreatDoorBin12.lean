/- Texts joined: what the claim needs of them. No condition. -/
import Derived.Test.YtncmgiddcefpcaaGreatDoorBin11
import Derived.Test.YtncmgiddcefpcaaGreatDoorBin10
import Derived.Test.YtncmgiddcefpcaaGreatDoorProg
import Derived.Test.YtncmgiddcefpcaaGreatDoorBin4
import Derived.Maps.RangeWalk
import Derived.Sort.OwnSorted
import Derived.WalkKit
import Derived.ProofKit
import Derived.OpenShut
import Derived.Maps.AppendAt
import Derived.Laws.Cover1
import Derived.Shelf.Small.Bits
import Derived.Shelf.Small.Strs
import Derived.Shelf.Utf8.RuneCount
import Derived.Shelf.Strconv.Itoa0
import Derived.Shelf.Strings.Search1
import Derived.Shelf.Strings.Search2
import Derived.Shelf.Strings.Search3
import Derived.Shelf.Strings.Count
import Derived.Shelf.LaysM
import Derived.Shelf.Strings.Shaped
import Derived.Shelf.Strings.Split
import Derived.Shelf.Strings.SplitShaped
import Derived.Shelf.Unicode.Decode
import Derived.Shelf.Strings.RuneCount
import Derived.Shelf.Strings.Explode
import Derived.Shelf.Unicode.DecodeSlow
import Derived.Shelf.Unicode.DecodeAny
import Derived.Ground.SlsfProg
import Derived.Shelf.SlSortCmp.Insertion
import Derived.Shelf.SlSortCmp.SiftDown1
import Derived.Shelf.SlSortCmp.HeapSort1
import Derived.Shelf.SlSortCmp.Insertion1
import Derived.Shelf.SlSortCmp.Median1
import Derived.Shelf.SlSortCmp.Pivot1
import Derived.Shelf.SlSortCmp.ReverseRange1
import Derived.Shelf.SlSortCmp.PartialInsertion1
import Derived.Shelf.SlSortCmp.PartitionEqual1
import Derived.Shelf.SlSortCmp.Partition1
import Derived.Shelf.SlSortCmp.Pdq1
import Derived.Shelf.SlSortCmp.Whole1
import Derived.Shelf.SlSortCmp.NoneTotal
import Derived.Test.YtncmgiddcefpcaaGreatDoorEvM3
import Derived.Test.YtncmgiddcefpcaaGreatDoorBin6
namespace Go.Proofs.YtncmgiddcefpcaaGreatDoor
open Go Go.Ev Go.Con
set_option linter.unusedSimpArgs false
set_option linter.unusedVariables false
set_option maxRecDepth 100000
def rlC (r : Rl) : List Value := [.int .i64 r.kind, .string r.path]
abbrev RlSl (h : Hp) (v : Value) (l : List Rl) : Prop := SlAt h 2 v ((l.map rlC).flatten)
theorem RlSl.len {h : Hp} {v : Value} {l : List Rl} (s : RlSl h v l) : evLen kon.P 81 v = some (.int .i64 l.length) := by
  have fl := flat_len rlC (n := 2) (fun _ => rfl) l
  rcases s with ⟨rfl, hl⟩ | ⟨b, o, k, c, all, rfl, h2, h3, h4, h5, h6⟩
  · rw [hl] at fl
    have : l = [] := List.length_eq_zero_iff.1 (by simp at fl; omega)
    subst this; exact evLen_slice (e := 83) (by kernel_rfl)
  · have : k = l.length := by omega
    subst this
    exact evLen_slice (e := 83) (by kernel_rfl)
theorem RlSl.at {h : Hp} {v : Value} {l : List Rl} (s : RlSl h v l) {i : Nat} {x : Rl} (hi : l[i]? = some x) : ∃ b o all, evIndexAddr kon.P 81 v (.int .i64 i) = some (.pointer (some ⟨b, o, none⟩)) ∧ b < h.next ∧ rowOf h b = some all ∧
    decide (o + 2 ≤ all.length) = true ∧ (all.drop o).take 2 = [.int .i64 x.kind, .string x.path] ∧ all[o]? = some (.int .i64 x.kind) ∧ all[o + 1]? = some (.string x.path) := by
  have fl := flat_len rlC (n := 2) (fun _ => rfl) l
  have hlt : i < l.length := (List.getElem?_eq_some_iff.1 hi).1
  rcases s with ⟨rfl, hl⟩ | ⟨b, o, k, c, all, rfl, h2, h3, h4, h5, h6⟩
  · rw [hl] at fl; simp at fl; omega
  · have hk : k = l.length := by omega
    subst hk
    have hz : o + l.length * 2 ≤ all.length := by
      have := congrArg List.length h6
      rw [List.length_take, List.length_drop, fl] at this; omega
    have hc : (all.drop (o + i * 2)).take 2 = [.int .i64 x.kind, .string x.path] := by
      have := flat_at rlC (n := 2) (fun _ => rfl) l hi
      rw [← h6, List.drop_take, List.take_take, List.drop_drop] at this
      rw [← show rlC x = [.int .i64 x.kind, .string x.path] from rfl, ← this]
      congr 1; omega
    have e : ∀ j, j < 2 → all[o + i * 2 + j]? = ([.int .i64 x.kind, .string x.path] : List Value)[j]? := fun j hj => by rw [← hc, List.getElem?_take, if_pos hj, List.getElem?_drop]
    refine ⟨b, o + i * 2, all, ?_, h3, h4, decide_eq_true (by omega), hc, e 0 (by decide), e 1 (by decide)⟩
    have := L_indexAddr (C := kon) (t := 81) (e := 83) (n := 2) (by kernel_rfl) (by kernel_rfl) b o l.length c .i64 i (by omega) (by omega)
    simpa using this
theorem one_spec (r : Rl) (h : Hp) : Meets kon 76 [.agg #[.int .i64 r.kind, .string r.path]] h fun v h' => v = .bool (ruleOne r) ∧ Keep h h' := by
  have ee : (ByteArray.mk #[]) = ByteArray.empty := rfl
  refine Meets.mk rfl (by kernel_rfl) Tryz.func76 rfl (congrArg Array.toList Tryz.results76) ?_
  simp only [evr, evd, evq, beq_self_eq_true, cond_true, cond_false, reduceIte, Nat.reduceEqDiff, Nat.reduceAdd, Int.reduceBNe, Int.reduceBEq, Int.reduceLT, Int.reduceLE, Int.reduceEq, evh, evp, Nat.reduceLeDiff, Nat.reduceSub, Nat.reduceBEq, typs]
  rw [nextP_norm]
  generalize hh : Hp.push _ _ = H
  have kH : Keep h H := by rw [← hh]; exact Keep.push _ _
  have q : rowOf H h.next = some [.int .i64 r.kind, .string r.path] := by rw [← hh]; exact rowOf_rw (Hp.get_push_self _ _)
  clear hh
  unfold ruleOne
  by_cases h1 : r.kind = 1
  · have f1 : (r.kind == 1) = true := by simp [h1]
    rw [if_pos (.inl h1)]
    repeat' (first | simp only [evr, nextP_norm, evd, evq, beq_self_eq_true, cond_true, cond_false, reduceIte, Nat.reduceEqDiff, Nat.reduceAdd, Int.reduceBNe, Int.reduceBEq, Int.reduceLT, Int.reduceLE, Int.reduceEq, evh, evp, Nat.reduceLeDiff, Nat.reduceSub, Nat.reduceBEq, typs, q, f1, ee] | refine kCond2_by (fun hc => ?_) (fun hc => ?_) <;> try simp only [hc] | refine kPick_by (fun hc => ?_) (fun hc => ?_) <;> try simp only [hc] | refine kWant_by (fun hc => ?_) (fun hc => ?_) <;> try simp only [hc])
    exact kH
  have f1 : (r.kind == 1) = false := by simp [h1]
  by_cases h2 : r.kind = 2
  · have f2 : (r.kind == 2) = true := by simp [h2]
    rw [if_pos (.inr h2)]
    repeat' (first | simp only [evr, nextP_norm, evd, evq, beq_self_eq_true, cond_true, cond_false, reduceIte, Nat.reduceEqDiff, Nat.reduceAdd, Int.reduceBNe, Int.reduceBEq, Int.reduceLT, Int.reduceLE, Int.reduceEq, evh, evp, Nat.reduceLeDiff, Nat.reduceSub, Nat.reduceBEq, typs, q, f1, f2, ee] | refine kCond2_by (fun hc => ?_) (fun hc => ?_) <;> try simp only [hc] | refine kPick_by (fun hc => ?_) (fun hc => ?_) <;> try simp only [hc] | refine kWant_by (fun hc => ?_) (fun hc => ?_) <;> try simp only [hc])
    exact kH
  have f2 : (r.kind == 2) = false := by simp [h2]
  rw [if_neg (by simp [h1, h2])]
  by_cases h3 : r.kind = 3
  · have f3 : (r.kind == 3) = true := by simp [h3]
    rw [if_pos h3]
    repeat' (first | simp only [evr, nextP_norm, evd, evq, beq_self_eq_true, cond_true, cond_false, reduceIte, Nat.reduceEqDiff, Nat.reduceAdd, Int.reduceBNe, Int.reduceBEq, Int.reduceLT, Int.reduceLE, Int.reduceEq, evh, evp, Nat.reduceLeDiff, Nat.reduceSub, Nat.reduceBEq, typs, q, f1, f2, f3] | refine kCond2_by (fun hc => ?_) (fun hc => ?_) <;> try simp only [hc] | refine kPick_by (fun hc => ?_) (fun hc => ?_) <;> try simp only [hc] | refine kWant_by (fun hc => ?_) (fun hc => ?_) <;> try simp only [hc])
    refine callP_meets (split_spec r.path H) ?_
    rintro u H2 ⟨k2, hu⟩
    cases hs : split r.path with
    | none =>
      rw [hs] at hu
      simp only at hu
      subst hu
      repeat' (first | simp only [evr, nextP_norm, evd, evq, beq_self_eq_true, cond_true, cond_false, reduceIte, Nat.reduceEqDiff, Nat.reduceAdd, Int.reduceBNe, Int.reduceBEq, Int.reduceLT, Int.reduceLE, Int.reduceEq, evh, evp, Nat.reduceLeDiff, Nat.reduceSub, Nat.reduceBEq, typs] | refine kCond2_by (fun hc => ?_) (fun hc => ?_) <;> try simp only [hc] | refine kPick_by (fun hc => ?_) (fun hc => ?_) <;> try simp only [hc] | refine kWant_by (fun hc => ?_) (fun hc => ?_) <;> try simp only [hc])
      exact ⟨rfl, kH.trans k2⟩
    | some l =>
      rw [hs] at hu
      simp only at hu
      obtain ⟨sl, rfl, g⟩ := hu
      repeat' (first | simp only [evr, nextP_norm, evd, evq, beq_self_eq_true, cond_true, cond_false, reduceIte, Nat.reduceEqDiff, Nat.reduceAdd, Int.reduceBNe, Int.reduceBEq, Int.reduceLT, Int.reduceLE, Int.reduceEq, evh, evp, Nat.reduceLeDiff, Nat.reduceSub, Nat.reduceBEq, typs] | refine kCond2_by (fun hc => ?_) (fun hc => ?_) <;> try simp only [hc] | refine kPick_by (fun hc => ?_) (fun hc => ?_) <;> try simp only [hc] | refine kWant_by (fun hc => ?_) (fun hc => ?_) <;> try simp only [hc])
      exact ⟨rfl, kH.trans k2⟩
  have f3 : (r.kind == 3) = false := by simp [h3]
  rw [if_neg h3]
  repeat' (first | simp only [evr, nextP_norm, evd, evq, beq_self_eq_true, cond_true, cond_false, reduceIte, Nat.reduceEqDiff, Nat.reduceAdd, Int.reduceBNe, Int.reduceBEq, Int.reduceLT, Int.reduceLE, Int.reduceEq, evh, evp, Nat.reduceLeDiff, Nat.reduceSub, Nat.reduceBEq, typs, q, f1, f2, f3] | refine kCond2_by (fun hc => ?_) (fun hc => ?_) <;> try simp only [hc] | refine kPick_by (fun hc => ?_) (fun hc => ?_) <;> try simp only [hc] | refine kWant_by (fun hc => ?_) (fun hc => ?_) <;> try simp only [hc])
  exact kH
set_option maxHeartbeats 1000000 in
theorem rulesMay_spec {h : Hp} {v : Value} {l : List Rl} (s : RlSl h v l) (hl : l.length ≤ 1000000000) : Meets kon 39 [v] h fun u h' => u = .bool (rulesMay l) ∧ Keep h h' := by
  have ll := RlSl.len s
  refine Meets.mk rfl (by kernel_rfl) Tryz.func39 rfl (congrArg Array.toList Tryz.results39) ?_
  repeat' (first | simp only [evr, nextP_norm, evd, evq, beq_self_eq_true, cond_true, cond_false, reduceIte, Nat.reduceEqDiff, Nat.reduceAdd, Int.reduceBNe, Int.reduceBEq, Int.reduceLT, Int.reduceLE, Int.reduceEq, evh, evp, Nat.reduceLeDiff, Nat.reduceSub, Nat.reduceBEq, typs, ll] | refine kCond2_by (fun hc => ?_) (fun hc => ?_) <;> try simp only [hc] | refine kPick_by (fun hc => ?_) (fun hc => ?_) <;> try simp only [hc] | refine kWant_by (fun hc => ?_) (fun hc => ?_) <;> try simp only [hc])
  refine Wp_loop (fun k fr H => ∃ j : Nat, k = l.length - j ∧ j ≤ l.length ∧ Keep h H ∧ fr.get 0 = some v ∧ fr.get 5 = some v ∧ fr.get 6 = some (.int .i64 l.length) ∧ fr.get 7 = some (.int .i64 j) ∧ ∀ r ∈ l.take j, ruleOne r = true) l.length ⟨0, rfl, Nat.zero_le _, Keep.refl _, ?_, ?_, ?_, ?_, by simp⟩ ?_
  · repeat' (first | simp only [evr, nextP_norm, evd, evq, beq_self_eq_true, cond_true, cond_false, reduceIte, Nat.reduceEqDiff, Nat.reduceAdd, Int.reduceBNe, Int.reduceBEq, Int.reduceLT, Int.reduceLE, Int.reduceEq, evh, evp, Nat.reduceLeDiff, Nat.reduceSub, Nat.reduceBEq, typs] | refine kCond2_by (fun hc => ?_) (fun hc => ?_) <;> try simp only [hc] | refine kPick_by (fun hc => ?_) (fun hc => ?_) <;> try simp only [hc] | refine kWant_by (fun hc => ?_) (fun hc => ?_) <;> try simp only [hc])
  · repeat' (first | simp only [evr, nextP_norm, evd, evq, beq_self_eq_true, cond_true, cond_false, reduceIte, Nat.reduceEqDiff, Nat.reduceAdd, Int.reduceBNe, Int.reduceBEq, Int.reduceLT, Int.reduceLE, Int.reduceEq, evh, evp, Nat.reduceLeDiff, Nat.reduceSub, Nat.reduceBEq, typs] | refine kCond2_by (fun hc => ?_) (fun hc => ?_) <;> try simp only [hc] | refine kPick_by (fun hc => ?_) (fun hc => ?_) <;> try simp only [hc] | refine kWant_by (fun hc => ?_) (fun hc => ?_) <;> try simp only [hc])
  · repeat' (first | simp only [evr, nextP_norm, evd, evq, beq_self_eq_true, cond_true, cond_false, reduceIte, Nat.reduceEqDiff, Nat.reduceAdd, Int.reduceBNe, Int.reduceBEq, Int.reduceLT, Int.reduceLE, Int.reduceEq, evh, evp, Nat.reduceLeDiff, Nat.reduceSub, Nat.reduceBEq, typs] | refine kCond2_by (fun hc => ?_) (fun hc => ?_) <;> try simp only [hc] | refine kPick_by (fun hc => ?_) (fun hc => ?_) <;> try simp only [hc] | refine kWant_by (fun hc => ?_) (fun hc => ?_) <;> try simp only [hc])
  · repeat' (first | simp only [evr, nextP_norm, evd, evq, beq_self_eq_true, cond_true, cond_false, reduceIte, Nat.reduceEqDiff, Nat.reduceAdd, Int.reduceBNe, Int.reduceBEq, Int.reduceLT, Int.reduceLE, Int.reduceEq, evh, evp, Nat.reduceLeDiff, Nat.reduceSub, Nat.reduceBEq, typs] | refine kCond2_by (fun hc => ?_) (fun hc => ?_) <;> try simp only [hc] | refine kPick_by (fun hc => ?_) (fun hc => ?_) <;> try simp only [hc] | refine kWant_by (fun hc => ?_) (fun hc => ?_) <;> try simp only [hc])
    rfl
  rintro k fr H ⟨j, rfl, hj, K, r0, r5, r6, r7, hp⟩
  by_cases h3 : j < l.length
  · have e3 : decide ((j : Int) < (l.length : Int)) = true := decide_eq_true (by omega)
    obtain ⟨b, o, all, pa, hb, hr, hz, hc, a0, a1⟩ := RlSl.at s (List.getElem?_eq_getElem h3)
    have hrH := (K.row hb).trans hr
    have wj : IntKind.i64.wrap ((j : Int) + 1) = ((j + 1 : Nat) : Int) := by rw [wrap64 (by omega) (by omega)]; omega
    repeat' (first | simp only [evr, nextP_norm, evd, evq, beq_self_eq_true, cond_true, cond_false, reduceIte, Nat.reduceEqDiff, Nat.reduceAdd, Int.reduceBNe, Int.reduceBEq, Int.reduceLT, Int.reduceLE, Int.reduceEq, evh, evp, Nat.reduceLeDiff, Nat.reduceSub, Nat.reduceBEq, typs, r0, r5, r6, r7, e3, pa] | refine kCond2_by (fun hc => ?_) (fun hc => ?_) <;> try simp only [hc] | refine kPick_by (fun hc => ?_) (fun hc => ?_) <;> try simp only [hc] | refine kWant_by (fun hc => ?_) (fun hc => ?_) <;> try simp only [hc])
    simp only [evr, evd, evq, beq_self_eq_true, cond_true, cond_false, reduceIte, Nat.reduceEqDiff, Nat.reduceAdd, Int.reduceBNe, Int.reduceBEq, Int.reduceLT, Int.reduceLE, Int.reduceEq, evh, evp, Nat.reduceLeDiff, Nat.reduceSub, Nat.reduceBEq, typs, hrH, hz, hc]
    rw [nextP_norm]
    generalize hh : Hp.set _ _ _ = H1
    have k1 : Keep H H1 := by rw [← hh]; exact (Keep.push _ _).set (Nat.le_refl _)
    have q1 : rowOf H1 H.next = some [.int .i64 l[j].kind, .string l[j].path] := by rw [← hh]; exact rowOf_rw (Hp.get_set_self _ _ _)
    clear hh
    repeat' (first | simp only [evr, nextP_norm, evd, evq, beq_self_eq_true, cond_true, cond_false, reduceIte, Nat.reduceEqDiff, Nat.reduceAdd, Int.reduceBNe, Int.reduceBEq, Int.reduceLT, Int.reduceLE, Int.reduceEq, evh, evp, Nat.reduceLeDiff, Nat.reduceSub, Nat.reduceBEq, typs, r0, r5, r6, r7, q1] | refine kCond2_by (fun hc => ?_) (fun hc => ?_) <;> try simp only [hc] | refine kPick_by (fun hc => ?_) (fun hc => ?_) <;> try simp only [hc] | refine kWant_by (fun hc => ?_) (fun hc => ?_) <;> try simp only [hc])
    refine callP_meets (one_spec l[j] H1) ?_
    rintro _ H2 ⟨rfl, k2⟩
    cases ho : ruleOne l[j] with
    | true =>
      repeat' (first | simp only [evr, nextP_norm, evd, evq, beq_self_eq_true, cond_true, cond_false, reduceIte, Nat.reduceEqDiff, Nat.reduceAdd, Int.reduceBNe, Int.reduceBEq, Int.reduceLT, Int.reduceLE, Int.reduceEq, evh, evp, Nat.reduceLeDiff, Nat.reduceSub, Nat.reduceBEq, typs, r0, r5, r6, r7, wj] | refine kCond2_by (fun hc => ?_) (fun hc => ?_) <;> try simp only [hc] | refine kPick_by (fun hc => ?_) (fun hc => ?_) <;> try simp only [hc] | refine kWant_by (fun hc => ?_) (fun hc => ?_) <;> try simp only [hc])
      refine ⟨l.length - (j + 1), by omega, j + 1, rfl, by omega, (K.trans k1).trans k2, rfl, fun r hr' => ?_⟩
      rw [List.take_add_one, List.getElem?_eq_getElem h3, List.mem_append] at hr'
      rcases hr' with hr' | hr'
      · exact hp r hr'
      · simp at hr'; rw [hr']; exact ho
    | false =>
      repeat' (first | simp only [evr, nextP_norm, evd, evq, beq_self_eq_true, cond_true, cond_false, reduceIte, Nat.reduceEqDiff, Nat.reduceAdd, Int.reduceBNe, Int.reduceBEq, Int.reduceLT, Int.reduceLE, Int.reduceEq, evh, evp, Nat.reduceLeDiff, Nat.reduceSub, Nat.reduceBEq, typs, r0, r5, r6, r7] | refine kCond2_by (fun hc => ?_) (fun hc => ?_) <;> try simp only [hc] | refine kPick_by (fun hc => ?_) (fun hc => ?_) <;> try simp only [hc] | refine kWant_by (fun hc => ?_) (fun hc => ?_) <;> try simp only [hc])
      refine ⟨?_, (K.trans k1).trans k2⟩
      have : rulesMay l = false := by
        unfold rulesMay
        rw [Bool.and_eq_false_iff]; left
        rw [List.all_eq_false]; exact ⟨_, List.getElem_mem h3, by simp [ho]⟩
      rw [this]
  · have e3 : decide ((j : Int) < (l.length : Int)) = false := decide_eq_false (by omega)
    have ha : l.all ruleOne = true := by rw [List.all_eq_true]; exact fun r hr => hp r (by rw [List.take_of_length_le (by omega)]; exact hr)
    have e8 : decide ((l.length : Int) ≤ 8) = decide (l.length ≤ 8) := by rw [decide_eq_decide]; omega
    repeat' (first | simp only [evr, nextP_norm, evd, evq, beq_self_eq_true, cond_true, cond_false, reduceIte, Nat.reduceEqDiff, Nat.reduceAdd, Int.reduceBNe, Int.reduceBEq, Int.reduceLT, Int.reduceLE, Int.reduceEq, evh, evp, Nat.reduceLeDiff, Nat.reduceSub, Nat.reduceBEq, typs, r0, r5, r6, r7, e3, ll, e8] | refine kCond2_by (fun hc => ?_) (fun hc => ?_) <;> try simp only [hc] | refine kPick_by (fun hc => ?_) (fun hc => ?_) <;> try simp only [hc] | refine kWant_by (fun hc => ?_) (fun hc => ?_) <;> try simp only [hc])
    exact ⟨by unfold rulesMay; rw [ha]; rfl, K⟩
section
variable {h : Hp} {F : Nat → Prop} {T : Hi} {bt : Nat}
set_option maxHeartbeats 1000000 in
theorem ruleDir_spec (t : TreeAt h F T bt) (r : Rl) (work : ByteArray) (fr0 : Int) : Meets kon 78 [.pointer (some ⟨bt, 0, none⟩), .agg #[.int .i64 r.kind, .string r.path], .string work, .int .i64 fr0] h fun u h' => (∃ d b, u = .tuple #[.int .i64 d, .bool b] ∧ ruleDir T work fr0 r = if b then some d else none) ∧ Keep h h' := by
  refine Meets.mk rfl (by kernel_rfl) Tryz.func78 rfl (congrArg Array.toList Tryz.results78) ?_
  simp only [evr, evd, evq, beq_self_eq_true, cond_true, cond_false, reduceIte, Nat.reduceEqDiff, Nat.reduceAdd, Int.reduceBNe, Int.reduceBEq, Int.reduceLT, Int.reduceLE, Int.reduceEq, evh, evp, Nat.reduceLeDiff, Nat.reduceSub, Nat.reduceBEq, typs]
  rw [nextP_norm]
  generalize hh : Hp.push _ _ = H
  have kH : Keep h H := by rw [← hh]; exact Keep.push _ _
  have q : rowOf H h.next = some [.int .i64 r.kind, .string r.path] := by rw [← hh]; exact rowOf_rw (Hp.get_push_self _ _)
  clear hh
  have tH := t.keeps kH
  have fin : ∀ {H' : Hp} (p : ByteArray), p = (if r.kind = 2 then work else r.path) → r.kind ≠ 1 → Keep H H' → (∃ d b, Value.tuple #[.int .i64 (dirK T p).1, .bool ((dirK T p).2 == 0)] = .tuple #[.int .i64 d, .bool b] ∧ ruleDir T work fr0 r = if b then some d else none) ∧ Keep h H' := fun {H'} p hp h1 k => by
    refine ⟨⟨_, _, rfl, ?_⟩, kH.trans k⟩
    unfold ruleDir
    rw [if_neg h1, ← hp]
    by_cases h0 : (dirK T p).2 = 0 <;> simp [h0]
  by_cases h1 : r.kind = 1
  · have f1 : (r.kind == 1) = true := by simp [h1]
    repeat' (first | simp only [evr, nextP_norm, evd, evq, beq_self_eq_true, cond_true, cond_false, reduceIte, Nat.reduceEqDiff, Nat.reduceAdd, Int.reduceBNe, Int.reduceBEq, Int.reduceLT, Int.reduceLE, Int.reduceEq, evh, evp, Nat.reduceLeDiff, Nat.reduceSub, Nat.reduceBEq, typs, q, f1] | refine kCond2_by (fun hc => ?_) (fun hc => ?_) <;> try simp only [hc] | refine kPick_by (fun hc => ?_) (fun hc => ?_) <;> try simp only [hc] | refine kWant_by (fun hc => ?_) (fun hc => ?_) <;> try simp only [hc])
    refine ⟨⟨_, _, rfl, ?_⟩, kH⟩
    unfold ruleDir
    rw [if_pos h1]
    by_cases h0 : 0 ≤ fr0 <;> simp [h0]
  have f1 : (r.kind == 1) = false := by simp [h1]
  by_cases h2 : r.kind = 2
  · have f2 : (r.kind == 2) = true := by simp [h2]
    repeat' (first | simp only [evr, nextP_norm, evd, evq, beq_self_eq_true, cond_true, cond_false, reduceIte, Nat.reduceEqDiff, Nat.reduceAdd, Int.reduceBNe, Int.reduceBEq, Int.reduceLT, Int.reduceLE, Int.reduceEq, evh, evp, Nat.reduceLeDiff, Nat.reduceSub, Nat.reduceBEq, typs, q, f1, f2] | refine kCond2_by (fun hc => ?_) (fun hc => ?_) <;> try simp only [hc] | refine kPick_by (fun hc => ?_) (fun hc => ?_) <;> try simp only [hc] | refine kWant_by (fun hc => ?_) (fun hc => ?_) <;> try simp only [hc])
    refine callP_meets (wDir_spec tH work) ?_
    rintro _ H2 ⟨rfl, k2⟩
    repeat' (first | simp only [evr, nextP_norm, evd, evq, beq_self_eq_true, cond_true, cond_false, reduceIte, Nat.reduceEqDiff, Nat.reduceAdd, Int.reduceBNe, Int.reduceBEq, Int.reduceLT, Int.reduceLE, Int.reduceEq, evh, evp, Nat.reduceLeDiff, Nat.reduceSub, Nat.reduceBEq, typs] | refine kCond2_by (fun hc => ?_) (fun hc => ?_) <;> try simp only [hc] | refine kPick_by (fun hc => ?_) (fun hc => ?_) <;> try simp only [hc] | refine kWant_by (fun hc => ?_) (fun hc => ?_) <;> try simp only [hc])
    exact fin work (by rw [if_pos h2]) h1 k2
  have f2 : (r.kind == 2) = false := by simp [h2]
  repeat' (first | simp only [evr, nextP_norm, evd, evq, beq_self_eq_true, cond_true, cond_false, reduceIte, Nat.reduceEqDiff, Nat.reduceAdd, Int.reduceBNe, Int.reduceBEq, Int.reduceLT, Int.reduceLE, Int.reduceEq, evh, evp, Nat.reduceLeDiff, Nat.reduceSub, Nat.reduceBEq, typs, q, f1, f2] | refine kCond2_by (fun hc => ?_) (fun hc => ?_) <;> try simp only [hc] | refine kPick_by (fun hc => ?_) (fun hc => ?_) <;> try simp only [hc] | refine kWant_by (fun hc => ?_) (fun hc => ?_) <;> try simp only [hc])
  refine callP_meets (wDir_spec tH r.path) ?_
  rintro _ H2 ⟨rfl, k2⟩
  repeat' (first | simp only [evr, nextP_norm, evd, evq, beq_self_eq_true, cond_true, cond_false, reduceIte, Nat.reduceEqDiff, Nat.reduceAdd, Int.reduceBNe, Int.reduceBEq, Int.reduceLT, Int.reduceLE, Int.reduceEq, evh, evp, Nat.reduceLeDiff, Nat.reduceSub, Nat.reduceBEq, typs] | refine kCond2_by (fun hc => ?_) (fun hc => ?_) <;> try simp only [hc] | refine kPick_by (fun hc => ?_) (fun hc => ?_) <;> try simp only [hc] | refine kWant_by (fun hc => ?_) (fun hc => ?_) <;> try simp only [hc])
  exact fin r.path (by rw [if_neg h2]) h1 k2
end
end Go.Proofs.YtncmgiddcefpcaaGreatDoor
namespace Go.Proofs.YtncmgiddcefpcaaGreatDoor
open Go Go.Ev Go.Con
set_option linter.unusedSimpArgs false
set_option linter.unusedVariables false
set_option maxRecDepth 100000
theorem ruleHit_no {T : Hi} {work : ByteArray} {fr0 : Int} {name : ByteArray} {r : Rl} (h : ruleDir T work fr0 r = none) : ruleHit T work fr0 name r = none := by unfold ruleHit; rw [h]
theorem ruleHit_in {T : Hi} {work : ByteArray} {fr0 : Int} {name : ByteArray} {r : Rl} {d : Int} (h : ruleDir T work fr0 r = some d) : ruleHit T work fr0 name r = if (walkK T 8 d [name]).1.2 = 0 ∧ (walkK T 8 d [name]).1.1.kind = 1 then some (walkK T 8 d [name]).1.1 else none := by unfold ruleHit; rw [h]
section
variable {h : Hp} {F : Nat → Prop} {T : Hi} {bt : Nat}
set_option maxHeartbeats 2000000 in
theorem rulesFind_spec (t : TreeAt h F T bt) {v : Value} {l : List Rl} (s : RlSl h v l) (hl : l.length ≤ 1000000000) (work : ByteArray) (fr0 : Int) (name : ByteArray) : Meets kon 41 [.pointer (some ⟨bt, 0, none⟩), v, .string work, .int .i64 fr0, .string name] h (FinP h (rulesFind T l work fr0 name)) := by
  have ep : (some (⟨bt, 0, none⟩ : Addr) == none) = false := rfl
  have ll := RlSl.len s
  refine Meets.mk rfl (by kernel_rfl) Tryz.func41 rfl (congrArg Array.toList Tryz.results41) ?_
  simp only [evr, evd, evq, beq_self_eq_true, cond_true, cond_false, reduceIte, Nat.reduceEqDiff, Nat.reduceAdd, Int.reduceBNe, Int.reduceBEq, Int.reduceLT, Int.reduceLE, Int.reduceEq, evh, evp, Nat.reduceLeDiff, Nat.reduceSub, Nat.reduceBEq, typs]
  rw [nextP_norm]
  generalize hh : Hp.push _ _ = H0
  have k0 : Keep h H0 := by rw [← hh]; exact Keep.push _ _
  have n0 : H0.next = h.next + 1 := by rw [← hh]; rfl
  have z0 : H0.get h.next = some (.row [.int .i64 0, .int .i64 0, .int .i64 0, .string ByteArray.empty, .bool false, .slice none 0 0, .int .i64 0, .int .i64 0, .int .i64 0, .int .i64 0] 40 (.rw 0 [])) := by rw [← hh]; exact Hp.get_push_self _ _
  clear hh
  have t0 := t.keeps k0
  have bn : ∀ {H' : Hp} {o : Ob}, Keep H0 H' → Keep h (H'.set h.next o) := fun {H' o} kk => (k0.trans kk).set (Nat.le_refl _)
  have er : ∀ {H' : Hp} {o : Ob} {e : Int}, rulesFind T l work fr0 name = (noBn, e) → Keep H0 H' → FinP h (rulesFind T l work fr0 name) (.tuple #[.agg #[.int .i64 0, .int .i64 0, .int .i64 0, .string ByteArray.empty, .bool false, .slice none 0 0, .int .i64 0, .int .i64 0, .int .i64 0, .int .i64 0], .int .i64 e]) (H'.set h.next o) := fun {H' o e} hr kk => by
    rw [hr]; exact ⟨.slice none 0 0, rfl, .inl ⟨rfl, rfl⟩, bn kk⟩
  repeat' (first | simp only [evr, nextP_norm, evd, evq, beq_self_eq_true, cond_true, cond_false, reduceIte, Nat.reduceEqDiff, Nat.reduceAdd, Int.reduceBNe, Int.reduceBEq, Int.reduceLT, Int.reduceLE, Int.reduceEq, evh, evp, Nat.reduceLeDiff, Nat.reduceSub, Nat.reduceBEq, typs, ep] | refine kCond2_by (fun hc => ?_) (fun hc => ?_) <;> try simp only [hc] | refine kPick_by (fun hc => ?_) (fun hc => ?_) <;> try simp only [hc] | refine kWant_by (fun hc => ?_) (fun hc => ?_) <;> try simp only [hc])
  refine callP_meets (rulesMay_spec (SlAt.keep s k0) hl) ?_
  rintro _ H1 ⟨rfl, k1⟩
  have z1 := (k1.2 _ (by omega)).trans z0
  have q1 := rowOf_rw z1
  have n1 := k1.1
  cases hm : rulesMay l with
  | false =>
    repeat' (first | simp only [evr, nextP_norm, evd, evq, beq_self_eq_true, cond_true, cond_false, reduceIte, Nat.reduceEqDiff, Nat.reduceAdd, Int.reduceBNe, Int.reduceBEq, Int.reduceLT, Int.reduceLE, Int.reduceEq, evh, evp, Nat.reduceLeDiff, Nat.reduceSub, Nat.reduceBEq, typs, zero_build, z1, q1] | refine kCond2_by (fun hc => ?_) (fun hc => ?_) <;> try simp only [hc] | refine kPick_by (fun hc => ?_) (fun hc => ?_) <;> try simp only [hc] | refine kWant_by (fun hc => ?_) (fun hc => ?_) <;> try simp only [hc])
    exact er (by unfold rulesFind; rw [if_pos hm]) k1
  | true =>
    have l8 : l.length ≤ 8 := by unfold rulesMay at hm; rw [Bool.and_eq_true] at hm; exact of_decide_eq_true hm.2
    have my := (may_spec name H1).call
    cases hn : mayN name with
    | false =>
      rw [hn] at my
      repeat' (first | simp only [evr, nextP_norm, evd, evq, beq_self_eq_true, cond_true, cond_false, reduceIte, Nat.reduceEqDiff, Nat.reduceAdd, Int.reduceBNe, Int.reduceBEq, Int.reduceLT, Int.reduceLE, Int.reduceEq, evh, evp, Nat.reduceLeDiff, Nat.reduceSub, Nat.reduceBEq, typs, my, zero_build, z1, q1] | refine kCond2_by (fun hc => ?_) (fun hc => ?_) <;> try simp only [hc] | refine kPick_by (fun hc => ?_) (fun hc => ?_) <;> try simp only [hc] | refine kWant_by (fun hc => ?_) (fun hc => ?_) <;> try simp only [hc])
      exact er (by unfold rulesFind; rw [if_neg (by simp [hm]), if_pos hn]) k1
    | true =>
      rw [hn] at my
      repeat' (first | simp only [evr, nextP_norm, evd, evq, beq_self_eq_true, cond_true, cond_false, reduceIte, Nat.reduceEqDiff, Nat.reduceAdd, Int.reduceBNe, Int.reduceBEq, Int.reduceLT, Int.reduceLE, Int.reduceEq, evh, evp, Nat.reduceLeDiff, Nat.reduceSub, Nat.reduceBEq, typs, my, ll] | refine kCond2_by (fun hc => ?_) (fun hc => ?_) <;> try simp only [hc] | refine kPick_by (fun hc => ?_) (fun hc => ?_) <;> try simp only [hc] | refine kWant_by (fun hc => ?_) (fun hc => ?_) <;> try simp only [hc])
      refine Wp_loop (fun k fr H => ∃ j : Nat, k = l.length - j ∧ j ≤ l.length ∧ Keep H0 H ∧ fr.get 0 = some (.pointer (some ⟨bt, 0, none⟩)) ∧ fr.get 2 = some (.string work) ∧ fr.get 3 = some (.int .i64 fr0) ∧ fr.get 4 = some (.string name) ∧ fr.get 10 = some (.pointer (some ⟨h.next, 0, none⟩)) ∧ fr.get 32 = some v ∧ fr.get 33 = some (.int .i64 l.length) ∧ fr.get 34 = some (.int .i64 j) ∧ ∀ r ∈ l.take j, ruleHit T work fr0 name r = none) l.length ⟨0, rfl, Nat.zero_le _, k1, ?_, ?_, ?_, ?_, ?_, ?_, ?_, ?_, by simp⟩ ?_
      · repeat' (first | simp only [evr, nextP_norm, evd, evq, beq_self_eq_true, cond_true, cond_false, reduceIte, Nat.reduceEqDiff, Nat.reduceAdd, Int.reduceBNe, Int.reduceBEq, Int.reduceLT, Int.reduceLE, Int.reduceEq, evh, evp, Nat.reduceLeDiff, Nat.reduceSub, Nat.reduceBEq, typs] | refine kCond2_by (fun hc => ?_) (fun hc => ?_) <;> try simp only [hc] | refine kPick_by (fun hc => ?_) (fun hc => ?_) <;> try simp only [hc] | refine kWant_by (fun hc => ?_) (fun hc => ?_) <;> try simp only [hc])
      · repeat' (first | simp only [evr, nextP_norm, evd, evq, beq_self_eq_true, cond_true, cond_false, reduceIte, Nat.reduceEqDiff, Nat.reduceAdd, Int.reduceBNe, Int.reduceBEq, Int.reduceLT, Int.reduceLE, Int.reduceEq, evh, evp, Nat.reduceLeDiff, Nat.reduceSub, Nat.reduceBEq, typs] | refine kCond2_by (fun hc => ?_) (fun hc => ?_) <;> try simp only [hc] | refine kPick_by (fun hc => ?_) (fun hc => ?_) <;> try simp only [hc] | refine kWant_by (fun hc => ?_) (fun hc => ?_) <;> try simp only [hc])
      · repeat' (first | simp only [evr, nextP_norm, evd, evq, beq_self_eq_true, cond_true, cond_false, reduceIte, Nat.reduceEqDiff, Nat.reduceAdd, Int.reduceBNe, Int.reduceBEq, Int.reduceLT, Int.reduceLE, Int.reduceEq, evh, evp, Nat.reduceLeDiff, Nat.reduceSub, Nat.reduceBEq, typs] | refine kCond2_by (fun hc => ?_) (fun hc => ?_) <;> try simp only [hc] | refine kPick_by (fun hc => ?_) (fun hc => ?_) <;> try simp only [hc] | refine kWant_by (fun hc => ?_) (fun hc => ?_) <;> try simp only [hc])
      · repeat' (first | simp only [evr, nextP_norm, evd, evq, beq_self_eq_true, cond_true, cond_false, reduceIte, Nat.reduceEqDiff, Nat.reduceAdd, Int.reduceBNe, Int.reduceBEq, Int.reduceLT, Int.reduceLE, Int.reduceEq, evh, evp, Nat.reduceLeDiff, Nat.reduceSub, Nat.reduceBEq, typs] | refine kCond2_by (fun hc => ?_) (fun hc => ?_) <;> try simp only [hc] | refine kPick_by (fun hc => ?_) (fun hc => ?_) <;> try simp only [hc] | refine kWant_by (fun hc => ?_) (fun hc => ?_) <;> try simp only [hc])
      · repeat' (first | simp only [evr, nextP_norm, evd, evq, beq_self_eq_true, cond_true, cond_false, reduceIte, Nat.reduceEqDiff, Nat.reduceAdd, Int.reduceBNe, Int.reduceBEq, Int.reduceLT, Int.reduceLE, Int.reduceEq, evh, evp, Nat.reduceLeDiff, Nat.reduceSub, Nat.reduceBEq, typs] | refine kCond2_by (fun hc => ?_) (fun hc => ?_) <;> try simp only [hc] | refine kPick_by (fun hc => ?_) (fun hc => ?_) <;> try simp only [hc] | refine kWant_by (fun hc => ?_) (fun hc => ?_) <;> try simp only [hc])
      · repeat' (first | simp only [evr, nextP_norm, evd, evq, beq_self_eq_true, cond_true, cond_false, reduceIte, Nat.reduceEqDiff, Nat.reduceAdd, Int.reduceBNe, Int.reduceBEq, Int.reduceLT, Int.reduceLE, Int.reduceEq, evh, evp, Nat.reduceLeDiff, Nat.reduceSub, Nat.reduceBEq, typs] | refine kCond2_by (fun hc => ?_) (fun hc => ?_) <;> try simp only [hc] | refine kPick_by (fun hc => ?_) (fun hc => ?_) <;> try simp only [hc] | refine kWant_by (fun hc => ?_) (fun hc => ?_) <;> try simp only [hc])
      · repeat' (first | simp only [evr, nextP_norm, evd, evq, beq_self_eq_true, cond_true, cond_false, reduceIte, Nat.reduceEqDiff, Nat.reduceAdd, Int.reduceBNe, Int.reduceBEq, Int.reduceLT, Int.reduceLE, Int.reduceEq, evh, evp, Nat.reduceLeDiff, Nat.reduceSub, Nat.reduceBEq, typs] | refine kCond2_by (fun hc => ?_) (fun hc => ?_) <;> try simp only [hc] | refine kPick_by (fun hc => ?_) (fun hc => ?_) <;> try simp only [hc] | refine kWant_by (fun hc => ?_) (fun hc => ?_) <;> try simp only [hc])
      · repeat' (first | simp only [evr, nextP_norm, evd, evq, beq_self_eq_true, cond_true, cond_false, reduceIte, Nat.reduceEqDiff, Nat.reduceAdd, Int.reduceBNe, Int.reduceBEq, Int.reduceLT, Int.reduceLE, Int.reduceEq, evh, evp, Nat.reduceLeDiff, Nat.reduceSub, Nat.reduceBEq, typs] | refine kCond2_by (fun hc => ?_) (fun hc => ?_) <;> try simp only [hc] | refine kPick_by (fun hc => ?_) (fun hc => ?_) <;> try simp only [hc] | refine kWant_by (fun hc => ?_) (fun hc => ?_) <;> try simp only [hc])
        rfl
      rintro k fr H ⟨j, rfl, hj, K, r0, r2, r3, r4, r10, r32, r33, r34, hp⟩
      have nH := K.1
      have zH := (K.2 _ (by omega)).trans z0
      have qH := rowOf_rw zH
      have tH := t0.keeps K
      by_cases h3 : j < l.length
      · have e3 : decide ((j : Int) < (l.length : Int)) = true := decide_eq_true (by omega)
        obtain ⟨b, o, all, pa, hb, hr, hz, hc, a0, a1⟩ := RlSl.at s (List.getElem?_eq_getElem h3)
        have hrH := ((k0.trans K).row hb).trans hr
        have wj : IntKind.i64.wrap ((j : Int) + 1) = ((j + 1 : Nat) : Int) := by rw [wrap64 (by omega) (by omega)]; omega
        have next : ruleHit T work fr0 name l[j] = none → ∀ r ∈ l.take (j + 1), ruleHit T work fr0 name r = none := fun ho r hr' => by
          rw [List.take_add_one, List.getElem?_eq_getElem h3, List.mem_append] at hr'
          rcases hr' with hr' | hr'
          · exact hp r hr'
          · simp at hr'; rw [hr']; exact ho
        have hitj : ∀ {b : Bn}, ruleHit T work fr0 name l[j] = some b → rulesFind T l work fr0 name = (b, 0) := fun {b} hb' => rulesFind_hit hm hn h3 hp hb'
        repeat' (first | simp only [evr, nextP_norm, evd, evq, beq_self_eq_true, cond_true, cond_false, reduceIte, Nat.reduceEqDiff, Nat.reduceAdd, Int.reduceBNe, Int.reduceBEq, Int.reduceLT, Int.reduceLE, Int.reduceEq, evh, evp, Nat.reduceLeDiff, Nat.reduceSub, Nat.reduceBEq, typs, r0, r2, r3, r4, r10, r32, r33, r34, e3, pa] | refine kCond2_by (fun hc => ?_) (fun hc => ?_) <;> try simp only [hc] | refine kPick_by (fun hc => ?_) (fun hc => ?_) <;> try simp only [hc] | refine kWant_by (fun hc => ?_) (fun hc => ?_) <;> try simp only [hc])
        simp only [evr, evd, evq, beq_self_eq_true, cond_true, cond_false, reduceIte, Nat.reduceEqDiff, Nat.reduceAdd, Int.reduceBNe, Int.reduceBEq, Int.reduceLT, Int.reduceLE, Int.reduceEq, evh, evp, Nat.reduceLeDiff, Nat.reduceSub, Nat.reduceBEq, typs, hrH, hz, hc]
        rw [nextP_norm]
        generalize hh : Hp.set _ _ _ = H2
        have k2 : Keep H H2 := by rw [← hh]; exact (Keep.push _ _).set (Nat.le_refl _)
        have q2 : rowOf H2 H.next = some [.int .i64 l[j].kind, .string l[j].path] := by rw [← hh]; exact rowOf_rw (Hp.get_set_self _ _ _)
        clear hh
        generalize l[j] = rl at *
        repeat' (first | simp only [evr, nextP_norm, evd, evq, beq_self_eq_true, cond_true, cond_false, reduceIte, Nat.reduceEqDiff, Nat.reduceAdd, Int.reduceBNe, Int.reduceBEq, Int.reduceLT, Int.reduceLE, Int.reduceEq, evh, evp, Nat.reduceLeDiff, Nat.reduceSub, Nat.reduceBEq, typs, r0, r2, r3, r4, r10, r32, r33, r34, q2] | refine kCond2_by (fun hc => ?_) (fun hc => ?_) <;> try simp only [hc] | refine kPick_by (fun hc => ?_) (fun hc => ?_) <;> try simp only [hc] | refine kWant_by (fun hc => ?_) (fun hc => ?_) <;> try simp only [hc])
        refine callP_meets (ruleDir_spec (tH.keeps k2) rl work fr0) ?_
        rintro _ H3 ⟨⟨d, bb, rfl, hd⟩, k3⟩
        cases bb with
        | false =>
          have hd : ruleDir T work fr0 rl = none := by simpa using hd
          repeat' (first | simp only [evr, nextP_norm, evd, evq, beq_self_eq_true, cond_true, cond_false, reduceIte, Nat.reduceEqDiff, Nat.reduceAdd, Int.reduceBNe, Int.reduceBEq, Int.reduceLT, Int.reduceLE, Int.reduceEq, evh, evp, Nat.reduceLeDiff, Nat.reduceSub, Nat.reduceBEq, typs, r0, r2, r3, r4, r10, r32, r33, r34, wj] | refine kCond2_by (fun hc => ?_) (fun hc => ?_) <;> try simp only [hc] | refine kPick_by (fun hc => ?_) (fun hc => ?_) <;> try simp only [hc] | refine kWant_by (fun hc => ?_) (fun hc => ?_) <;> try simp only [hc])
          exact ⟨l.length - (j + 1), by omega, j + 1, rfl, by omega, (K.trans k2).trans k3, rfl, next (ruleHit_no hd)⟩
        | true =>
          have hd : ruleDir T work fr0 rl = some d := by simpa using hd
          have hh := ruleHit_in (name := name) hd
          repeat' (first | simp only [evr, nextP_norm, evd, evq, beq_self_eq_true, cond_true, cond_false, reduceIte, Nat.reduceEqDiff, Nat.reduceAdd, Int.reduceBNe, Int.reduceBEq, Int.reduceLT, Int.reduceLE, Int.reduceEq, evh, evp, Nat.reduceLeDiff, Nat.reduceSub, Nat.reduceBEq, typs, r0, r2, r3, r4, r10, r32, r33, r34] | refine kCond2_by (fun hc => ?_) (fun hc => ?_) <;> try simp only [hc] | refine kPick_by (fun hc => ?_) (fun hc => ?_) <;> try simp only [hc] | refine kWant_by (fun hc => ?_) (fun hc => ?_) <;> try simp only [hc])
          refine callP_meets (wIn_spec ((tH.keeps k2).keeps k3) d name) ?_
          rintro _ H4 ⟨s4, rfl, ty4, k4⟩
          obtain ⟨c1, c2⟩ := TmTy.cell ty4
          generalize (walkK T 8 d [name]).1 = R at *
          unfold bnC
          simp only [evr, evd, evq, beq_self_eq_true, cond_true, cond_false, reduceIte, Nat.reduceEqDiff, Nat.reduceAdd, Int.reduceBNe, Int.reduceBEq, Int.reduceLT, Int.reduceLE, Int.reduceEq, evh, evp, Nat.reduceLeDiff, Nat.reduceSub, Nat.reduceBEq, typs, r0, r2, r3, r4, r10, r32, r33, r34, c1, c2]
          rw [nextP_norm]
          generalize hh5 : Hp.set _ _ _ = H5
          have k5 : Keep H4 H5 := by rw [← hh5]; exact (Keep.push _ _).set (Nat.le_refl _)
          have q5 : rowOf H5 H4.next = some (bnC R.1 s4) := by rw [← hh5]; exact rowOf_rw (Hp.get_set_self _ _ _)
          clear hh5
          unfold bnC at q5
          have K5 := (((K.trans k2).trans k3).trans k4).trans k5
          have n2 := k2.1
          have n3 := k3.1
          by_cases h1 : R.2 = 0
          · have f1 : (R.2 == 0) = true := by simp [h1]
            by_cases h2 : R.1.kind = 1
            · have f2 : (R.1.kind == 1) = true := by simp [h2]
              rw [if_pos ⟨h1, h2⟩] at hh
              have z5 := (K5.2 _ (by omega)).trans z0
              have qz5 := rowOf_rw z5
              repeat' (first | simp only [evr, nextP_norm, evd, evq, beq_self_eq_true, cond_true, cond_false, reduceIte, Nat.reduceEqDiff, Nat.reduceAdd, Int.reduceBNe, Int.reduceBEq, Int.reduceLT, Int.reduceLE, Int.reduceEq, evh, evp, Nat.reduceLeDiff, Nat.reduceSub, Nat.reduceBEq, typs, r0, r2, r3, r4, r10, r32, r33, r34, q5, f1, f2, z5, qz5, c1, c2] | refine kCond2_by (fun hc => ?_) (fun hc => ?_) <;> try simp only [hc] | refine kPick_by (fun hc => ?_) (fun hc => ?_) <;> try simp only [hc] | refine kWant_by (fun hc => ?_) (fun hc => ?_) <;> try simp only [hc])
              rw [hitj hh]
              exact ⟨s4, rfl, SlTy.more (SlTy.keepF (SlTy.keepF (SlTy.within ty4) k5.1 fun i hi => k5.2 i hi.2) (Nat.le_refl _) fun i hi => Hp.get_set_ne (by have := hi.1; omega)) fun i hi => by have := hi.1; omega, bn K5⟩
            · have f2 : (R.1.kind == 1) = false := by simp [h2]
              rw [if_neg (by simp [h2])] at hh
              repeat' (first | simp only [evr, nextP_norm, evd, evq, beq_self_eq_true, cond_true, cond_false, reduceIte, Nat.reduceEqDiff, Nat.reduceAdd, Int.reduceBNe, Int.reduceBEq, Int.reduceLT, Int.reduceLE, Int.reduceEq, evh, evp, Nat.reduceLeDiff, Nat.reduceSub, Nat.reduceBEq, typs, r0, r2, r3, r4, r10, r32, r33, r34, q5, f1, f2, wj] | refine kCond2_by (fun hc => ?_) (fun hc => ?_) <;> try simp only [hc] | refine kPick_by (fun hc => ?_) (fun hc => ?_) <;> try simp only [hc] | refine kWant_by (fun hc => ?_) (fun hc => ?_) <;> try simp only [hc])
              exact ⟨l.length - (j + 1), by omega, j + 1, rfl, by omega, K5, rfl, next hh⟩
          · have f1 : (R.2 == 0) = false := by simp [h1]
            rw [if_neg (by simp [h1])] at hh
            repeat' (first | simp only [evr, nextP_norm, evd, evq, beq_self_eq_true, cond_true, cond_false, reduceIte, Nat.reduceEqDiff, Nat.reduceAdd, Int.reduceBNe, Int.reduceBEq, Int.reduceLT, Int.reduceLE, Int.reduceEq, evh, evp, Nat.reduceLeDiff, Nat.reduceSub, Nat.reduceBEq, typs, r0, r2, r3, r4, r10, r32, r33, r34, q5, f1, wj] | refine kCond2_by (fun hc => ?_) (fun hc => ?_) <;> try simp only [hc] | refine kPick_by (fun hc => ?_) (fun hc => ?_) <;> try simp only [hc] | refine kWant_by (fun hc => ?_) (fun hc => ?_) <;> try simp only [hc])
            exact ⟨l.length - (j + 1), by omega, j + 1, rfl, by omega, K5, rfl, next hh⟩
      · have e3 : decide ((j : Int) < (l.length : Int)) = false := decide_eq_false (by omega)
        repeat' (first | simp only [evr, nextP_norm, evd, evq, beq_self_eq_true, cond_true, cond_false, reduceIte, Nat.reduceEqDiff, Nat.reduceAdd, Int.reduceBNe, Int.reduceBEq, Int.reduceLT, Int.reduceLE, Int.reduceEq, evh, evp, Nat.reduceLeDiff, Nat.reduceSub, Nat.reduceBEq, typs, r0, r2, r3, r4, r10, r32, r33, r34, e3, zero_build, zH, qH] | refine kCond2_by (fun hc => ?_) (fun hc => ?_) <;> try simp only [hc] | refine kPick_by (fun hc => ?_) (fun hc => ?_) <;> try simp only [hc] | refine kWant_by (fun hc => ?_) (fun hc => ?_) <;> try simp only [hc])
        rw [List.take_of_length_le (by omega)] at hp
        exact er (rulesFind_none hm hn hp) K
end
set_option maxHeartbeats 2000000 in
theorem refRulesMay_spec {h : Hp} {v : Value} {l : List Rl} (s : RlSl h v l) (hl : l.length ≤ 1000000000) : Meets kon 40 [v] h fun u h' => u = .bool (rulesMay l) ∧ Keep h h' := by
  have ll := RlSl.len s
  have ee : (ByteArray.mk #[]) = ByteArray.empty := rfl
  refine Meets.mk rfl (by kernel_rfl) Tryz.func40 rfl (congrArg Array.toList Tryz.results40) ?_
  by_cases h8 : 8 < l.length
  · have f8 : decide ((8 : Int) < (l.length : Int)) = true := decide_eq_true (by omega)
    repeat' (first | simp only [evr, nextP_norm, evd, evq, beq_self_eq_true, cond_true, cond_false, reduceIte, Nat.reduceEqDiff, Nat.reduceAdd, Int.reduceBNe, Int.reduceBEq, Int.reduceLT, Int.reduceLE, Int.reduceEq, evh, evp, Nat.reduceLeDiff, Nat.reduceSub, Nat.reduceBEq, typs, ll, f8] | refine kCond2_by (fun hc => ?_) (fun hc => ?_) <;> try simp only [hc] | refine kPick_by (fun hc => ?_) (fun hc => ?_) <;> try simp only [hc] | refine kWant_by (fun hc => ?_) (fun hc => ?_) <;> try simp only [hc])
    exact ⟨by rw [show rulesMay l = false from by unfold rulesMay; rw [Bool.and_eq_false_iff]; right; simp; omega], Keep.refl _⟩
  have f8 : decide ((8 : Int) < (l.length : Int)) = false := decide_eq_false (by omega)
  repeat' (first | simp only [evr, nextP_norm, evd, evq, beq_self_eq_true, cond_true, cond_false, reduceIte, Nat.reduceEqDiff, Nat.reduceAdd, Int.reduceBNe, Int.reduceBEq, Int.reduceLT, Int.reduceLE, Int.reduceEq, evh, evp, Nat.reduceLeDiff, Nat.reduceSub, Nat.reduceBEq, typs, ll, f8] | refine kCond2_by (fun hc => ?_) (fun hc => ?_) <;> try simp only [hc] | refine kPick_by (fun hc => ?_) (fun hc => ?_) <;> try simp only [hc] | refine kWant_by (fun hc => ?_) (fun hc => ?_) <;> try simp only [hc])
  refine Wp_loop (fun k fr H => ∃ j : Nat, k = l.length - j ∧ j ≤ l.length ∧ Keep h H ∧ fr.get 0 = some v ∧ fr.get 3 = some (.int .i64 j) ∧ ∀ r ∈ l.take j, ruleOne r = true) l.length ⟨0, rfl, Nat.zero_le _, Keep.refl _, ?_, ?_, by simp⟩ ?_
  · repeat' (first | simp only [evr, nextP_norm, evd, evq, beq_self_eq_true, cond_true, cond_false, reduceIte, Nat.reduceEqDiff, Nat.reduceAdd, Int.reduceBNe, Int.reduceBEq, Int.reduceLT, Int.reduceLE, Int.reduceEq, evh, evp, Nat.reduceLeDiff, Nat.reduceSub, Nat.reduceBEq, typs] | refine kCond2_by (fun hc => ?_) (fun hc => ?_) <;> try simp only [hc] | refine kPick_by (fun hc => ?_) (fun hc => ?_) <;> try simp only [hc] | refine kWant_by (fun hc => ?_) (fun hc => ?_) <;> try simp only [hc])
  · repeat' (first | simp only [evr, nextP_norm, evd, evq, beq_self_eq_true, cond_true, cond_false, reduceIte, Nat.reduceEqDiff, Nat.reduceAdd, Int.reduceBNe, Int.reduceBEq, Int.reduceLT, Int.reduceLE, Int.reduceEq, evh, evp, Nat.reduceLeDiff, Nat.reduceSub, Nat.reduceBEq, typs] | refine kCond2_by (fun hc => ?_) (fun hc => ?_) <;> try simp only [hc] | refine kPick_by (fun hc => ?_) (fun hc => ?_) <;> try simp only [hc] | refine kWant_by (fun hc => ?_) (fun hc => ?_) <;> try simp only [hc])
    rfl
  rintro k fr H ⟨j, rfl, hj, K, r0, r3, hp⟩
  by_cases h3 : j < l.length
  · have e3 : decide ((j : Int) < (l.length : Int)) = true := decide_eq_true (by omega)
    obtain ⟨b, o, all, pa, hb, hr, hz, hc, a0, a1⟩ := RlSl.at s (List.getElem?_eq_getElem h3)
    have hrH := (K.row hb).trans hr
    have wj : IntKind.i64.wrap ((j : Int) + 1) = ((j + 1 : Nat) : Int) := by rw [wrap64 (by omega) (by omega)]; omega
    have next : ∀ {H' : Hp}, ruleOne l[j] = true → Keep h H' → ∃ j', j' < l.length - j ∧ ∃ i, j' = l.length - i ∧ i ≤ l.length ∧ Keep h H' ∧ some (Value.int .i64 ((j + 1 : Nat) : Int)) = some (.int .i64 i) ∧ ∀ r ∈ l.take i, ruleOne r = true := fun {H'} ho kk =>
      ⟨l.length - (j + 1), by omega, j + 1, rfl, by omega, kk, rfl, fun r hr' => by
        rw [List.take_add_one, List.getElem?_eq_getElem h3, List.mem_append] at hr'
        rcases hr' with hr' | hr'
        · exact hp r hr'
        · simp at hr'; rw [hr']; exact ho⟩
    have no : ∀ {H' : Hp}, ruleOne l[j] = false → Keep h H' → Value.bool false = .bool (rulesMay l) ∧ Keep h H' := fun {H'} ho kk => ⟨by
      have : rulesMay l = false := by
        unfold rulesMay
        rw [Bool.and_eq_false_iff]; left
        rw [List.all_eq_false]; exact ⟨_, List.getElem_mem h3, by simp [ho]⟩
      rw [this], kk⟩
    generalize l[j] = rl at *
    repeat' (first | simp only [evr, nextP_norm, evd, evq, beq_self_eq_true, cond_true, cond_false, reduceIte, Nat.reduceEqDiff, Nat.reduceAdd, Int.reduceBNe, Int.reduceBEq, Int.reduceLT, Int.reduceLE, Int.reduceEq, evh, evp, Nat.reduceLeDiff, Nat.reduceSub, Nat.reduceBEq, typs, r0, r3, ll, e3, pa, hrH, a1] | refine kCond2_by (fun hc => ?_) (fun hc => ?_) <;> try simp only [hc] | refine kPick_by (fun hc => ?_) (fun hc => ?_) <;> try simp only [hc] | refine kWant_by (fun hc => ?_) (fun hc => ?_) <;> try simp only [hc])
    refine callP_meets (rsplit_spec rl.path H) ?_
    rintro u H2 ⟨k2, hu⟩
    have hr2 := (k2.row (by have := K.1; omega)).trans hrH
    obtain ⟨sl, e, rfl, he⟩ : ∃ sl e, u = .tuple #[sl, .int .i64 e] ∧ (e = 0 ↔ (split rl.path).isSome = true) := by
      cases hs : split rl.path with
      | none => rw [hs] at hu; exact ⟨_, _, hu, by simp⟩
      | some l' => rw [hs] at hu; obtain ⟨sl, e, _⟩ := hu; exact ⟨_, _, e, by simp⟩
    have K2 := K.trans k2
    by_cases h1 : rl.kind = 1 ∨ rl.kind = 2
    · have ho : ruleOne rl = decide (rl.path = ByteArray.empty) := by unfold ruleOne; rw [if_pos h1]
      have f12 : (rl.kind == 1) = true ∨ (rl.kind == 1) = false ∧ (rl.kind == 2) = true := by
        rcases h1 with h1 | h1
        · left; simp [h1]
        · right; simp [h1]
      by_cases hpe : rl.path = ByteArray.empty
      · have fp : (!decide (rl.path = ByteArray.empty)) = false := by simp [hpe]
        rcases f12 with f1 | ⟨f1, f2⟩
        · repeat' (first | simp only [evr, nextP_norm, evd, evq, beq_self_eq_true, cond_true, cond_false, reduceIte, Nat.reduceEqDiff, Nat.reduceAdd, Int.reduceBNe, Int.reduceBEq, Int.reduceLT, Int.reduceLE, Int.reduceEq, evh, evp, Nat.reduceLeDiff, Nat.reduceSub, Nat.reduceBEq, typs, r0, r3, pa, hr2, a0, a1, f1, fp, ee, wj] | refine kCond2_by (fun hc => ?_) (fun hc => ?_) <;> try simp only [hc] | refine kPick_by (fun hc => ?_) (fun hc => ?_) <;> try simp only [hc] | refine kWant_by (fun hc => ?_) (fun hc => ?_) <;> try simp only [hc])
          exact next (by rw [ho]; simp [hpe]) K2
        · repeat' (first | simp only [evr, nextP_norm, evd, evq, beq_self_eq_true, cond_true, cond_false, reduceIte, Nat.reduceEqDiff, Nat.reduceAdd, Int.reduceBNe, Int.reduceBEq, Int.reduceLT, Int.reduceLE, Int.reduceEq, evh, evp, Nat.reduceLeDiff, Nat.reduceSub, Nat.reduceBEq, typs, r0, r3, pa, hr2, a0, a1, f1, f2, fp, ee, wj] | refine kCond2_by (fun hc => ?_) (fun hc => ?_) <;> try simp only [hc] | refine kPick_by (fun hc => ?_) (fun hc => ?_) <;> try simp only [hc] | refine kWant_by (fun hc => ?_) (fun hc => ?_) <;> try simp only [hc])
          exact next (by rw [ho]; simp [hpe]) K2
      · have fp : (!decide (rl.path = ByteArray.empty)) = true := by simp [hpe]
        rcases f12 with f1 | ⟨f1, f2⟩
        · repeat' (first | simp only [evr, nextP_norm, evd, evq, beq_self_eq_true, cond_true, cond_false, reduceIte, Nat.reduceEqDiff, Nat.reduceAdd, Int.reduceBNe, Int.reduceBEq, Int.reduceLT, Int.reduceLE, Int.reduceEq, evh, evp, Nat.reduceLeDiff, Nat.reduceSub, Nat.reduceBEq, typs, r0, r3, pa, hr2, a0, a1, f1, fp, ee] | refine kCond2_by (fun hc => ?_) (fun hc => ?_) <;> try simp only [hc] | refine kPick_by (fun hc => ?_) (fun hc => ?_) <;> try simp only [hc] | refine kWant_by (fun hc => ?_) (fun hc => ?_) <;> try simp only [hc])
          exact no (by rw [ho]; simp [hpe]) K2
        · repeat' (first | simp only [evr, nextP_norm, evd, evq, beq_self_eq_true, cond_true, cond_false, reduceIte, Nat.reduceEqDiff, Nat.reduceAdd, Int.reduceBNe, Int.reduceBEq, Int.reduceLT, Int.reduceLE, Int.reduceEq, evh, evp, Nat.reduceLeDiff, Nat.reduceSub, Nat.reduceBEq, typs, r0, r3, pa, hr2, a0, a1, f1, f2, fp, ee] | refine kCond2_by (fun hc => ?_) (fun hc => ?_) <;> try simp only [hc] | refine kPick_by (fun hc => ?_) (fun hc => ?_) <;> try simp only [hc] | refine kWant_by (fun hc => ?_) (fun hc => ?_) <;> try simp only [hc])
          exact no (by rw [ho]; simp [hpe]) K2
    · have f1 : (rl.kind == 1) = false := by simp; intro hh; exact h1 (.inl hh)
      have f2 : (rl.kind == 2) = false := by simp; intro hh; exact h1 (.inr hh)
      by_cases h4 : rl.kind = 3
      · have f3 : (rl.kind == 3) = true := by simp [h4]
        have ho : ruleOne rl = (split rl.path).isSome := by unfold ruleOne; rw [if_neg h1, if_pos h4]
        by_cases h5 : e = 0
        · have f5 : (e != 0) = false := by simp [h5]
          repeat' (first | simp only [evr, nextP_norm, evd, evq, beq_self_eq_true, cond_true, cond_false, reduceIte, Nat.reduceEqDiff, Nat.reduceAdd, Int.reduceBNe, Int.reduceBEq, Int.reduceLT, Int.reduceLE, Int.reduceEq, evh, evp, Nat.reduceLeDiff, Nat.reduceSub, Nat.reduceBEq, typs, r0, r3, pa, hr2, a0, a1, f1, f2, f3, f5, wj] | refine kCond2_by (fun hc => ?_) (fun hc => ?_) <;> try simp only [hc] | refine kPick_by (fun hc => ?_) (fun hc => ?_) <;> try simp only [hc] | refine kWant_by (fun hc => ?_) (fun hc => ?_) <;> try simp only [hc])
          exact next (by rw [ho]; exact he.1 h5) K2
        · have f5 : (e != 0) = true := by simp [h5]
          repeat' (first | simp only [evr, nextP_norm, evd, evq, beq_self_eq_true, cond_true, cond_false, reduceIte, Nat.reduceEqDiff, Nat.reduceAdd, Int.reduceBNe, Int.reduceBEq, Int.reduceLT, Int.reduceLE, Int.reduceEq, evh, evp, Nat.reduceLeDiff, Nat.reduceSub, Nat.reduceBEq, typs, r0, r3, pa, hr2, a0, a1, f1, f2, f3, f5] | refine kCond2_by (fun hc => ?_) (fun hc => ?_) <;> try simp only [hc] | refine kPick_by (fun hc => ?_) (fun hc => ?_) <;> try simp only [hc] | refine kWant_by (fun hc => ?_) (fun hc => ?_) <;> try simp only [hc])
          exact no (by rw [ho]; cases hs : (split rl.path).isSome; rfl; exact absurd (he.2 hs) h5) K2
      · have f3 : (rl.kind == 3) = false := by simp [h4]
        repeat' (first | simp only [evr, nextP_norm, evd, evq, beq_self_eq_true, cond_true, cond_false, reduceIte, Nat.reduceEqDiff, Nat.reduceAdd, Int.reduceBNe, Int.reduceBEq, Int.reduceLT, Int.reduceLE, Int.reduceEq, evh, evp, Nat.reduceLeDiff, Nat.reduceSub, Nat.reduceBEq, typs, r0, r3, pa, hr2, a0, a1, f1, f2, f3] | refine kCond2_by (fun hc => ?_) (fun hc => ?_) <;> try simp only [hc] | refine kPick_by (fun hc => ?_) (fun hc => ?_) <;> try simp only [hc] | refine kWant_by (fun hc => ?_) (fun hc => ?_) <;> try simp only [hc])
        exact no (by unfold ruleOne; rw [if_neg h1, if_neg h4]) K2
  · have e3 : decide ((j : Int) < (l.length : Int)) = false := decide_eq_false (by omega)
    have ha : l.all ruleOne = true := by rw [List.all_eq_true]; exact fun r hr => hp r (by rw [List.take_of_length_le (by omega)]; exact hr)
    repeat' (first | simp only [evr, nextP_norm, evd, evq, beq_self_eq_true, cond_true, cond_false, reduceIte, Nat.reduceEqDiff, Nat.reduceAdd, Int.reduceBNe, Int.reduceBEq, Int.reduceLT, Int.reduceLE, Int.reduceEq, evh, evp, Nat.reduceLeDiff, Nat.reduceSub, Nat.reduceBEq, typs, r0, r3, e3, ll] | refine kCond2_by (fun hc => ?_) (fun hc => ?_) <;> try simp only [hc] | refine kPick_by (fun hc => ?_) (fun hc => ?_) <;> try simp only [hc] | refine kWant_by (fun hc => ?_) (fun hc => ?_) <;> try simp only [hc])
    exact ⟨by unfold rulesMay; rw [ha, decide_eq_true (by omega)]; rfl, K⟩
end Go.Proofs.YtncmgiddcefpcaaGreatDoor
namespace Go.Proofs.YtncmgiddcefpcaaGreatDoor
open Go Go.Ev Go.Con
set_option linter.unusedSimpArgs false
set_option linter.unusedVariables false
set_option maxRecDepth 100000
end Go.Proofs.YtncmgiddcefpcaaGreatDoor
namespace Go.Proofs.YtncmgiddcefpcaaGreatDoor
open Go Go.Ev Go.RowKit Go.Sort Go.Proofs
set_option linter.unusedSimpArgs false
set_option linter.unusedVariables false
set_option maxRecDepth 100000
theorem nan_walk (x : ByteArray) (w : World) : Calls Tryz.prog 113 #[.string x] w fun e w' => e = .returned (.bool false) ∧ w' = w := by
  go_enter Tryz.func113, Tryz.ntmps113
  go_wp2
  all_goals go_ret
  all_goals exact ⟨by simp, rfl⟩
theorem cb_cases : ∀ x y : List UInt8, (Lib.compareBytes x y = -1 ∧ x ≠ y) ∨ (Lib.compareBytes x y = 0 ∧ x = y) ∨ (Lib.compareBytes x y = 1 ∧ x ≠ y)
  | [], [] => by simp [Lib.compareBytes]
  | [], b :: y => by simp [Lib.compareBytes]
  | a :: x, [] => by simp [Lib.compareBytes]
  | a :: x, b :: y => by
    unfold Lib.compareBytes
    by_cases h1 : a < b
    · have : a ≠ b := by rintro rfl; exact absurd h1 (UInt8.lt_irrefl a)
      simp [h1, this]
    · by_cases h2 : b < a
      · have : a ≠ b := by rintro rfl; exact h1 h2
        simp [h1, h2, this]
      · have : a = b := UInt8.le_antisymm (UInt8.not_lt.1 h2) (UInt8.not_lt.1 h1)
        subst this
        simpa [h1] using cb_cases x y
theorem cmp_walk (x y : ByteArray) (w : World) : Calls Tryz.prog 102 #[.string x, .string y] w fun e w' => e = .returned (.int .i64 (Lib.compareBytes x.data.toList y.data.toList)) ∧ w' = w := by
  have hb : ∀ a b : ByteArray, Op.bytesLess a.toList b.toList = decide (Lib.compareBytes a.data.toList b.data.toList < 0) := fun a b => by
    rw [ByteArray.toList_eq, ByteArray.toList_eq, bytesLess_lt, Bool.eq_iff_iff]; simp [Go.Con.cmp_lt]
  go_enter Tryz.func102, Tryz.ntmps102
  go_wp2_with (go_at_call 113; refine (nan_walk _ _).mono ?_; rintro e w' ⟨rfl, hw⟩; rw [hw])
  all_goals go_ret
  all_goals refine ⟨?_, rfl⟩
  all_goals rcases cb_cases x.data.toList y.data.toList with ⟨h, e⟩ | ⟨h, e⟩ | ⟨h, e⟩
  all_goals simp_all [ByteArray.toList_eq]
theorem clos_walk (x y : ByteArray) (w : World) : Calls Tryz.prog 101 #[.string x, .string y] w fun e w' => e = .returned (.int .i64 (Lib.compareBytes x.data.toList y.data.toList)) ∧ w' = w := by
  have hcon := cmp_walk x y w
  generalize Lib.compareBytes x.data.toList y.data.toList = r at hcon ⊢
  go_enter Tryz.func101, Tryz.ntmps101
  go_wp2_with (go_at_call 102; refine hcon.mono ?_; rintro e w' ⟨rfl, rfl⟩)
  go_ret
  exact ⟨rfl, rfl⟩
section
variable {P : Program} (w : World) {ops : Array Oper} {rest : List Oper} {o : Oper} {a : Act} {Q : Exit → Act → World → Prop}
theorem wl_range (hg : o.guard = none) (m : Operand) (t k e : TypeId) (hop : o.op = Op.range t m) (ht : P.underlying t = some (.map k e)) (b : Nat) (es : Array MapEntry) (ck : Nat) (hm : a.eval m = .map (some b)) (hb : w.heap[b]? = some (.map es ck))
    (hK : wpList P ops Q rest (a.put o.dst (.pointer (some ⟨w.heap.size, 0, none⟩))) (w.alloc (.mapIter (some b) ck #[] ck))) : wpList P ops Q (o :: rest) a w := by
  refine wpList_plain hg fun K' hK' => ?_
  unfold Oper.wp
  simp [execOp, hop, hm, run_range_map w t k e b es ck ht hb, Result.andThen]
  exact hK' _ _ hK
def Drawn (w w1 : World) : Prop := w1 = w ∨ w1 = w.drew
theorem wl_next (hg : o.guard = none) (it : Operand) (hop : o.op = Op.next it false) (r b since c0 : Nat) (seen : Array Nat) (es : Array MapEntry) (ck : Nat) (hit : a.eval it = .pointer (some ⟨r, 0, none⟩))
    (hr : w.heap[r]? = some (.mapIter (some b) since seen c0)) (hb : w.heap[b]? = some (.map es ck)) (hold : ∀ x ∈ es.toList, x.born < since) (hsc : since ≤ c0)
    (hDone : (leftOf es seen).size = 0 → wpList P ops Q rest (a.put o.dst (.tuple #[.bool false])) w)
    (hMore : ∀ e ∈ (leftOf es seen).toList, ∀ w1 : World, Drawn w w1 → wpList P ops Q rest (a.put o.dst (.tuple #[.bool true, e.key, e.val])) (Go.ChangeMaps.setBlock w1 r (.mapIter (some b) since (seen.push e.born) ck))) :
    wpList P ops Q (o :: rest) a w := by
  refine wpList_plain hg fun K' hK' => ?_
  unfold Oper.wp
  rcases run_next_at (P := P) w o.type r b since c0 seen es ck hr hb hold hsc with ⟨h0, hrun⟩ | ⟨e, he, w1, h1, hrun⟩
  · simp [execOp, hop, hit, hrun, Result.andThen]
    exact hK' _ _ (hDone h0)
  · simp [execOp, hop, hit, hrun, Result.andThen]
    exact hK' _ _ (hMore e he w1 h1)
end
def nameOf (d : Int) (e : MapEntry) : Option (List UInt8) := match keyName d e.key with
  | some (some s) => some s
  | _ => none
theorem namesE_spec {d : Int} : ∀ {es : List MapEntry} {ns : List (List UInt8)}, namesE d es = some ns → ns = es.filterMap (nameOf d) ∧ ∀ e ∈ es, ∃ x s, e.key = .agg #[.int .i64 x, .string s]
  | [], ns, h => by cases h; exact ⟨rfl, by simp⟩
  | e :: es, ns, h => by
    unfold namesE at h
    have hk : ∀ o, keyName d e.key = some o → ∃ x s, e.key = .agg #[.int .i64 x, .string s] := fun o ho => by
      unfold keyName at ho
      split at ho
      · rename_i cs hcs
        split at ho
        · rename_i x s hl
          refine ⟨x, s, ?_⟩
          rw [hcs]
          congr 1
          cases cs; simp at hl; rw [hl]
        · cases ho
      · cases ho
    cases hn : keyName d e.key with
    | none => rw [hn] at h; cases h
    | some o =>
      rw [hn] at h
      cases o with
      | none =>
        obtain ⟨h1, h2⟩ := namesE_spec h
        refine ⟨by rw [List.filterMap_cons, nameOf, hn]; exact h1, fun x hx => ?_⟩
        rcases List.mem_cons.1 hx with rfl | hx
        · exact hk _ hn
        · exact h2 x hx
      | some s =>
        obtain ⟨l, hl, rfl⟩ := Option.map_eq_some_iff.1 h
        obtain ⟨h1, h2⟩ := namesE_spec hl
        refine ⟨by rw [List.filterMap_cons, nameOf, hn]; simp only; rw [h1], fun x hx => ?_⟩
        rcases List.mem_cons.1 hx with rfl | hx
        · exact hk _ hn
        · exact h2 x hx
theorem nameOf_key {d : Int} {e : MapEntry} {x : Int} {s : ByteArray} (h : e.key = .agg #[.int .i64 x, .string s]) : nameOf d e = if x = d then some s.data.toList else none := by
  unfold nameOf keyName
  rw [h]
  by_cases hx : x = d <;> simp [hx]
theorem left_none {es : Array MapEntry} {seen : Array Nat} (h : (leftOf es seen).size = 0) : ∀ e ∈ es.toList, e.born ∈ seen.toList := fun e he => by
  refine Decidable.byContradiction fun hn => ?_
  have hm : e ∈ (leftOf es seen).toList := by
    unfold leftOf
    simp only [Array.toList_filter, List.mem_filter]
    exact ⟨he, by simpa using hn⟩
  have : (leftOf es seen).toList.length = 0 := by rw [Array.length_toList]; exact h
  rw [List.length_eq_zero_iff.1 this] at hm
  cases hm
theorem left_mem {es : Array MapEntry} {seen : Array Nat} {e : MapEntry} (h : e ∈ (leftOf es seen).toList) : e ∈ es.toList ∧ e.born ∉ seen.toList := by
  unfold leftOf at h
  simp only [Array.toList_filter, List.mem_filter] at h
  exact ⟨h.1, by simpa using h.2⟩
theorem left_less {es : Array MapEntry} {seen : Array Nat} {e : MapEntry} (h : e ∈ (leftOf es seen).toList) : (leftOf es (seen.push e.born)).size < (leftOf es seen).size := by
  rw [← Array.length_toList, ← Array.length_toList]
  obtain ⟨h1, h2⟩ := left_mem h
  unfold leftOf at h ⊢
  rw [Array.toList_filter, Array.toList_filter] at *
  have e1 : (es.toList.filter fun x => !(seen.push e.born).contains x.born) = (es.toList.filter fun x => !seen.contains x.born).filter fun x => !(x.born == e.born) := by
    rw [List.filter_filter]
    apply List.filter_congr
    intro x _
    rw [Bool.eq_iff_iff]
    simp [Array.mem_push, and_comm]
  rw [e1]
  exact List.length_filter_lt_length_iff_exists.2 ⟨e, h, by simp⟩
def leftW (es : Array MapEntry) (r : Nat) (w : World) : Nat := match w.heap[r]? with
  | some (.mapIter _ _ seen _) => (leftOf es seen).size
  | _ => 0
theorem collected_perm {es : List MapEntry} {el : List MapEntry} (hes : (es.map (·.born)).Nodup) (hel : (el.map (·.born)).Nodup) (hsub : ∀ e ∈ el, e ∈ es) (hall : ∀ e ∈ es, e.born ∈ el.map (·.born)) : el.Perm es := by
  have n1 : el.Nodup := by
    refine List.Pairwise.imp ?_ (List.pairwise_map.1 hel)
    intro a b h e
    exact h (by rw [e])
  have n2 : es.Nodup := by
    refine List.Pairwise.imp ?_ (List.pairwise_map.1 hes)
    intro a b h e
    exact h (by rw [e])
  refine (List.perm_ext_iff_of_nodup n1 n2).2 fun a => ⟨hsub a, fun ha => ?_⟩
  obtain ⟨b, hb, hab⟩ := List.mem_map.1 (hall a ha)
  have := Go.Con.Hi.nodup_inj hes (hsub b hb) ha hab
  rw [← this]; exact hb
def SortedW (w : World) (blk : Nat) (ts : List (List UInt8)) (w' : World) : Prop := ∃ n os, w' = grow (putRow encStr (Sort.ahead w n) blk 0 ts.toArray) os
def SortOK : Prop := ∀ (blk cap : Nat) (ss : List (List UInt8)) (w : World) (cur : Array Value), w.heap[blk]? = some (.cells cur 9 (0, 0)) → cur.toList.take ss.length = ss.map encStr → ss.length ≤ cap → ss.length < 4611686018427387904 →
  Calls Tryz.prog 100 #[.slice (some ⟨blk, 0, none⟩) ss.length cap, .func (.func 101) #[] #[]] w fun e w' => e = .returned (.tuple #[]) ∧ SortedW w blk (sortB ss) w'
def SortNil : Prop := ∀ (w : World), Calls Tryz.prog 100 #[.slice none 0 0, .func (.func 101) #[] #[]] w fun e w' => e = .returned (.tuple #[]) ∧ Below w.heap.size w w'
set_option maxHeartbeats 400000 in
theorem names_walk (HS : SortOK) (HN : SortNil) : NamesOK Tryz.prog 73 9 := by
  intro tb bm es ck d ns w hcell hb hnd hborn hsz hns
  obtain ⟨hns, hkey⟩ := namesE_spec hns
  obtain ⟨i0, hi, hz0, hz1, hz2⟩ := info_parts (P := Tryz.prog) (e := 9) (z := .string ⟨#[]⟩) (size := 1) (bytes := 16) (by kernel_rfl)
  have hbl : bm < w.heap.size := (Array.getElem?_eq_some_iff.1 hb).1
  go_enter Tryz.func73, Tryz.ntmps73
  go_wp2_with (first
    | (at_range; refine wl_range _ rfl _ _ _ _ rfl Tryz.underlying88 bm es ck rfl hb ?_)
    | go_in)
  go_frame
  go_loopw [5] (fun v wr => ∃ (el : List MapEntry) (seen : Array Nat) (c0 : Nat), wr.heap[w.heap.size]? = some (.mapIter (some bm) ck seen c0) ∧ ck ≤ c0 ∧ seen.toList = el.map (·.born) ∧ (el.map (·.born)).Nodup ∧ (∀ e ∈ el, e ∈ es.toList) ∧
      wr.heap[bm]? = some (.map es ck) ∧ el.length + (leftOf es seen).size ≤ es.size ∧ wr.ownsRow (w.heap.size + 1) 9 1 v (el.filterMap (nameOf d)).length ((el.filterMap (nameOf d)).map encStr) ∧ ((el.filterMap (nameOf d)).length = 0 → v = .slice none 0 0) ∧ Below w.heap.size w wr)
    (fun _ wr => leftW es w.heap.size wr)
  case atStart =>
    refine ⟨[], #[], ck, by show (w.heap.push _)[w.heap.size]? = _; simp, Nat.le_refl _, rfl, by simp, by simp, ?_, ?_, ⟨rfl, .inl ⟨rfl, rfl⟩⟩, fun _ => rfl, (Below.refl _ _).alloc (Nat.le_refl _) _⟩
    · rw [Below.heap_alloc _ _ _ hbl]; exact hb
    · unfold leftOf; simp; exact Array.size_filter_le
  case round =>
    obtain ⟨el, seen, c0, hr, hc0, hseen, hel, hsub, hb1, hlen, hrow, hvn, hbel⟩ := hrel
    go_wp2_with (first
      | (at_next; refine wl_next _ rfl _ rfl w.heap.size bm ck c0 seen es ck rfl hr hb1 hborn hc0 ?_ ?_)
      | go_in)
    · intro h0
      have h1 := left_none (es := es) (seen := seen) (by rw [h0]; rfl)
      rw [hseen] at h1
      have hperm := (collected_perm hnd hel hsub h1).filterMap (nameOf d)
      rw [← hns] at hperm
      have hnl : (el.filterMap (nameOf d)).length = ns.length := hperm.length_eq
      have hsort : sortB (el.filterMap (nameOf d)) = sortB ns := sortB_uniq ((sortB_perm _).trans hperm) (sortB_sorted _)
      have hsl : (sortB ns).length = ns.length := (sortB_perm ns).length_eq
      have hell : (el.filterMap (nameOf d)).length ≤ el.length := List.length_filterMap_le _ _
      generalize el.filterMap (nameOf d) = ss at hrow hperm hnl hsort hell hvn
      rcases hrow.2 with ⟨rfl, hn0⟩ | ⟨g, cap, cur, rfl, hbase, hb, k1, k2, k3, k4⟩
      · have hnil : ns = [] := List.length_eq_zero_iff.1 (by omega)
        have hc := HN wr
        go_wp2_with (go_at_call 100; refine hc.mono ?_; rintro e w' ⟨rfl, hbw⟩)
        go_ret
        exact ⟨hbel.trans (hbw.mono hbel.size), .inl ⟨hnil, rfl⟩⟩
      · have hc := HS g cap ss wr cur hb (by simpa using k4) k1 (by omega)
        rw [hsort] at hc
        have pk : Nonempty (PLift (ss.length = ns.length ∧ (sortB ns).length = ns.length ∧ cur.size = cap * 1 ∧ cur.toList.take (ss.length * 1) = ss.map encStr ∧ wr.heap[g]? = some (.cells cur 9 (0, 0)))) := ⟨⟨hnl, hsl, k3, k4, hb⟩⟩
        clear hns hnl hsl k3 k4 hsort hseen hb h0
        go_wp2_with (go_at_call 100; refine hc.mono ?_; rintro e w' ⟨rfl, hw'⟩)
        go_ret
        obtain ⟨nn, os, rfl⟩ := hw'
        obtain ⟨⟨hnl, hsl, k3, k4, hb⟩⟩ := pk
        have hfin := hbel.grown (grownBy_sorted (w := wr) (g := g) (n := nn) (os := os) (sortB ns).toArray) hbel.size (fun j hj => by cases hj; omega)
        refine ⟨hfin, ?_⟩
        have hheap := heap_sorted (n := nn) (os := os) (sortB ns).toArray hb
        by_cases hnz : ns = []
        · have := hvn (by rw [hnl, hnz]; rfl)
          cases this
        · refine .inr ⟨g, cap, _, by rw [← hnl]; rfl, hnz, by omega, by omega, hheap, by simp [putCells]; omega, ?_⟩
          have := take_putCells cur (sortB ns) (by omega)
          rw [hsl] at this
          exact this
    · intro e he w1 hw1
      have he := Array.mem_toList_iff.2 he
      obtain ⟨he1, he2⟩ := left_mem he
      obtain ⟨x, nm, hk⟩ := hkey e he1
      have hnm := nameOf_key (d := d) hk
      have hless := left_less he
      rw [hk]
      have hh : w1.heap = wr.heap := by rcases hw1 with rfl | rfl <;> rfl
      have hrl : w.heap.size < wr.heap.size := (Array.getElem?_eq_some_iff.1 hr).1
      have hr2 : (Go.ChangeMaps.setBlock w1 w.heap.size (.mapIter (some bm) ck (seen.push e.born) ck)).heap[w.heap.size]? = some (.mapIter (some bm) ck (seen.push e.born) ck) := by
        simp [Go.ChangeMaps.setBlock, hh, hrl]
      have hg12 : wr.grownBy (Go.ChangeMaps.setBlock w1 w.heap.size (.mapIter (some bm) ck (seen.push e.born) ck)) (some w.heap.size) := by
        refine ⟨by rcases hw1 with rfl | rfl <;> rfl, by rcases hw1 with rfl | rfl <;> rfl, by rcases hw1 with rfl | rfl <;> rfl, by simp [Go.ChangeMaps.setBlock, hh], fun k hk hne => ?_⟩
        have : w.heap.size ≠ k := fun e => hne (by rw [e])
        simp [Go.ChangeMaps.setBlock, hh, this]
      have hb2 := (hg12.block bm (by have := (Array.getElem?_eq_some_iff.1 hb1).1; exact this) (by simp; omega)).trans hb1
      have hen := run_entry_at (P := Tryz.prog) _ w.heap.size bm ck seen es ck e hr2 hb2 he1 hnd
      rw [hk] at hen
      have hbel2 := hbel.grown hg12 hbel.size (fun k e => by cases e; exact Nat.le_refl _)
      have hrow2 := hrow.kept hg12 (by
        rcases hrow.2 with ⟨rfl, _⟩ | ⟨g, cap, cur, rfl, hbase, _⟩
        · exact .inl rfl
        · right; simp [Value.ownBlock]; omega)
      have hlw : ∀ w' : World, w'.heap[w.heap.size]? = some (.mapIter (some bm) ck (seen.push e.born) ck) → leftW es w.heap.size w' < leftW es w.heap.size wr := fun w' h' => by
        unfold leftW; rw [h', hr]; exact hless
      have hcol : (seen.push e.born).toList = (el ++ [e]).map (·.born) := by simp [hseen]
      have hel2 : ((el ++ [e]).map (·.born)).Nodup := by
        rw [List.map_append, List.nodup_append]
        refine ⟨hel, by simp, fun a ha b hb => ?_⟩
        simp at hb
        subst hb
        rintro rfl
        rw [hseen] at he2
        exact he2 ha
      have hsub2 : ∀ y ∈ el ++ [e], y ∈ es.toList := fun y hy => by
        rcases List.mem_append.1 hy with hy | hy
        · exact hsub y hy
        · simp at hy; subst hy; exact he1
      have hlen2 : (el ++ [e]).length + (leftOf es (seen.push e.born)).size ≤ es.size := by rw [List.length_append, List.length_singleton]; omega
      have hell : (el.filterMap (nameOf d)).length ≤ el.length := List.length_filterMap_le _ _
      generalize Go.ChangeMaps.setBlock w1 w.heap.size (.mapIter (some bm) ck (seen.push e.born) ck) = w2 at hr2 hb2 hen hbel2 hrow2 ⊢
      have hrow3 := (hrow2.alloc (.cells #[.int .i64 x, .string nm] 149)).alloc (.cells #[.string nm] 9)
      have hsz2 := hbel2.size
      have hrl2 : w.heap.size < w2.heap.size := (Array.getElem?_eq_some_iff.1 hr2).1
      have hbl2 : bm < w2.heap.size := (Array.getElem?_eq_some_iff.1 hb2).1
      have hnew : ∀ (j : Nat) u, [Value.string nm][j]? = some u → ((w2.alloc (.cells #[.int .i64 x, .string nm] 149)).alloc (.cells #[.string nm] 9)).cell? ((⟨w2.heap.size + 1, 0, none⟩ : Addr).add j) = some u := by
        have h0 := cell_one_new (w2.alloc (.cells #[.int .i64 x, .string nm] 149)) (.string nm) 9
        have e1 : (w2.alloc (.cells #[.int .i64 x, .string nm] 149)).heap.size = w2.heap.size + 1 := by simp
        rw [e1] at h0
        exact h0
      clear hg12 hh hw1
      go_wp2_with (first
        | (at_builtin; refine wpList_append_own _ rfl _ _ 46 rfl (w.heap.size + 1) 9 i0 (.string ⟨#[]⟩) 1 16 Tryz.underlying46 hi hz0 hz1 hz2 rfl (by decide) _ _ _ rfl hrow3 ⟨w2.heap.size + 1, 0, none⟩ 1 1 [.string nm] rfl rfl hnew (fun x hx => by simp at hx; subst hx; rfl) (by unfold maxLen; omega) (by omega) (by simp; omega) ?_; intro v' w3 hown' hgrow3 hnil3)
        | go_in)
      · rename_i hxd
        have hgrow4 : ((w2.alloc (.cells #[.int .i64 x, .string nm] 149)).alloc (.cells #[.string nm] 9)).grownBy w3 (Value.ownBlock u5) := hgrow3
        have hown2 : Value.ownBlock u5 = none ∨ ∃ g, Value.ownBlock u5 = some g ∧ w.heap.size + 1 ≤ g := by
          rcases hrow.2 with ⟨rfl, _⟩ | ⟨g, cap, cur, rfl, hbase, _⟩
          · exact .inl rfl
          · exact .inr ⟨g, rfl, hbase⟩
        have hne : ∀ k, k ≤ w.heap.size → some k ≠ Value.ownBlock u5 := fun k hk e => by
          rcases hown2 with h | ⟨g, h, hg⟩
          · rw [h] at e; cases e
          · rw [h] at e; cases e; omega
        have hold : ∀ k, k ≤ w.heap.size → k < w2.heap.size → w3.heap[k]? = w2.heap[k]? := fun k hk hk2 => by
          rw [hgrow4.block k (by simp; omega) (hne k hk), Below.heap_alloc _ _ _ (by simp; omega), Below.heap_alloc _ _ _ hk2]
        have hr3 := (hold _ (Nat.le_refl _) hrl2).trans hr2
        have hb3 := (hold bm (by omega) hbl2).trans hb2
        have hfm : (el ++ [e]).filterMap (nameOf d) = el.filterMap (nameOf d) ++ [nm.data.toList] := by
          rw [List.filterMap_append]
          congr 1
          rw [List.filterMap_cons, hnm, if_pos (by simpa using hxd)]; rfl
        refine ⟨⟨el ++ [e], _, ck, hr3, Nat.le_refl _, hcol, hel2, hsub2, hb3, hlen2, ?_, ?_, ?_⟩, hlw _ hr3⟩
        · rw [hfm, List.length_append, List.map_append]
          simpa [encStr] using hown'
        · rw [hfm]; simp
        · exact ((hbel2.alloc (by omega) _).alloc (by simp; omega) _).grown hgrow4 (by simp; omega) (fun k hk => by
            rcases hown2 with h | ⟨g, h, hg⟩
            · rw [h] at hk; cases hk
            · rw [h] at hk; cases hk; omega)
      · rename_i hxd
        have hr3 := (Below.heap_alloc w2 (.cells #[.int .i64 x, .string nm] 149) _ hrl2).trans hr2
        have hb3 := (Below.heap_alloc w2 (.cells #[.int .i64 x, .string nm] 149) _ hbl2).trans hb2
        have hfm : (el ++ [e]).filterMap (nameOf d) = el.filterMap (nameOf d) := by
          rw [List.filterMap_append, List.filterMap_cons, hnm, if_neg (by simpa using hxd)]; simp
        refine ⟨⟨el ++ [e], _, ck, hr3, Nat.le_refl _, hcol, hel2, hsub2, hb3, hlen2, ?_, ?_, hbel2.alloc (by omega) _⟩, hlw _ hr3⟩
        · rw [hfm]; exact hrow2.alloc _
        · rw [hfm]; exact hvn
end Go.Proofs.YtncmgiddcefpcaaGreatDoor
namespace Go.Proofs
open Go.Shelf
def Tryz.lays213_ren : Go.Shelf.Ren := ⟨fun | 213 => 116 | 265 => 130 | n => n, fun | 9 => 9 | 3 => 3 | n => n, fun | n => n⟩
def Tryz.lays106_ren : Go.Shelf.Ren := ⟨fun | 106 => 110 | 213 => 116 | 265 => 130 | n => n, fun | 9 => 9 | 3 => 3 | n => n, fun | n => n⟩
theorem Tryz.lays106 : Go.Proofs.Lays.n106 Tryz.prog Tryz.lays106_ren := {
  mixed := by kernel_rfl
  f106 := Tryz.func110.trans (congrArg some (by kernel_rfl))
  f213 := Tryz.func116.trans (congrArg some (by kernel_rfl))
  f265 := Tryz.func130.trans (congrArg some (by kernel_rfl))
  t3 := Tryz.underlying3
  a3 := Tryz.isAgg3
  z3 := Tryz.sizeOf3
  v3 := Tryz.zeroValue3
  t9 := Tryz.underlying9
  a9 := Tryz.isAgg9
  z9 := Tryz.sizeOf9
  v9 := Tryz.zeroValue9 }
open Go.RowKit in
theorem Tryz.strings_Compare (a b : ByteArray) (w : World) :
    Calls Tryz.prog 110 #[.string a, .string b] w fun e w' => e = .returned (.int .i64 (Lib.compareBytes a.data.toList b.data.toList)) ∧ w' = w := Any.strings_Compare Tryz.lays106 a b w
def Tryz.lays221_ren : Go.Shelf.Ren := ⟨fun | 221 => 115 | 268 => 127 | 138 => 128 | 143 => 129 | 195 => 136 | 197 => 137 | 218 => 138 | 219 => 139 | 260 => 141 | 217 => 142 | 225 => 143 | 224 => 144 | 267 => 145 | 266 => 146 | 314 => 147 | n => n, fun | 9 => 9 | 3 => 3 | 31 => 46 | 4 => 4 | 0 => 0 | 105 => 189 | 21 => 21 | 5 => 5 | 46 => 168 | 119 => 194 | 139 => 197 | 138 => 196 | 146 => 198 | 51 => 178 | n => n, fun | 1 => 0 | 3 => 1 | 4 => 2 | n => n⟩
def Tryz.lays146_ren : Go.Shelf.Ren := ⟨fun | 146 => 106 | 221 => 115 | 268 => 127 | 138 => 128 | 143 => 129 | 195 => 136 | 197 => 137 | 218 => 138 | 219 => 139 | 260 => 141 | 217 => 142 | 225 => 143 | 224 => 144 | 267 => 145 | 266 => 146 | 314 => 147 | n => n, fun | 9 => 9 | 31 => 46 | 3 => 3 | 4 => 4 | 0 => 0 | 105 => 189 | 21 => 21 | 5 => 5 | 46 => 168 | 119 => 194 | 139 => 197 | 138 => 196 | 146 => 198 | 51 => 178 | n => n, fun | 1 => 0 | 3 => 1 | 4 => 2 | n => n⟩
theorem Tryz.lays146 : Go.Proofs.Lays.n146 Tryz.prog Tryz.lays146_ren := {
  mixed := by kernel_rfl
  f138 := Tryz.func128.trans (congrArg some (by kernel_rfl))
  f143 := Tryz.func129.trans (congrArg some (by kernel_rfl))
  f146 := Tryz.func106.trans (congrArg some (by kernel_rfl))
  f195 := Tryz.func136.trans (congrArg some (by kernel_rfl))
  f197 := Tryz.func137.trans (congrArg some (by kernel_rfl))
  f217 := Tryz.func142.trans (congrArg some (by kernel_rfl))
  f218 := Tryz.func138.trans (congrArg some (by kernel_rfl))
  f219 := Tryz.func139.trans (congrArg some (by kernel_rfl))
  f221 := Tryz.func115.trans (congrArg some (by kernel_rfl))
  f224 := Tryz.func144.trans (congrArg some (by kernel_rfl))
  f225 := Tryz.func143.trans (congrArg some (by kernel_rfl))
  f260 := Tryz.func141.trans (congrArg some (by kernel_rfl))
  f266 := Tryz.func146.trans (congrArg some (by kernel_rfl))
  f267 := Tryz.func145.trans (congrArg some (by kernel_rfl))
  f268 := Tryz.func127.trans (congrArg some (by kernel_rfl))
  f314 := Tryz.func147.trans (congrArg some (by kernel_rfl))
  t0 := Tryz.underlying0
  a0 := Tryz.isAgg0
  z0 := Tryz.sizeOf0
  v0 := Tryz.zeroValue0
  t3 := Tryz.underlying3
  a3 := Tryz.isAgg3
  z3 := Tryz.sizeOf3
  v3 := Tryz.zeroValue3
  t4 := Tryz.underlying4
  a4 := Tryz.isAgg4
  z4 := Tryz.sizeOf4
  v4 := Tryz.zeroValue4
  t5 := Tryz.underlying5
  a5 := Tryz.isAgg5
  z5 := Tryz.sizeOf5
  v5 := Tryz.zeroValue5
  t9 := Tryz.underlying9
  a9 := Tryz.isAgg9
  z9 := Tryz.sizeOf9
  v9 := Tryz.zeroValue9
  t21 := Tryz.underlying21
  a21 := Tryz.isAgg21
  z21 := Tryz.sizeOf21
  v21 := Tryz.zeroValue21
  t31 := Tryz.underlying46
  a31 := Tryz.isAgg46
  z31 := Tryz.sizeOf46
  v31 := Tryz.zeroValue46
  t46 := Tryz.underlying168
  a46 := Tryz.isAgg168
  z46 := Tryz.sizeOf168
  v46 := Tryz.zeroValue168
  t51 := Tryz.underlying178
  a51 := Tryz.isAgg178
  z51 := Tryz.sizeOf178
  v51 := Tryz.zeroValue178
  t105 := Tryz.underlying189
  a105 := Tryz.isAgg189
  z105 := Tryz.sizeOf189
  v105 := Tryz.zeroValue189
  t119 := Tryz.underlying194
  a119 := Tryz.isAgg194
  z119 := Tryz.sizeOf194
  t138 := Tryz.underlying196
  a138 := Tryz.isAgg196
  z138 := Tryz.sizeOf196
  v138 := Tryz.zeroValue196
  t139 := Tryz.underlying197
  a139 := Tryz.isAgg197
  z139 := Tryz.sizeOf197
  v139 := Tryz.zeroValue197
  t146 := Tryz.underlying198
  a146 := Tryz.isAgg198
  z146 := Tryz.sizeOf198
  v146 := Tryz.zeroValue198
  g1 := by kernel_rfl
  g3 := by kernel_rfl
  g4 := by kernel_rfl }
open Go.RowKit Go.Lib in
theorem Tryz.strings_Split (s sep : ByteArray) (m : Int) (w : World) (hs : s.size < 4294967281) (hm : w.cell? ⟨0, 0, none⟩ = some (.int .i64 m)) (h1 : 1 ≤ sep.size) :
    Calls Tryz.prog 106 #[.string s, .string sep] w fun e w' =>
      e = .returned (.slice (some ⟨w.heap.size, 0, none⟩) (Lib.countB s sep + 1) (Lib.countB s sep + 1)) ∧ w' = w.alloc (.cells ((Lib.splitB sep 0 (Lib.countB s sep) s).map Value.string).toArray 9) := Any.strings_Split Tryz.lays146 (by kernel_rfl) s sep m w hs hm h1
def Tryz.laysSlF6_f100_ren : Go.Shelf.Ren := ⟨fun | 6 => 100 | 15 => 112 | 14 => 111 | 28 => 125 | 29 => 126 | 20 => 117 | 21 => 118 | 22 => 119 | 23 => 120 | 24 => 121 | 25 => 122 | 26 => 123 | 27 => 124 | 46 => 131 | 47 => 132 | 48 => 133 | 49 => 134 | 50 => 135 | 57 => 140 | n => n, fun | 22 => 46 | 24 => 9 | 25 => 162 | 3 => 3 | 39 => 168 | 0 => 0 | 53 => 178 | 55 => 180 | 4 => 4 | 46 => 172 | 45 => 171 | 50 => 66 | 5 => 5 | 9 => 9 | 66 => 182 | 70 => 186 | 76 => 192 | 77 => 48 | n => n, fun | n => n⟩
theorem Tryz.laysSlF6_f100 : Go.Proofs.SlLaysF.n6 Tryz.prog Tryz.laysSlF6_f100_ren := {
  mixed := by kernel_rfl
  f6 := ⟨Tryz.f100.name, by decide, Tryz.func100.trans (congrArg some (by kernel_rfl))⟩
  f14 := ⟨Tryz.f111.name, by decide, Tryz.func111.trans (congrArg some (by kernel_rfl))⟩
  f15 := Tryz.func112.trans (congrArg some (by kernel_rfl))
  f20 := ⟨Tryz.f117.name, by decide, Tryz.func117.trans (congrArg some (by kernel_rfl))⟩
  f21 := ⟨Tryz.f118.name, by decide, Tryz.func118.trans (congrArg some (by kernel_rfl))⟩
  f22 := ⟨Tryz.f119.name, by decide, Tryz.func119.trans (congrArg some (by kernel_rfl))⟩
  f23 := ⟨Tryz.f120.name, by decide, Tryz.func120.trans (congrArg some (by kernel_rfl))⟩
  f24 := ⟨Tryz.f121.name, by decide, Tryz.func121.trans (congrArg some (by kernel_rfl))⟩
  f25 := ⟨Tryz.f122.name, by decide, Tryz.func122.trans (congrArg some (by kernel_rfl))⟩
  f26 := ⟨Tryz.f123.name, by decide, Tryz.func123.trans (congrArg some (by kernel_rfl))⟩
  f27 := ⟨Tryz.f124.name, by decide, Tryz.func124.trans (congrArg some (by kernel_rfl))⟩
  f28 := Tryz.func125.trans (congrArg some (by kernel_rfl))
  f29 := Tryz.func126.trans (congrArg some (by kernel_rfl))
  f46 := ⟨Tryz.f131.name, by decide, Tryz.func131.trans (congrArg some (by kernel_rfl))⟩
  f47 := Tryz.func132.trans (congrArg some (by kernel_rfl))
  f48 := Tryz.func133.trans (congrArg some (by kernel_rfl))
  f49 := ⟨Tryz.f134.name, by decide, Tryz.func134.trans (congrArg some (by kernel_rfl))⟩
  f50 := ⟨Tryz.f135.name, by decide, Tryz.func135.trans (congrArg some (by kernel_rfl))⟩
  f57 := ⟨Tryz.f140.name, by decide, Tryz.func140.trans (congrArg some (by kernel_rfl))⟩
  t0 := Tryz.underlying0
  a0 := Tryz.isAgg0
  z0 := Tryz.sizeOf0
  v0 := Tryz.zeroValue0
  t3 := Tryz.underlying3
  a3 := Tryz.isAgg3
  z3 := Tryz.sizeOf3
  v3 := Tryz.zeroValue3
  t4 := Tryz.underlying4
  a4 := Tryz.isAgg4
  z4 := Tryz.sizeOf4
  v4 := Tryz.zeroValue4
  t5 := Tryz.underlying5
  a5 := Tryz.isAgg5
  z5 := Tryz.sizeOf5
  v5 := Tryz.zeroValue5
  t9 := Tryz.underlying9
  a9 := Tryz.isAgg9
  z9 := Tryz.sizeOf9
  v9 := Tryz.zeroValue9
  t22 := Tryz.underlying46
  a22 := Tryz.isAgg46
  z22 := Tryz.sizeOf46
  v22 := Tryz.zeroValue46
  a24 := Tryz.isAgg9
  z24 := Tryz.sizeOf9
  t25 := Tryz.underlying162
  a25 := Tryz.isAgg162
  z25 := Tryz.sizeOf162
  v25 := Tryz.zeroValue162
  t39 := Tryz.underlying168
  a39 := Tryz.isAgg168
  z39 := Tryz.sizeOf168
  v39 := Tryz.zeroValue168
  t45 := Tryz.underlying171
  a45 := Tryz.isAgg171
  z45 := Tryz.sizeOf171
  v45 := Tryz.zeroValue171
  t46 := Tryz.underlying172
  a46 := Tryz.isAgg172
  z46 := Tryz.sizeOf172
  v46 := Tryz.zeroValue172
  t50 := Tryz.underlying66
  a50 := Tryz.isAgg66
  z50 := Tryz.sizeOf66
  v50 := Tryz.zeroValue66
  t53 := Tryz.underlying178
  a53 := Tryz.isAgg178
  z53 := Tryz.sizeOf178
  v53 := Tryz.zeroValue178
  t55 := Tryz.underlying180
  a55 := Tryz.isAgg180
  z55 := Tryz.sizeOf180
  v55 := Tryz.zeroValue180
  t66 := Tryz.underlying182
  a66 := Tryz.isAgg182
  z66 := Tryz.sizeOf182
  v66 := Tryz.zeroValue182
  t70 := Tryz.underlying186
  a70 := Tryz.isAgg186
  z70 := Tryz.sizeOf186
  v70 := Tryz.zeroValue186
  t76 := Tryz.underlying192
  a76 := Tryz.isAgg192
  z76 := Tryz.sizeOf192
  v76 := Tryz.zeroValue192
  t77 := Tryz.underlying48
  a77 := Tryz.isAgg48
  z77 := Tryz.sizeOf48
  v77 := Tryz.zeroValue48 }
open Go.RowKit Go.Lib Go.Sort in
theorem Tryz.slices_SortFunc {α : Type} [Inhabited α] (enc : α → Value) (h1 : OneCell enc) (cf : α → α → Int) (hO : SWO (ltOf cf)) (g : Nat) (cb : Array Value) (blk off cap : Nat) (d : Array α) (w : World) (eg : ∀ args w, (callFunc g args).run Tryz.prog w = .ok (.enter g args) w) (hcmp : CmpLays1 Tryz.prog g cb enc cf blk off d.size w) (hH : Holds enc w blk off d) (hblk : blk < w.heap.size) (hsz : d.size < 4611686018427387904) :
    Calls Tryz.prog 100 #[.slice (some ⟨blk, off, none⟩) d.size cap, .func (.func g) #[] cb] w fun e w' =>
      e = .returned (.tuple #[]) ∧ ∃ d' n os, PermIn 0 d.size d d' ∧ SortedIn (ltOf cf) 0 d.size d' ∧ w' = sortWorld enc w blk off n d' os := Any.slices_SortFunc Tryz.laysSlF6_f100 enc h1 cf hO g cb blk off cap d w eg hcmp hH hblk hsz
def Tryz.laysSlF06_f100_ren : Go.Shelf.Ren := ⟨fun | 6 => 100 | 15 => 112 | 14 => 111 | 28 => 125 | 29 => 126 | 20 => 117 | 21 => 118 | 22 => 119 | 23 => 120 | 24 => 121 | 25 => 122 | 26 => 123 | 27 => 124 | 46 => 131 | 47 => 132 | 48 => 133 | 49 => 134 | 50 => 135 | 57 => 140 | n => n, fun | 22 => 46 | 24 => 9 | 25 => 162 | 3 => 3 | 39 => 168 | 0 => 0 | 53 => 178 | 55 => 180 | 4 => 4 | 46 => 172 | 45 => 171 | 50 => 66 | 5 => 5 | 9 => 9 | 66 => 182 | 70 => 186 | 76 => 192 | 77 => 48 | n => n, fun | n => n⟩
theorem Tryz.laysSlF06_f100 : Go.Proofs.SlLaysF0.n6 Tryz.prog Tryz.laysSlF06_f100_ren := {
  mixed := by kernel_rfl
  f6 := ⟨Tryz.f100.name, by decide, Tryz.func100.trans (congrArg some (by kernel_rfl))⟩
  f14 := ⟨Tryz.f111.name, by decide, Tryz.func111.trans (congrArg some (by kernel_rfl))⟩
  f15 := Tryz.func112.trans (congrArg some (by kernel_rfl))
  f20 := ⟨Tryz.f117.name, by decide, Tryz.func117.trans (congrArg some (by kernel_rfl))⟩
  f21 := ⟨Tryz.f118.name, by decide, Tryz.func118.trans (congrArg some (by kernel_rfl))⟩
  f22 := ⟨Tryz.f119.name, by decide, Tryz.func119.trans (congrArg some (by kernel_rfl))⟩
  f23 := ⟨Tryz.f120.name, by decide, Tryz.func120.trans (congrArg some (by kernel_rfl))⟩
  f24 := ⟨Tryz.f121.name, by decide, Tryz.func121.trans (congrArg some (by kernel_rfl))⟩
  f25 := ⟨Tryz.f122.name, by decide, Tryz.func122.trans (congrArg some (by kernel_rfl))⟩
  f26 := ⟨Tryz.f123.name, by decide, Tryz.func123.trans (congrArg some (by kernel_rfl))⟩
  f27 := ⟨Tryz.f124.name, by decide, Tryz.func124.trans (congrArg some (by kernel_rfl))⟩
  f28 := Tryz.func125.trans (congrArg some (by kernel_rfl))
  f29 := Tryz.func126.trans (congrArg some (by kernel_rfl))
  f46 := ⟨Tryz.f131.name, by decide, Tryz.func131.trans (congrArg some (by kernel_rfl))⟩
  f47 := Tryz.func132.trans (congrArg some (by kernel_rfl))
  f48 := Tryz.func133.trans (congrArg some (by kernel_rfl))
  f49 := ⟨Tryz.f134.name, by decide, Tryz.func134.trans (congrArg some (by kernel_rfl))⟩
  f50 := ⟨Tryz.f135.name, by decide, Tryz.func135.trans (congrArg some (by kernel_rfl))⟩
  f57 := ⟨Tryz.f140.name, by decide, Tryz.func140.trans (congrArg some (by kernel_rfl))⟩
  t0 := Tryz.underlying0
  a0 := Tryz.isAgg0
  z0 := Tryz.sizeOf0
  v0 := Tryz.zeroValue0
  t3 := Tryz.underlying3
  a3 := Tryz.isAgg3
  z3 := Tryz.sizeOf3
  v3 := Tryz.zeroValue3
  t4 := Tryz.underlying4
  a4 := Tryz.isAgg4
  z4 := Tryz.sizeOf4
  v4 := Tryz.zeroValue4
  t5 := Tryz.underlying5
  a5 := Tryz.isAgg5
  z5 := Tryz.sizeOf5
  v5 := Tryz.zeroValue5
  t9 := Tryz.underlying9
  a9 := Tryz.isAgg9
  z9 := Tryz.sizeOf9
  v9 := Tryz.zeroValue9
  t22 := Tryz.underlying46
  a22 := Tryz.isAgg46
  z22 := Tryz.sizeOf46
  v22 := Tryz.zeroValue46
  t25 := Tryz.underlying162
  a25 := Tryz.isAgg162
  z25 := Tryz.sizeOf162
  v25 := Tryz.zeroValue162
  t39 := Tryz.underlying168
  a39 := Tryz.isAgg168
  z39 := Tryz.sizeOf168
  v39 := Tryz.zeroValue168
  t45 := Tryz.underlying171
  a45 := Tryz.isAgg171
  z45 := Tryz.sizeOf171
  v45 := Tryz.zeroValue171
  t46 := Tryz.underlying172
  a46 := Tryz.isAgg172
  z46 := Tryz.sizeOf172
  v46 := Tryz.zeroValue172
  t50 := Tryz.underlying66
  a50 := Tryz.isAgg66
  z50 := Tryz.sizeOf66
  v50 := Tryz.zeroValue66
  t53 := Tryz.underlying178
  a53 := Tryz.isAgg178
  z53 := Tryz.sizeOf178
  v53 := Tryz.zeroValue178
  t55 := Tryz.underlying180
  a55 := Tryz.isAgg180
  z55 := Tryz.sizeOf180
  v55 := Tryz.zeroValue180
  t66 := Tryz.underlying182
  a66 := Tryz.isAgg182
  z66 := Tryz.sizeOf182
  v66 := Tryz.zeroValue182
  t70 := Tryz.underlying186
  a70 := Tryz.isAgg186
  z70 := Tryz.sizeOf186
  v70 := Tryz.zeroValue186
  t76 := Tryz.underlying192
  a76 := Tryz.isAgg192
  z76 := Tryz.sizeOf192
  v76 := Tryz.zeroValue192
  t77 := Tryz.underlying48
  a77 := Tryz.isAgg48
  z77 := Tryz.sizeOf48
  v77 := Tryz.zeroValue48 }
open Go.RowKit Go.Lib Go.Sort in
theorem Tryz.slices_SortFunc_none {α : Type} [Inhabited α] (p : Option Addr) (cap : Nat) (fv : Value) (w : World) :
    Calls Tryz.prog 100 #[.slice p 0 cap, fv] w fun e w' => e = .returned (.tuple #[]) ∧ w' = w := AnyF.slices_SortFunc_none Tryz.laysSlF06_f100 p cap fv w
end Go.Proofs
namespace Go.Proofs.YtncmgiddcefpcaaGreatDoor
open Go Go.Ev Go.RowKit Go.Sort Go.Proofs Go.Shelf Go.Lib
set_option linter.unusedSimpArgs false
set_option linter.unusedVariables false
set_option maxRecDepth 100000
theorem nil_walk (d : Int) (w : World) : Calls Tryz.prog 73 #[.pointer none, .int .i64 d] w fun e w' => e = .returned (.slice none 0 0) ∧ Below w.heap.size w w' := by
  go_enter Tryz.func73, Tryz.ntmps73
  go_wp2
  go_ret
  exact ⟨rfl, Below.refl _ _⟩
theorem swo_bytes : SWO (ltOf Lib.compareBytes) := by
  have h : ∀ x y, ltOf Lib.compareBytes x y = decide (x < y) := fun x y => by
    unfold ltOf
    rw [Bool.eq_iff_iff]
    have := Go.Con.cmp_lt x y
    simp [this]
  refine { irrefl := fun x => ?_, trans := fun x y z h1 h2 => ?_, ntrans := fun x y z h1 h2 => ?_ }
  · rw [h]; simp [List.lt_irrefl]
  · rw [h] at *
    simp only [decide_eq_true_eq] at *
    exact List.lt_trans h1 h2
  · rw [h] at *
    simp only [decide_eq_false_iff_not, List.not_lt] at *
    exact List.le_trans h2 h1
theorem sort_ok : SortOK := by
  intro blk cap ss w cur hb ht hc hl
  have eg : ∀ args w, (callFunc 101 args).run Tryz.prog w = .ok (.enter 101 args) w := enters_of Tryz.func101 (by kernel_rfl) rfl
  have hcmp : CmpReads Tryz.prog 101 #[] encStr Lib.compareBytes blk 0 ss.toArray.size w := fun m os dk _ x y => (clos_walk _ _ _).mono fun e w' he => ⟨he.1, 0, he.2⟩
  have hcon := Tryz.slices_SortFunc encStr (fun _ => rfl) Lib.compareBytes swo_bytes 101 #[] blk 0 cap ss.toArray w eg hcmp.lays (holds_of_block hb ht) (Array.getElem?_eq_some_iff.1 hb).1 (by simpa using hl)
  have e1 : ss.toArray.size = ss.length := by simp
  rw [e1] at hcon
  refine hcon.mono fun e w' he => ?_
  obtain ⟨rfl, d', n, os, hp, hs, rfl⟩ := he
  refine ⟨rfl, n, os, ?_⟩
  have : d' = (sortB ss).toArray := by
    obtain ⟨hz, _, hpm⟩ := hp
    rw [e1] at hz
    have ed : d'.extract 0 ss.length = d' := by rw [← hz]; simp
    have es : ss.toArray.extract 0 ss.length = ss.toArray := by simp
    rw [ed, es] at hpm
    have hsorted : d'.toList.Pairwise fun a b => ¬ b < a := by
      rw [List.pairwise_iff_getElem]
      intro i j hi hj hij
      rw [Array.length_toList] at hi hj
      have := hs i j (Nat.zero_le _) hij (by omega)
      rw [getElem!_pos d' j hj, getElem!_pos d' i hi] at this
      unfold ltOf at this
      intro hlt
      have h2 := (Go.Con.cmp_lt d'[j] d'[i]).2 hlt
      simp [h2] at this
    have := sortB_uniq hpm hsorted
    rw [← this]
  rw [this]; rfl
theorem sort_nil : SortNil := fun w => (AnyF.slices_SortFunc_none { Tryz.laysSlF6_f100 with } none 0 _ w).mono fun e w' he => ⟨he.1, by rw [he.2]; exact Below.refl _ _⟩
theorem names_sum {I : Inv} : SumOK Tryz.prog I 73 (sumNames 9) := sumNames_ok (by kernel_rfl) nil_walk (names_walk sort_ok sort_nil)
end Go.Proofs.YtncmgiddcefpcaaGreatDoor
namespace Go.Proofs.YtncmgiddcefpcaaGreatDoor
open Go Go.Ev Go.RowKit
set_option linter.unusedSimpArgs false
set_option linter.unusedVariables false
set_option maxRecDepth 100000
theorem mask_all : ((List.range 115).all fun f => !(mask.testBit f) || okF Tryz.prog f) = true := by kernel_rfl
theorem ctx_mix : ctx.P.follows .mixedOrders = true := by kernel_rfl
theorem good1 : GoodF Tryz.prog 106 := ⟨Tryz.f106, Tryz.func106, by kernel_rfl, by kernel_rfl⟩
theorem good3 : GoodF Tryz.prog 110 := ⟨Tryz.f110, Tryz.func110, by kernel_rfl, by kernel_rfl⟩
theorem good4 : GoodF Tryz.prog 73 := ⟨Tryz.f73, Tryz.func73, by kernel_rfl, by kernel_rfl⟩
theorem sumAt_mem {f : Nat} {s : Sum} : ∀ {l : List (Nat × Sum)}, sumAt f l = some s → (f, s) ∈ l
  | (g, t) :: l, h => by
    unfold sumAt at h
    cases hb : Nat.beq f g with
    | true =>
      rw [hb] at h
      simp only [cond_true, Option.some.injEq] at h
      obtain rfl := Nat.eq_of_beq_eq_true hb
      rw [h]; exact List.mem_cons_self
    | false => rw [hb] at h; exact List.mem_cons_of_mem _ (sumAt_mem h)
theorem sums_good {I : Inv} (hI : ∀ m h w, I m h w → ∃ mx, w.cell? ⟨0, 0, none⟩ = some (.int .i64 mx)) : ∀ p ∈ sums, GoodF Tryz.prog p.1 ∧ SumOK Tryz.prog I p.1 p.2 := by
  intro p hp
  rcases List.mem_cons.1 hp with rfl | hp
  · exact ⟨good1, sumSplit_ok hI Tryz.strings_Split⟩
  rcases List.mem_cons.1 hp with rfl | hp
  · exact ⟨good3, sumCmp_ok (I := I) Tryz.strings_Compare⟩
  rcases List.mem_cons.1 hp with rfl | hp
  · exact ⟨good4, names_sum (I := I)⟩
  cases hp
theorem ctx_ok {I : Inv} (hI : ∀ m h w, I m h w → ∃ mx, w.cell? ⟨0, 0, none⟩ = some (.int .i64 mx)) : CtxOK ctx I (regOk ctx.P) := by
  refine ⟨fun f hf => mask_ok (k := 115) (of_decide_eq_true (by kernel_rfl)) mask_all f hf, fun f s hs args h v h' e => ?_⟩
  obtain ⟨h1, h2⟩ := sums_good hI (f, s) (sumAt_mem hs)
  exact ⟨h1, h2 args h v h' e⟩
theorem maxLen {w : World} (h : w.ShapedOpen Tryz.prog) : ∃ m, w.cell? ⟨0, 0, none⟩ = some (.int .i64 m) :=
  Go.Proofs.cell_of_shapedOpen_int (zero := #[.int .i64 0]) (t := 3) h (of_decide_eq_true (by kernel_rfl)) (by kernel_rfl) rfl (by kernel_rfl) (by kernel_rfl) Tryz.underlying3
end Go.Proofs.YtncmgiddcefpcaaGreatDoor
namespace Go.Proofs.YtncmgiddcefpcaaGreatDoor
open Go Go.Ev Go.RowKit
set_option linter.unusedSimpArgs false
set_option linter.unusedVariables false
set_option maxRecDepth 100000
def sumTrue : Sum := fun _ h => some (.bool true, h)
theorem sumTrue_ok {I : Inv} {f : FuncId} (hI : ∀ m h w, I m h w → ∃ mx, w.cell? ⟨0, 0, none⟩ = some (.int .i64 mx)) {n : Nat} (e : (evCall ctx n f [] h0).map (·.1) = some (.bool true)) : ∀ h v h', sumTrue [] h = some (v, h') → ∀ m w args', Rep ctx.P m h w → I m h w → VL m [] args' →
    Calls ctx.P f args'.toArray w fun e w' => ∃ v' m', e = .returned v' ∧ Rep ctx.P m' h' w' ∧ Step m h w m' h' w' ∧ VRel m' v v' := by
  intro h v h' hs m w args' r hi hv
  cases hv
  cases hs
  have hC : CtxOK ctx (From m0 h0 w) (regOk ctx.P) := ctx_ok fun _ _ _ i => (hI m h w hi).imp fun _ e => i.cell0 e
  refine (closed_bool hC ctx_mix e).mono fun e w' he => ?_
  obtain ⟨rfl, hb⟩ := he
  obtain ⟨h1, h2⟩ := r.below hb
  exact ⟨_, m, rfl, h1, h2, .bool _⟩
theorem awake_val : (awakes.all fun f => match ((evCall ctx 200 f [] h0).map (·.1) : Option Value) with
  | some (.bool b) => b
  | _ => false) = true := by kernel_rfl
theorem awake_good : (awakes.all fun f => match Tryz.prog.funcs[f]? with
  | some fn => fn.body.isSome && !(fn.name == "runtime.NumGoroutine")
  | none => false) = true := by kernel_rfl
theorem kon_ok {I : Inv} (hI : ∀ m h w, I m h w → ∃ mx, w.cell? ⟨0, 0, none⟩ = some (.int .i64 mx)) : CtxOK kon I (regOk kon.P) := by
  have base := ctx_ok hI
  refine ⟨base.1, fun f s hs args h v h' e => ?_⟩
  simp only [kon] at hs
  cases hf : awakes.contains f with
  | false => rw [hf] at hs; exact base.2 f s hs args h v h' e
  | true =>
    rw [hf] at hs
    simp only [cond_true, Option.some.injEq] at hs
    subst hs
    have hm : f ∈ awakes := by simpa using hf
    have h1 := List.all_eq_true.1 awake_val f hm
    have h2 := List.all_eq_true.1 awake_good f hm
    unfold sumAwake at e
    split at e
    · refine ⟨?_, fun m w args' r hi hv => ?_⟩
      · split at h2
        · rename_i fn hfn
          simp only [Bool.and_eq_true, Bool.not_eq_true'] at h2
          exact ⟨fn, hfn, h2.2, by have := h2.1; cases hb : fn.body <;> simp_all⟩
        · cases h2
      · refine sumTrue_ok hI (n := 200) ?_ h v h' (by simpa [sumTrue] using e) m w args' r hi hv
        split at h1
        · rename_i b hb
          rw [hb, h1]
        · cases h1
    · cases e
theorem kon_mix : kon.P.follows .mixedOrders = true := ctx_mix
theorem kon_from {w0 : World} (h : w0.ShapedOpen Tryz.prog) : CtxOK kon (From (mIn w0) (hIn w0) w0) (regOk kon.P) :=
  kon_ok fun _ _ _ i => (maxLen h).imp fun _ e => i.cellIn e
end Go.Proofs.YtncmgiddcefpcaaGreatDoor
namespace Go.Proofs.YtncmgiddcefpcaaGreatDoor
open Go Go.Ev Go.RowKit
set_option linter.unusedSimpArgs false
set_option linter.unusedVariables false
set_option maxRecDepth 1000000
end Go.Proofs.YtncmgiddcefpcaaGreatDoor
namespace Go.Proofs.YtncmgiddcefpcaaGreatDoor
open Go Go.Ev Go.RowKit Go.Con
set_option linter.unusedSimpArgs false
set_option linter.unusedVariables false
set_option maxRecDepth 1000000
end Go.Proofs.YtncmgiddcefpcaaGreatDoor
namespace Go.Proofs.YtncmgiddcefpcaaGreatDoor
open Go Go.Ev Go.RowKit Go.Con
set_option linter.unusedSimpArgs false
set_option linter.unusedVariables false
set_option maxRecDepth 1000000
theorem rdTm {W : World} {cs : List Value} (r : RdT Tryz.prog W 65 cs) : ∃ x : Tm, cs = tmC x := by
  have hl := r.len Tryz.underlying65 (n := 4) (by kernel_rfl)
  match cs, hl, r with
  | [a, b, c, d], _, r =>
    obtain ⟨s, hs, _⟩ := (r.field Tryz.underlying65 0 9 0 1 rfl (by kernel_rfl)).string Tryz.underlying9
    have rf : RdT Tryz.prog W 62 [b, c, d] := r.field Tryz.underlying65 1 62 1 3 rfl (by kernel_rfl)
    have c1 : Tryz.prog.cellsOf 4 = 1 := by kernel_rfl
    obtain ⟨x, hx⟩ := (rf.field Tryz.underlying62 0 4 0 1 rfl c1).bool Tryz.underlying4
    obtain ⟨y, hy⟩ := (rf.field Tryz.underlying62 1 4 1 1 rfl c1).bool Tryz.underlying4
    obtain ⟨z, hz⟩ := (rf.field Tryz.underlying62 2 4 2 1 rfl c1).bool Tryz.underlying4
    cases hs; cases hx; cases hy; cases hz
    exact ⟨⟨s, ⟨x, y, z⟩⟩, rfl⟩
theorem tms_of {cs' : List Value} {xs : List Tm} (hl : cs'.length = xs.length * 4) (h : ∀ (i : Nat) (x : Tm), xs[i]? = some x → (cs'.drop (i * 4)).take 4 = tmC x) : cs' = tms xs := by
  induction xs generalizing cs' with
  | nil => have : cs'.length = 0 := by simpa using hl
           exact List.length_eq_zero_iff.1 this
  | cons a xs ih =>
    have h0 := h 0 a rfl
    rw [Nat.zero_mul, List.drop_zero] at h0
    have e : cs' = tmC a ++ cs'.drop 4 := by rw [← h0, List.take_append_drop]
    have e2 : cs'.drop 4 = tms xs := by
      refine ih (by rw [List.length_drop, hl, List.length_cons]; omega) fun i x hi => ?_
      have := h (i + 1) x (by simpa using hi)
      rw [List.drop_drop, ← this]; congr 2; omega
    rw [e, e2]; rfl
theorem tms_in {W : World} (hsh : W.ShapedOpen Tryz.prog) {cs : List Value} (r : RdT Tryz.prog W 30 cs) : ∃ (v v' : Value) (l : List Tm), cs = [v] ∧ (v = .slice none 0 0 ∨ ∃ a len cap, v = .slice (some a) len cap) ∧ absC W.heap.size v = some v' ∧ TmSl (hIn W) v' l := by
  obtain ⟨v, v', xs, cs', hv, hv2, hva, hsl, hlen, hR⟩ := sl_in (α := Tm) (n := 4) (fun x l => l = tmC x) (P := Tryz.prog) (W := W) (e := 65) (by kernel_rfl) (by omega)
    (fun l h => by obtain ⟨x, rfl⟩ := rdTm h; exact ⟨x, tmC x, rfl, rfl⟩) (by obtain ⟨m, h⟩ := maxLen hsh; exact ⟨_, h⟩) Tryz.underlying30 r
  have hcs := tms_of hlen hR
  subst hcs
  exact ⟨v, v', xs, hv, hv2, hva, hsl⟩
theorem strs_in {W : World} (hsh : W.ShapedOpen Tryz.prog) {cs : List Value} (r : RdT Tryz.prog W 46 cs) : ∃ (v v' : Value) (l : List ByteArray), cs = [v] ∧ (v = .slice none 0 0 ∨ ∃ a len cap, v = .slice (some a) len cap) ∧ absC W.heap.size v = some v' ∧ StrSl (hIn W) v' l := by
  obtain ⟨v, v', xs, cs', hv, hv2, hva, hsl, hlen, hR⟩ := sl_in (α := ByteArray) (n := 1) (fun x l => l = [.string x]) (P := Tryz.prog) (W := W) (e := 9) (by kernel_rfl) (Nat.le_refl _)
    (fun l h => by obtain ⟨s, rfl, _⟩ := h.string Tryz.underlying9; exact ⟨s, [.string s], rfl, rfl⟩) (by obtain ⟨m, h⟩ := maxLen hsh; exact ⟨_, h⟩) Tryz.underlying46 r
  have hcs : cs' = strs xs := by
    apply List.ext_getElem?
    intro i
    by_cases hi : i < xs.length
    · have h1 := hR i xs[i] (List.getElem?_eq_getElem hi)
      rw [Nat.mul_one] at h1
      have h2 : (cs'.drop i)[0]? = some (.string xs[i]) := by
        have : ((cs'.drop i).take 1)[0]? = some (.string xs[i]) := by rw [h1]; rfl
        rw [List.getElem?_take, if_pos (by omega)] at this; exact this
      rw [List.getElem?_drop, Nat.add_zero] at h2
      rw [h2]; simp [strs, List.getElem?_eq_getElem hi]
    · rw [List.getElem?_eq_none (by omega), List.getElem?_eq_none (by simp [strs]; omega)]
  subst hcs
  exact ⟨v, v', xs, hv, hv2, hva, hsl⟩
end Go.Proofs.YtncmgiddcefpcaaGreatDoor
namespace Go.Proofs.YtncmgiddcefpcaaGreatDoor
open Go Go.Ev Go.RowKit Go.Con
set_option linter.unusedSimpArgs false
set_option linter.unusedVariables false
set_option maxRecDepth 1000000
theorem rdDd {W : World} (hsh : W.ShapedOpen Tryz.prog) {cs : List Value} (r : RdT Tryz.prog W 36 cs) : ∃ (d : Dd) (cs' : List Value), absL W.heap.size cs = some cs' ∧ ∃ sl, cs' = ddC d sl ∧ TmSl (hIn W) sl d.b.acl := by
  have c1 : Tryz.prog.cellsOf 3 = 1 := by kernel_rfl
  have cb : Tryz.prog.cellsOf 4 = 1 := by kernel_rfl
  have c2 : Tryz.prog.cellsOf 9 = 1 := by kernel_rfl
  have hl := r.len Tryz.underlying36 (n := 14) (by kernel_rfl)
  match cs, hl, r with
  | [x0, x1, x2, x3, y0, y1, y2, y3, y4, y5, z0, z1, z2, z3], _, r =>
    have r0 : RdT Tryz.prog W 3 [x0] := r.field Tryz.underlying36 0 3 0 1 rfl c1
    have r1 : RdT Tryz.prog W 3 [x1] := r.field Tryz.underlying36 1 3 1 1 rfl c1
    have r2 : RdT Tryz.prog W 9 [x2] := r.field Tryz.underlying36 2 9 2 1 rfl c2
    have r3 : RdT Tryz.prog W 9 [x3] := r.field Tryz.underlying36 3 9 3 1 rfl c2
    have rb : RdT Tryz.prog W 34 [y0, y1, y2, y3, y4, y5, z0, z1, z2, z3] := r.field Tryz.underlying36 4 34 4 10 rfl (by kernel_rfl)
    have b0 : RdT Tryz.prog W 3 [y0] := rb.field Tryz.underlying34 0 3 0 1 rfl c1
    have b1 : RdT Tryz.prog W 3 [y1] := rb.field Tryz.underlying34 1 3 1 1 rfl c1
    have b2 : RdT Tryz.prog W 3 [y2] := rb.field Tryz.underlying34 2 3 2 1 rfl c1
    have b3 : RdT Tryz.prog W 9 [y3] := rb.field Tryz.underlying34 3 9 3 1 rfl c2
    have b4 : RdT Tryz.prog W 4 [y4] := rb.field Tryz.underlying34 4 4 4 1 rfl cb
    have b5 : RdT Tryz.prog W 30 [y5] := rb.field Tryz.underlying34 5 30 5 1 rfl (by kernel_rfl)
    have b6 : RdT Tryz.prog W 32 [z0, z1, z2, z3] := rb.field Tryz.underlying34 6 32 6 4 rfl (by kernel_rfl)
    obtain ⟨a0, h0, _⟩ := r0.int Tryz.underlying3
    obtain ⟨a1, h1, _⟩ := r1.int Tryz.underlying3
    obtain ⟨a2, h2, _⟩ := r2.string Tryz.underlying9
    obtain ⟨a3, h3, _⟩ := r3.string Tryz.underlying9
    obtain ⟨d0, i0, _⟩ := b0.int Tryz.underlying3
    obtain ⟨d1, i1, _⟩ := b1.int Tryz.underlying3
    obtain ⟨d2, i2, _⟩ := b2.int Tryz.underlying3
    obtain ⟨d3, i3, _⟩ := b3.string Tryz.underlying9
    obtain ⟨d4, i4⟩ := b4.bool Tryz.underlying4
    obtain ⟨v, v', l, hv, _, hva, hs⟩ := tms_in hsh b5
    obtain ⟨e0, j0, _⟩ := (b6.field Tryz.underlying32 0 3 0 1 rfl c1).int Tryz.underlying3
    obtain ⟨e1, j1, _⟩ := (b6.field Tryz.underlying32 1 3 1 1 rfl c1).int Tryz.underlying3
    obtain ⟨e2, j2, _⟩ := (b6.field Tryz.underlying32 2 3 2 1 rfl c1).int Tryz.underlying3
    obtain ⟨e3, j3, _⟩ := (b6.field Tryz.underlying32 3 3 3 1 rfl c1).int Tryz.underlying3
    cases h0; cases h1; cases h2; cases h3; cases i0; cases i1; cases i2; cases i3; cases i4; cases hv; cases j0; cases j1; cases j2; cases j3
    refine ⟨⟨a0, a1, a2, a3, ⟨d0, d1, d2, d3, d4, l, ⟨e0, e1, e2, e3⟩⟩⟩, ddC ⟨a0, a1, a2, a3, ⟨d0, d1, d2, d3, d4, l, ⟨e0, e1, e2, e3⟩⟩⟩ v', ?_, v', rfl, hs⟩
    have key : ∀ {x a : Value} {l bs : List Value}, absC W.heap.size x = some a → absL W.heap.size l = some bs → absL W.heap.size (x :: l) = some (a :: bs) := fun {x a l bs} h1 h2 => by unfold absL; rw [h1, Option.bind_some, h2]; rfl
    exact key rfl (key rfl (key rfl (key rfl (key rfl (key rfl (key rfl (key rfl (key rfl (key hva (key rfl (key rfl (key rfl (key rfl rfl)))))))))))))
theorem dds_in {W : World} (hsh : W.ShapedOpen Tryz.prog) {cs : List Value} (r : RdT Tryz.prog W 22 cs) : ∃ (v v' : Value) (l : List Dd), cs = [v] ∧ (v = .slice none 0 0 ∨ ∃ a len cap, v = .slice (some a) len cap) ∧ absC W.heap.size v = some v' ∧ DdSl (hIn W) v' l := by
  obtain ⟨v, v', xs, cs', hv, hv2, hva, hsl, hlen, hR⟩ := sl_in (α := Dd) (n := 14) (fun d l => ∃ sl, l = ddC d sl ∧ TmSl (hIn W) sl d.b.acl) (P := Tryz.prog) (W := W) (e := 36) (by kernel_rfl) (by omega)
    (fun l h => rdDd hsh h) (by obtain ⟨m, h⟩ := maxLen hsh; exact ⟨_, h⟩) Tryz.underlying22 r
  exact ⟨v, v', xs, hv, hv2, hva, cs', hsl, hlen, hR⟩
theorem absA_cons {N : Nat} {x a : Value} {l bs : List Value} (h1 : absV N x = some a) (h2 : absA N l = some bs) : absA N (x :: l) = some (a :: bs) := by unfold absA; rw [h1, Option.bind_some, h2]; rfl
theorem slice_one {a : Option Addr} {len cap : Nat} {v : Value} (h : (Value.slice a len cap).cells.toList = [v]) : v = .slice a len cap := by
  have : (Value.slice a len cap).cells.toList = [.slice a len cap] := rfl
  rw [this] at h; simpa using h.symm
end Go.Proofs.YtncmgiddcefpcaaGreatDoor
namespace Go.Proofs.YtncmgiddcefpcaaGreatDoor
open Go Go.Ev Go.RowKit Go.Con
set_option linter.unusedSimpArgs false
set_option linter.unusedVariables false
set_option maxRecDepth 1000000
theorem StrSl.at3 {h : Hp} {v : Value} {ps : List ByteArray} (s : StrSl h v ps) {j : Nat} {p : ByteArray} (hj : ps[j]? = some p) : ∃ b o all, evIndexAddr kon.P 46 v (.int .i64 j) = some (.pointer (some ⟨b, o, none⟩)) ∧ b < h.next ∧ rowOf h b = some all ∧ all[o]? = some (.string p) := by
  have h5 : j < ps.length := (List.getElem?_eq_some_iff.1 hj).1
  obtain ⟨b', o', all', w1, w2, w3⟩ := StrSl.at2 s hj
  rcases s with ⟨rfl, hl⟩ | ⟨b, o, k, c, all, rfl, g2, g3, g4, g5, g6⟩
  · have : (strs ps).length = 0 := by rw [hl]; rfl
    rw [strs_len] at this; omega
  · have hk : k = ps.length := by rw [strs_len] at g5; omega
    subst hk
    have := L_indexAddr (C := kon) (t := 46) (e := 9) (n := 1) (by kernel_rfl) (by kernel_rfl) b o ps.length c .i64 j (by omega) (by omega)
    rw [w1] at this
    simp only [Option.some.injEq, Value.pointer.injEq, Addr.mk.injEq] at this
    obtain ⟨rfl, _⟩ := this
    exact ⟨_, _, _, w1, g3, w2, w3⟩
theorem rdRl {W : World} {cs : List Value} (r : RdT Tryz.prog W 83 cs) : ∃ m : Rl, cs = rlC m := by
  have hl := r.len Tryz.underlying83 (n := 2) (by kernel_rfl)
  match cs, hl, r with
  | [x, y], _, r =>
    obtain ⟨a, ha, _⟩ := (r.field Tryz.underlying83 0 3 0 1 rfl (by kernel_rfl)).int Tryz.underlying3
    obtain ⟨b, hb, _⟩ := (r.field Tryz.underlying83 1 9 1 1 rfl (by kernel_rfl)).string Tryz.underlying9
    cases ha; cases hb
    exact ⟨⟨a, b⟩, rfl⟩
theorem rls_of {cs' : List Value} {xs : List Rl} (hl : cs'.length = xs.length * 2) (h : ∀ (i : Nat) (x : Rl), xs[i]? = some x → (cs'.drop (i * 2)).take 2 = rlC x) : cs' = (xs.map rlC).flatten := by
  induction xs generalizing cs' with
  | nil => have : cs'.length = 0 := by simpa using hl
           exact List.length_eq_zero_iff.1 this
  | cons a xs ih =>
    have h0 := h 0 a rfl
    rw [Nat.zero_mul, List.drop_zero] at h0
    have e : cs' = rlC a ++ cs'.drop 2 := by rw [← h0, List.take_append_drop]
    have e2 : cs'.drop 2 = (xs.map rlC).flatten := by
      refine ih (by rw [List.length_drop, hl, List.length_cons]; omega) fun i x hi => ?_
      have := h (i + 1) x (by simpa using hi)
      rw [List.drop_drop, ← this]; congr 2; omega
    rw [e, e2]; rfl
theorem rls_in {W : World} (hsh : W.ShapedOpen Tryz.prog) {cs : List Value} (r : RdT Tryz.prog W 81 cs) : ∃ (v v' : Value) (l : List Rl), cs = [v] ∧ (v = .slice none 0 0 ∨ ∃ a len cap, v = .slice (some a) len cap) ∧ absC W.heap.size v = some v' ∧ RlSl (hIn W) v' l := by
  obtain ⟨v, v', xs, cs', hv, hv2, hva, hsl, hlen, hR⟩ := sl_in (α := Rl) (n := 2) (fun x l => l = rlC x) (P := Tryz.prog) (W := W) (e := 83) (by kernel_rfl) (by omega)
    (fun l h => by obtain ⟨x, rfl⟩ := rdRl h; exact ⟨x, rlC x, rfl, rfl⟩) (by obtain ⟨m, h⟩ := maxLen hsh; exact ⟨_, h⟩) Tryz.underlying81 r
  have hcs := rls_of hlen hR
  subst hcs
  exact ⟨v, v', xs, hv, hv2, hva, hsl⟩
end Go.Proofs.YtncmgiddcefpcaaGreatDoor
